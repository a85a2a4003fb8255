/-
  event.fields: a map from the kinds to the functions that tell the next field. No condition.
-/
import Derived.Test.YtgfmlaflochffaaGreatDoorMapGZ
import Derived.Carry
namespace Go.Proofs.YtgfmlaflochffaaGreatDoor
open Go.RowKit Go.Maps W
attribute [local go_sem ↓] Go.wp_at_zero Go.wp_at_succ
/-- A kind's number fits. -/
def KindOk (k : Int) : Prop := -9223372036854775808 ≤ k ∧ k ≤ 9223372036854775807
theorem insW_run' {W : World} {b : Nat} {k : Int} {v : Value} (h : MapO W b) (hk : KindOk k) : (Instr.mapUpdate tMap (.map (some b)) (.int .i64 k) v).run Tryz.prog W = .ok () (insW W b k v) := insW_run h hk.1 hk.2
attribute [local go_sem ↓] insW_run'

/-- What 'fields' keeps in mind: the box of its function 'list'. -/
structure Qf (w W : World) : Prop where
  lst : W.cell? ⟨w.heap.size, 0, none⟩ = some listV
  below : Below w.heap.size w W
  lt : w.heap.size < W.heap.size
theorem Qf.start (w : World) : Qf w (w.alloc (.cells #[listV] 148)) :=
  ⟨(Blk.new w _ _).cell 0, (Below.refl _ _).alloc (Nat.le_refl _) _, by simp⟩
theorem Qf.call {w W W' : World} (h : Qf w W) (hb : Below W.heap.size W W') : Qf w W' :=
  ⟨(hb.cell (p := ⟨w.heap.size, 0, none⟩) h.lt).trans h.lst, h.below.trans (hb.mono h.below.size), Nat.lt_of_lt_of_le h.lt hb.size⟩
theorem Qf.drew {w W : World} (h : Qf w W) : Qf w W.drew := ⟨h.lst, h.below.drew, h.lt⟩
theorem Qf.alloc {w W : World} (h : Qf w W) (o : Obj) : Qf w (W.alloc o) := h.call ((Below.refl _ _).alloc (Nat.le_refl _) o)
theorem Qf.ins {w W W' : World} {b n : Nat} {f : Int → Value} (h : Qf w W) (hm : MapV W b n f) (hB : w.heap.size ≤ b) (hg : W.grownBy W' (some b)) : Qf w W' := by
  obtain ⟨es, c, hb⟩ := map_obj hm
  refine ⟨hg.cell h.lst (fun e => ?_), h.below.grown hg h.below.size (fun k hk => by cases hk; exact hB), Nat.lt_of_lt_of_le h.lt hg.size⟩
  injection e with e
  simp only at e
  have h1 := h.lst
  rw [e] at h1
  simp [World.cell?, hb] at h1
theorem MapO.of {W : World} {b n : Nat} {f : Int → Value} (h : MapV W b n f) (hn : n < 100) : MapO W b := ⟨n, f, hn, h⟩
theorem mapO_made (W : World) : MapO (W.alloc (.map #[] 0)) W.heap.size := MapO.of (MapV.made W) (by omega)

theorem row_drew {w : World} {B n size : Nat} {e : TypeId} {v : Value} {xs : List Value} (h : w.ownsRow B e size v n xs) : w.drew.ownsRow B e size v n xs := h
/-- What a value says of the next field: none: it is nil. -/
def Says (L : Nat) (W : World) (v : Value) : Option (List Fld) → Prop
  | none => v = .nilFunc
  | some fs => ∃ g, v = clV g ∧ ListFn L W g fs

theorem fields_fin {w X : World} {b g : Nat} (hq : Qf w X) (hm : MapV X b 0 nilF) (hl : ListFn w.heap.size X g [.T, .H]) (hB : w.heap.size ≤ b) :
    ∃ b' g', Value.map (some b) = .map (some b') ∧ w.heap.size ≤ b' ∧ MapV (insW X b 1 (.func (.func 65) #[] #[.pointer (some ⟨g, 0, none⟩)])) b' 1 (updV nilF 1 (clV g')) ∧ ListFn w.heap.size (insW X b 1 (.func (.func 65) #[] #[.pointer (some ⟨g, 0, none⟩)])) g' [.T, .H] ∧ Qf w (insW X b 1 (.func (.func 65) #[] #[.pointer (some ⟨g, 0, none⟩)])) := by
  obtain ⟨h1, h2⟩ := insW_is hm (by omega) (k := 1) (by omega) (by omega) (clV g)
  exact ⟨b, g, rfl, hB, h1, hl.ins hm h2, hq.ins hm hB h2⟩

/-- What the map holds behind the first stores. -/
def atK (k : Nat) (kind : Int) : Option (List Fld) := if kind = 1 then some [.T, .H] else if 4 ≤ kind ∧ kind < 4 + (k : Int) then some [.T] else none
theorem Says.ins {L : Nat} {W W' : World} {v : Value} {o : Option (List Fld)} {b n : Nat} {f : Int → Value} (h : Says L W v o) (hm : MapV W b n f) (hg : W.grownBy W' (some b)) : Says L W' v o := by
  cases o with
  | none => exact h
  | some fs =>
    obtain ⟨g, h1, h2⟩ := h
    exact ⟨g, h1, h2.ins hm hg⟩
theorem Says.call {L : Nat} {W W' : World} {v : Value} {o : Option (List Fld)} (h : Says L W v o) (hb : Below W.heap.size W W') : Says L W' v o := by
  cases o with
  | none => exact h
  | some fs =>
    obtain ⟨g, h1, h2⟩ := h
    exact ⟨g, h1, h2.call hb⟩
theorem says_first {L : Nat} {W : World} {g : Nat} (h : ListFn L W g [.T, .H]) (kind : Int) : Says L W (updV nilF 1 (clV g) kind) (atK 0 kind) := by
  unfold updV atK
  by_cases hk : kind = 1
  · rw [if_pos hk, if_pos hk]
    exact ⟨g, rfl, h⟩
  · rw [if_neg hk, if_neg hk, if_neg (by omega)]
    rfl
theorem says_next {L : Nat} {W W' : World} {g b n k : Nat} {f : Int → Value} (hs : ∀ kind, Says L W (f kind) (atK k kind)) (hm : MapV W b n f) (hg : W.grownBy W' (some b)) (h : ListFn L W g [.T]) (kind : Int) : Says L W' (updV f ((k : Int) + 4) (clV g) kind) (atK (k + 1) kind) := by
  have h2 := (hs kind).ins hm hg
  unfold updV
  by_cases hk : kind = (k : Int) + 4
  · rw [if_pos hk]
    unfold atK
    rw [if_neg (by omega), if_pos (by omega)]
    exact ⟨g, rfl, h.ins hm hg⟩
  · rw [if_neg hk]
    have e : atK (k + 1) kind = atK k kind := by
      unfold atK
      by_cases h1 : kind = 1
      · rw [if_pos h1, if_pos h1]
      · rw [if_neg h1, if_neg h1]
        by_cases h4 : 4 ≤ kind ∧ kind < 4 + (k : Int)
        · rw [if_pos h4, if_pos (by omega)]
        · rw [if_neg h4, if_neg (by omega)]
    rw [e]
    exact h2
theorem kinds_cell {W : World} {q : Nat} (h : Blk W q 3 #[.int .i64 4, .int .i64 5, .int .i64 6, .int .i64 7]) (k : Nat) (hk : k < 4) : W.cell? ⟨q, k, none⟩ = some (.int .i64 ((k : Int) + 4)) := by
  rw [h.cell]
  rcases (show k = 0 ∨ k = 1 ∨ k = 2 ∨ k = 3 by omega) with rfl | rfl | rfl | rfl <;> rfl
theorem blk_ins {W W' : World} {q b n : Nat} {t : TypeId} {cs : Array Value} {f : Int → Value} (h : Blk W q t cs) (hm : MapV W b n f) (hg : W.grownBy W' (some b)) : Blk W' q t cs := by
  obtain ⟨es, c, hb⟩ := map_obj hm
  refine h.grown hg (fun e => ?_)
  injection e with e
  subst e
  unfold Blk at h
  rw [h] at hb
  cases hb

/-- v tells the next field of an event of this kind, in this world and in all that come of it. -/
def NextV (W : World) (v : Value) (kind : Int) : Prop :=
  if 1 ≤ kind ∧ kind ≤ 7 then ∃ F c, v = .func (.func F) #[] #[.pointer (some ⟨c, 0, none⟩)] ∧ (∀ args W', (callFunc F args).run Tryz.prog W' = .ok (.enter F args) W') ∧
    ∀ (e : Ev) (i : Nat) W', Below W.heap.size W W' → e.kind = kind → Calls Tryz.prog F #[.agg (evArr e), .int .i64 i, .pointer (some ⟨c, 0, none⟩)] W' fun r w'' => r = .returned (.tuple #[.agg (fat e.fl i), .bool (decide (i < e.fl.length))]) ∧ Below W'.heap.size W' w''
  else v = .nilFunc
def FieldsAt (W : World) (b : Nat) : Prop := ∃ n f, MapV W b n f ∧ ∀ kind, NextV W (f kind) kind
/-- As NextV, in all worlds that keep the blocks from L on. -/
def NextS (L : Nat) (W : World) (v : Value) (kind : Int) : Prop :=
  if 1 ≤ kind ∧ kind ≤ 7 then ∃ F c, v = .func (.func F) #[] #[.pointer (some ⟨c, 0, none⟩)] ∧ (∀ args W', (callFunc F args).run Tryz.prog W' = .ok (.enter F args) W') ∧
    ∀ (e : Ev) (i : Nat) W', Since L W W' → e.kind = kind → Calls Tryz.prog F #[.agg (evArr e), .int .i64 i, .pointer (some ⟨c, 0, none⟩)] W' fun r w'' => r = .returned (.tuple #[.agg (fat e.fl i), .bool (decide (i < e.fl.length))]) ∧ Below W'.heap.size W' w''
  else v = .nilFunc
def FieldsSince (L : Nat) (W : World) (b : Nat) : Prop := ∃ n f, MapV W b n f ∧ ∀ kind, NextS L W (f kind) kind
theorem NextS.toV {L : Nat} {W : World} {v : Value} {kind : Int} (h : NextS L W v kind) : NextV W v kind := by
  unfold NextS at h
  unfold NextV
  split
  · rename_i hk
    rw [if_pos hk] at h
    obtain ⟨F, c, h1, h2, h3⟩ := h
    exact ⟨F, c, h1, h2, fun e i W2 hb2 => h3 e i W2 (Since.of hb2)⟩
  · rename_i hk
    rwa [if_neg hk] at h
theorem FieldsSince.at {L : Nat} {W : World} {b : Nat} (h : FieldsSince L W b) : FieldsAt W b := by
  obtain ⟨n, f, h1, h2⟩ := h
  exact ⟨n, f, h1, fun k => (h2 k).toV⟩
theorem fields_at {w W : World} {b n : Nat} {f : Int → Value} (hm : MapV W b n (updV (updV f 2 (.func (.func 68) #[] #[.pointer (some ⟨w.heap.size, 0, none⟩)])) 3 (.func (.func 75) #[] #[.pointer (some ⟨w.heap.size, 0, none⟩)])))
    (hs : ∀ kind, Says w.heap.size W (f kind) (atK 4 kind)) (hq : Qf w W) : FieldsSince w.heap.size W b := by
  refine ⟨n, _, hm, fun kind => ?_⟩
  unfold NextS updV
  by_cases h3 : kind = 3
  · rw [if_pos h3, if_pos (by omega)]
    refine ⟨_, _, rfl, fun args W' => enters_of Tryz.func75 (by kernel_rfl) rfl _ W', fun e i W' hb hk => ?_⟩
    have e1 : e.fl = retFl e.ret := by unfold Ev.fl flds; rw [hk, h3]; rfl
    rw [e1]
    exact next_ret e i _ W' (hb.cell (p := ⟨w.heap.size, 0, none⟩) (Nat.le_refl _) hq.lst)
  · rw [if_neg h3]
    by_cases h2 : kind = 2
    · rw [if_pos h2, if_pos (by omega)]
      refine ⟨_, _, rfl, fun args W' => enters_of Tryz.func68 (by kernel_rfl) rfl _ W', fun e i W' hb hk => ?_⟩
      have e1 : e.fl = callFl e.op := by unfold Ev.fl flds; rw [hk, h2]; rfl
      rw [e1]
      exact next_call e i _ W' (hb.cell (p := ⟨w.heap.size, 0, none⟩) (Nat.le_refl _) hq.lst)
    · rw [if_neg h2]
      have h := hs kind
      by_cases h7 : 1 ≤ kind ∧ kind ≤ 7
      · rw [if_pos h7]
        have e0 : atK 4 kind = some (flds kind 0 0) := by
          unfold atK flds
          by_cases h1 : kind = 1
          · rw [if_pos h1, if_pos h1]
          · rw [if_neg h1, if_neg h1, if_neg h2, if_neg h3, if_pos (by omega)]
        rw [e0] at h
        obtain ⟨g, h4, h5⟩ := h
        refine ⟨_, _, h4, fun args W' => enters_of Tryz.func65 (by kernel_rfl) rfl _ W', fun e i W' hb hk => ?_⟩
        have e1 : e.fl = flds kind 0 0 := by
          unfold Ev.fl flds
          rw [hk, if_neg h2, if_neg h3, if_neg h2, if_neg h3]
        rw [e1]
        exact listFn_call (h5.since hb) e i
      · rw [if_neg h7]
        have e0 : atK 4 kind = none := by
          unfold atK
          rw [if_neg (by omega), if_neg (by omega)]
        rw [e0] at h
        exact h
theorem NextV.call {W W' : World} {v : Value} {kind : Int} (h : NextV W v kind) (hb : Below W.heap.size W W') : NextV W' v kind := by
  unfold NextV at h ⊢
  split
  · rename_i hk
    rw [if_pos hk] at h
    obtain ⟨F, c, h1, h2, h3⟩ := h
    exact ⟨F, c, h1, h2, fun e i W2 hb2 => h3 e i W2 (hb.trans (hb2.mono hb.size))⟩
  · rename_i hk
    rwa [if_neg hk] at h

set_option maxHeartbeats 8000000 in
set_option maxRecDepth 100000 in
theorem fieldsCallS (w : World) : Calls Tryz.prog 51 #[] w fun e w' => ∃ b, e = .returned (.map (some b)) ∧ FieldsSince w.heap.size w' b ∧ Below w.heap.size w w' := by
  have hmm := @run_makeMap Tryz.prog
  have hmo := mapO_made
  have ko1 : KindOk 1 := ⟨by omega, by omega⟩
  have ko2 : KindOk 2 := ⟨by omega, by omega⟩
  have ko3 : KindOk 3 := ⟨by omega, by omega⟩
  have hq0 := Qf.start w
  unfold listV at hq0
  have HQ := hid hq0
  clear hq0
  have HR := hid (fun (X : World) (hX : w.heap.size < X.heap.size) => row_new (w := X) (cs := (flat [.T, .H]).toArray) (t := 133) (B := w.heap.size + 1) (size := 4) (n := 2) rfl hX (by unfold maxLen; omega))
  change Hid (∀ X : World, w.heap.size < X.heap.size → (X.alloc (.cells #[.func (.func (fid .T)) #[] #[], .int .i64 ((Fld.T).tab : Int), .int .i64 (Fld.T).lo, .int .i64 (Fld.T).hi, .func (.func (fid .H)) #[] #[], .int .i64 ((Fld.H).tab : Int), .int .i64 (Fld.H).lo, .int .i64 (Fld.H).hi] 133)).ownsRow (w.heap.size + 1) 133 4 (.slice (some ⟨X.heap.size, 0, none⟩) 2 2) 2 (flat [.T, .H])) at HR
  have HR2 := hid (fun (X : World) (hX : w.heap.size < X.heap.size) => row_new (w := X.alloc (.map #[] 0)) (cs := (flat [.T, .H]).toArray) (t := 133) (B := w.heap.size + 1) (size := 4) (n := 2) rfl (by rw [World.size_alloc]; omega) (by unfold maxLen; omega))
  simp only [World.size_alloc] at HR2
  change Hid (∀ X : World, w.heap.size < X.heap.size → ((X.alloc (.map #[] 0)).alloc (.cells #[.func (.func (fid .T)) #[] #[], .int .i64 ((Fld.T).tab : Int), .int .i64 (Fld.T).lo, .int .i64 (Fld.T).hi, .func (.func (fid .H)) #[] #[], .int .i64 ((Fld.H).tab : Int), .int .i64 (Fld.H).lo, .int .i64 (Fld.H).hi] 133)).ownsRow (w.heap.size + 1) 133 4 (.slice (some ⟨X.heap.size + 1, 0, none⟩) 2 2) 2 (flat [.T, .H])) at HR2
  go_enter Tryz.func51, Tryz.ntmps51
  go_upto_region 2 with fail
  go_cut [2] from 5 to 12 (fun s2 wx => ∃ b g, s2 = .map (some b) ∧ w.heap.size ≤ b ∧ MapV wx b 1 (updV nilF 1 (clV g)) ∧ ListFn w.heap.size wx g [.T, .H] ∧ Qf w wx)
  case first =>
    go_region_with (first
      | (go_at_call 66; refine (fld_T _).mono ?_; rintro r x1 ⟨rfl, hb⟩; have HQ := hid (Qf.call (by repeat (first | with_reducible exact HQ.out | with_reducible apply Qf.drew | with_reducible apply Qf.alloc)) hb); have hc := HQ.out.lst; have hlt := HQ.out.lt; (try have HM := hid (MapV.call (by repeat (first | with_reducible exact HM.out | with_reducible exact MapV.made _ | with_reducible apply MapV.drew | with_reducible apply MapV.alloc)) hb)); (try have hm := MapO.of HM.out (by omega)); (try simp only [World.size_alloc] at hm); (try simp only [World.size_alloc] at HM); clear hb; unfold listV at hc; unfold fcells)
      | (go_at_call 67; refine (fld_H _).mono ?_; rintro r x1 ⟨rfl, hb⟩; have HQ := hid (Qf.call (by repeat (first | with_reducible exact HQ.out | with_reducible apply Qf.drew | with_reducible apply Qf.alloc)) hb); have hc := HQ.out.lst; have hlt := HQ.out.lt; (try have HM := hid (MapV.call (by repeat (first | with_reducible exact HM.out | with_reducible exact MapV.made _ | with_reducible apply MapV.drew | with_reducible apply MapV.alloc)) hb)); (try have hm := MapO.of HM.out (by omega)); (try simp only [World.size_alloc] at hm); (try simp only [World.size_alloc] at HM); clear hb; unfold listV at hc; unfold fcells)
      | (go_at_call 64; refine (listMake2 [.T, .H] (by decide) (by decide) _ 2 2 w.heap.size _ rfl (by repeat (first | with_reducible exact HR.out _ HQ.out.lt | with_reducible exact HR2.out _ HQ.out.lt | with_reducible apply row_drew | with_reducible apply World.ownsRow.alloc))).mono ?_; rintro r x1 ⟨g, rfl, hlf, hb⟩; have HQ := hid (Qf.call (by repeat (first | with_reducible exact HQ.out | with_reducible apply Qf.drew | with_reducible apply Qf.alloc)) hb); have hc := HQ.out.lst; have hlt := HQ.out.lt; have HL := hid hlf; (try have HM := hid (MapV.call (by repeat (first | with_reducible exact HM.out | with_reducible exact MapV.made _ | with_reducible apply MapV.drew | with_reducible apply MapV.alloc)) hb)); (try have hm := MapO.of HM.out (by omega)); (try simp only [World.size_alloc] at hm); (try simp only [World.size_alloc] at HM); clear hb hlf; unfold listV at hc; unfold clV))
    all_goals go_wp2_with fail
    all_goals go_meet
    all_goals exact fields_fin (w := w) (by repeat (first | with_reducible exact HQ.out | with_reducible apply Qf.drew | with_reducible apply Qf.alloc)) (by repeat (first | with_reducible exact HM.out | with_reducible exact MapV.made _ | with_reducible apply MapV.drew | with_reducible apply MapV.alloc)) (by repeat (first | with_reducible exact HL.out | with_reducible apply ListFn.drew | with_reducible apply ListFn.alloc)) (by first | omega | (simp; omega))
  case rest =>
  obtain ⟨b, g, rfl, hB, hm0, hl0, hq0⟩ := hcut
  have HM0 := hid hm0
  have HS0 := hid (says_first hl0)
  have HQ0 := hid hq0
  have HR3 := hid (fun (X : World) (hX : w.heap.size < X.heap.size) => row_new (w := X) (cs := (flat [.T]).toArray) (t := 133) (B := w.heap.size + 1) (size := 4) (n := 1) rfl hX (by unfold maxLen; omega))
  change Hid (∀ X : World, w.heap.size < X.heap.size → (X.alloc (.cells #[.func (.func (fid .T)) #[] #[], .int .i64 ((Fld.T).tab : Int), .int .i64 (Fld.T).lo, .int .i64 (Fld.T).hi] 133)).ownsRow (w.heap.size + 1) 133 4 (.slice (some ⟨X.heap.size, 0, none⟩) 1 1) 1 (flat [.T])) at HR3
  clear hm0 hl0 hq0 HQ HR HR2 hmo hmm
  go_wp2_with fail
  go_loopw [14] (fun si wr => ∃ (k : Nat) (f : Int → Value), si = .int .i64 k ∧ k ≤ 4 ∧ MapV wr b (1 + k) f ∧ (∀ kind, Says w.heap.size wr (f kind) (atK k kind)) ∧ Qf w wr ∧ Blk wr wc.heap.size 3 #[.int .i64 4, .int .i64 5, .int .i64 6, .int .i64 7]) (fun si _ => 4 - (intOf si).toNat)
  case atStart => exact ⟨0, _, rfl, by omega, HM0.out.alloc _, fun kind => (HS0.out kind).call ((Below.refl _ _).alloc (Nat.le_refl _) _), HQ0.out.alloc _, Blk.new _ _ _⟩
  case round =>
    obtain ⟨k, f, rfl, hk, hm0, hs0, hq0, hk0⟩ := hrel
    have HM := hid hm0
    have HS := hid hs0
    have HQ := hid hq0
    have HK := hid hk0
    have hc := hq0.lst
    have hlt := hq0.lt
    have hlq := hk0.lt
    have hm := MapO.of hm0 (by omega)
    unfold listV at hc
    clear hm0 hs0 hq0 HM0 HS0 HQ0
    by_cases hk4 : k < 4
    · have ck := kinds_cell hk0 k hk4
      have ko : KindOk ((k : Int) + 4) := ⟨by omega, by omega⟩
      clear hk0
      go_wp2_with fail
      go_region_with (first
        | (go_at_call 66; refine (fld_T _).mono ?_; rintro r x1 ⟨rfl, hb⟩; have hbw := (Below.refl wr.heap.size wr).drew.trans hb; have HQ := hid (HQ.out.call hbw); have HM := hid (HM.out.call hbw); have HS := hid (fun kind => (HS.out kind).call hbw); have HK := hid (HK.out.below hbw HK.out.lt); have hc := HQ.out.lst; have hlt := HQ.out.lt; have hm := MapO.of HM.out (by omega); clear hb hbw; unfold listV at hc; unfold fcells)
        | (go_at_call 64; refine (listMake2 [.T] (by decide) (by decide) _ 1 1 w.heap.size _ rfl (by with_reducible exact HR3.out _ HQ.out.lt)).mono ?_; rintro r x2 ⟨g2, rfl, hlf, hb⟩; have hbw := ((Below.refl x1.heap.size x1).alloc (Nat.le_refl _) _).trans (hb.mono (by simp)); have HL2 := hid hlf; have HQ := hid (HQ.out.call hbw); have HM := hid (HM.out.call hbw); have HS := hid (fun kind => (HS.out kind).call hbw); have HK := hid (HK.out.below hbw HK.out.lt); have hc := HQ.out.lst; have hlt := HQ.out.lt; have hm := MapO.of HM.out (by omega); clear hb hbw hlf; unfold listV at hc; unfold clV))
      all_goals
        have HI := hid (insW_is HM.out (by omega) ko.1 ko.2 (clV g2))
        have HX := hid (And.intro (show MapV (insW x2 b ((k : Int) + 4) (clV g2)) b (1 + (k + 1)) _ from HI.out.1) (And.intro (says_next HS.out HM.out HI.out.2 HL2.out) (And.intro (HQ.out.ins HM.out hB HI.out.2) (blk_ins HK.out HM.out HI.out.2))))
        clear HI hc hm ck hlt HQ HM HS HK HL2
        go_wp2_with fail
        go_roundw
        case rel => exact ⟨k + 1, _, by go_num, by omega, HX.out.1, HX.out.2.1, HX.out.2.2.1, HX.out.2.2.2⟩
        case measure => simp [intOf] <;> omega
    · obtain rfl : k = 4 := by omega
      have HI := hid (insW_is HM.out (by omega) ko2.1 ko2.2 (.func (.func 68) #[] #[.pointer (some ⟨w.heap.size, 0, none⟩)]))
      have hm2 := MapO.of HI.out.1 (by omega)
      have HJ := hid (insW_is HI.out.1 (by omega) ko3.1 ko3.2 (.func (.func 75) #[] #[.pointer (some ⟨w.heap.size, 0, none⟩)]))
      have HX := hid (And.intro (fields_at HJ.out.1 (fun kind => ((HS.out kind).ins HM.out HI.out.2).ins HI.out.1 HJ.out.2) ((HQ.out.ins HM.out hB HI.out.2).ins HI.out.1 hB HJ.out.2)) ((HQ.out.ins HM.out hB HI.out.2).ins HI.out.1 hB HJ.out.2).below)
      clear hk0 HI HJ hc hlt HQ HM HS HK hlq
      go_wp2_with fail
      go_ret
      exact ⟨b, rfl, HX.out.1, HX.out.2⟩
theorem fieldsCall (w : World) : Calls Tryz.prog 51 #[] w fun e w' => ∃ b, e = .returned (.map (some b)) ∧ FieldsAt w' b ∧ Below w.heap.size w w' :=
  (fieldsCallS w).mono fun _ _ ⟨b, h1, h2, h3⟩ => ⟨b, h1, h2.at, h3⟩
end Go.Proofs.YtgfmlaflochffaaGreatDoor
