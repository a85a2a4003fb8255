/-
  From the row of ProgFormed to what its walk asks: the package's variables, a program and moves that came in.
-/
import Derived.Test.YtgfmlaflochffaaGreatDoorLaidFZ
import Derived.Test.YtgfmlaflochffaaGreatDoorOneZ
import Derived.Test.YtgfmlaflochffaaGreatDoorFmAZ
import Derived.OpenShut
import Derived.SliceStrings
import Derived.ChangeSame
import Derived.ChangeMaps5
import Derived.MakeChecks
import Derived.Deep.Slices
import Derived.Deep.Strs
import Derived.Lib.SmallJoins
namespace Go.Proofs.YtgfmlaflochffaaGreatDoor
open Go.ChangeShapes Go.WideShapes Go.ChangeAt Go.RowKit Go.Deep W
open Go.ChangeMaps (open_string shut_string)

theorem own : ownKnob Tryz.prog.godebug = none := by kernel_rfl
theorem laidOut : laidOutB Tryz.prog = true := by kernel_rfl
section
variable {H : Type} {enc : TypeId × Value → H}
/-- The arguments read behind the call as they read before it. -/
theorem all_stays {W W' : World} (hb : Below W.heap.size W W') (ts : List TypeId) : ∀ (vs : List Value) (ds : List (DataW H)) (ps : List MemPlace),
    (ts.all fun t => Tryz.prog.readableRec t && decide (t < Tryz.prog.types.size)) = true → DataW.TrodAll enc Tryz.prog W 0 (fun _ => true) true ts vs ds ps → (∀ x ∈ ps, x.block < W.heap.size) →
    DataW.TrodAll enc Tryz.prog W' 0 (fun b => decide (b < W.heap.size)) true ts vs ds ps := by
  induction ts with
  | nil =>
    intro vs ds ps _ h _
    obtain ⟨rfl, rfl, rfl⟩ := trodAll_nil h
    exact trodAll_mk0
  | cons t ts ih =>
    intro vs ds ps hr h hlt
    obtain ⟨v, vs', d, ds', p, q, rfl, rfl, rfl, h1, h2⟩ := trodAll_cons h
    rw [List.all_cons, Bool.and_eq_true, Bool.and_eq_true, decide_eq_true_eq] at hr
    exact trodAll_cons_mk (Below.trod laidOut hr.1.1 hr.1.2 h1 hb (fun x hx => hlt x (List.mem_append.2 (.inl hx)))) (ih vs' ds' q hr.2 h2 (fun x hx => hlt x (List.mem_append.2 (.inr hx))))
/-- A law's row: the call has answered true, and nothing that was there has turned. -/
theorem law_post {s : ChangeSpec} {f : Func} {W W' : World} {args : Array Value} {ds gs : List (DataW H)} {before : List MemPlace} (hres : f.resultTypes = #[4]) (hv : s.vars = [])
    (hr : (f.params.toList.all fun t => Tryz.prog.readableRec t && decide (t < Tryz.prog.types.size)) = true)
    (hW : DataW.Whole enc Tryz.prog f.params.toList s.vars false W args.toList ds gs before) (hs : ∀ es : List (DataW H), es.length = f.params.size → s.fn H (es ++ []) = { results := [.lit (.bool true)], args := es })
    (hb : Below W.heap.size W W') : s.post enc Tryz.prog f false true false false W args (.bool true) W' := by
  have hW' := hW
  obtain ⟨p, q, hA, hV, rfl, hfz, hnd⟩ := hW
  rw [hv] at hV
  obtain ⟨rfl, rfl⟩ := trodVars_none hV
  have hlen : ds.length = f.params.size := by
    have h : ∀ (ts : List TypeId) (vs : List Value) (ds : List (DataW H)) (ps : List MemPlace), DataW.TrodAll enc Tryz.prog W 0 (fun _ => true) true ts vs ds ps → ds.length = ts.length := by
      intro ts
      induction ts with
      | nil => intro vs ds ps h; obtain ⟨rfl, rfl, rfl⟩ := trodAll_nil h; rfl
      | cons t ts ih =>
        intro vs ds ps h
        obtain ⟨v, vs', d, ds', p, q, rfl, rfl, rfl, h1, h2⟩ := trodAll_cons h
        simp [ih _ _ _ h2]
    simpa using h _ _ _ _ hA
  have e := hs ds hlen
  refine ⟨ds, [], p ++ [], [], p, [], hW', ?_, ?_, ?_, hb.frame _, fun h => by cases h⟩
  · rw [e, hres]
    exact trodAll_mk1 (shut_bool Tryz.underlying4 true)
  · rw [e]
    refine all_stays hb _ _ _ _ hr hA (fun x hx => ?_)
    have := hW'.lt x (by simpa using hx)
    simpa using this
  · rw [e, hv]
    rfl
end
theorem gTabType : (Tryz.prog.globals[18]?).map (·.type) = some 164 := by kernel_rfl
theorem cellsErr : Tryz.prog.cellsOf 187 = 1 := by kernel_rfl
theorem cellsStr : Tryz.prog.cellsOf 9 = 1 := by kernel_rfl
theorem cellsU64 : Tryz.prog.cellsOf 151 = 1 := by kernel_rfl
theorem cellsTab : Tryz.prog.cellsOf 164 = 20 := by kernel_rfl
theorem star : "*" ++ "errors.errorString" = "*errors.errorString" := by decide
theorem rowErr (u : TypeId) (h : Tryz.prog.typeName? 3 u = some "*errors.errorString") : u = 172 :=
  typeName_ptr_named (nm := "errors.errorString") (by rw [star]; kernel_rfl) (by kernel_rfl) (by decide) u (by rw [star]; exact h)
theorem sent_one {W : World} {n : String} {text : List UInt8} {g : Nat} (h : laidMetH Tryz.prog [(n, .iface "*errors.errorString" (.ptr (.agg [.lit (.string text)])))] W) (hg : Tryz.prog.globalNamed n = some g) (ht : (Tryz.prog.globals[g]?).map (·.type) = some 31) :
    ∃ a, W.cell? ⟨g, 0, none⟩ = some (.iface 172 (.pointer (some a))) := by
  rw [MakeChecks.laidMetH_plain _ _ _ (by rfl)] at h
  obtain ⟨a, s, hv, _⟩ := laid_sentinel h hg ht Tryz.underlying31 rowErr Tryz.underlying172 Tryz.underlying187 rfl rfl Tryz.underlying9 cellsErr cellsStr
  exact ⟨a, by simpa using World.var?_cell hg hv 0⟩
section
variable {H : Type} {enc : TypeId × Value → H} {base : Nat} {spare : Nat → Bool} {held : Bool} {U : World}
theorem addr_plain {V : Nat → Value} {a : Addr} {n : Nat} (h : ∀ i, i < n → U.cell? (a.add i) = some (V i)) (h0 : 0 < n) : ∃ b o, a = ⟨b, o, none⟩ ∧ ∀ i, i < n → U.cell? ⟨b, o + i, none⟩ = some (V i) := by
  obtain ⟨b, o, spot⟩ := a
  have hs : spot = none := by simpa [Addr.add] using World.cell?_spot (h 0 h0)
  subst hs
  exact ⟨b, o, rfl, fun j hj => by rw [← Go.WideShapes.add_plain]; exact h j hj⟩
set_option maxRecDepth 100000 in
theorem readsL_open {α : Type} [Inhabited α] {R : World → Value → α → Prop} {t e : TypeId} {fuel : Nat} {cs : List Value} {x : DataW H × List MemPlace} (ht : Tryz.prog.underlying t = some (.slice e)) (hc : Tryz.prog.cellsOf e = 1)
    (hR : ∀ (n : Nat) (V : Value) (y : DataW H × List MemPlace), DataW.trod enc Tryz.prog U base spare held n e [V] = some y → ∃ a, R U V a) (h : DataW.trod enc Tryz.prog U base spare held fuel t cs = some x) :
    ∃ v l, cs = [v] ∧ ReadsL R U v l := by
  rcases open_slice1 ht hc h with ⟨rfl, _⟩ | ⟨a, len, cap, m, n, V, D, Pl, rfl, _, hl, hm, hmm, _, hx⟩
  · exact ⟨_, [], rfl, [], Reads.nil U, rfl, by simp⟩
  · have hlm : len ≤ m := by rw [hmm]; split <;> omega
    obtain ⟨f, hf⟩ := choose_lt (p := fun i (y : α) => R U (V i) y) (fun i (hi : i < len) => hR n (V i) _ (hx i (by omega)).2)
    refine ⟨_, (List.range len).map f, rfl, (List.range len).map V, ?_, by simp, fun j u y hu hy => ?_⟩
    · rcases Nat.eq_zero_or_pos len with h0 | h0
      · subst h0
        exact ⟨some a, cap, 0, 0, by simp, by simp, fun _ _ h => by simp at h, by simp, by simp⟩
      · obtain ⟨b, o, rfl, hcell⟩ := addr_plain (V := V) (fun i (hi : i < len) => (hx i (by omega)).1) h0
        refine ⟨some ⟨b, o, none⟩, cap, b, o, by simp, by simp, fun x hx _ => by injection hx with hx; exact hx.symm, by simpa using hl, fun j u hj => ?_⟩
        have hjl : j < len := by have := (List.getElem?_eq_some_iff.1 hj).1; simpa using this
        rw [hcell j hjl]
        simpa [hjl] using hj
    · have hjl : j < len := by have := (List.getElem?_eq_some_iff.1 hu).1; simpa using this
      have e1 : V j = u := by simpa [hjl] using hu
      have e2 : f j = y := by simpa [hjl] using hy
      rw [← e1, ← e2]
      exact hf j hjl
theorem ints_open {t : TypeId} {fuel : Nat} {cs : List Value} {x : DataW H × List MemPlace} (ht : Tryz.prog.underlying t = some (.slice 3)) (h : DataW.trod enc Tryz.prog U base spare held fuel t cs = some x) :
    ∃ v l, cs = [v] ∧ Reads U v (ints l) := by
  obtain ⟨v, l, rfl, vs, h1, h2, h3⟩ := readsL_open (R := fun _ V (n : Int) => V = .int .i64 n) ht (by kernel_rfl) (fun n V y hy => by
    obtain ⟨k, hk, _⟩ := DataW.trod_int Tryz.underlying3 hy
    injection hk with hk
    exact ⟨k, hk⟩) h
  refine ⟨v, l, rfl, ?_⟩
  have e : vs = ints l := by
    apply List.ext_getElem?
    intro j
    by_cases hj : j < vs.length
    · have hu : vs[j]? = some vs[j] := List.getElem?_eq_getElem hj
      have hx : l[j]? = some l[j] := List.getElem?_eq_getElem (by omega)
      rw [hu, h3 j _ _ hu hx]
      simp [ints, hx]
    · rw [List.getElem?_eq_none (by omega), List.getElem?_eq_none (by simp [ints]; omega)]
  rw [← e]
  exact h1
instance : Inhabited PAct := ⟨⟨0, 0, 0⟩⟩
set_option maxRecDepth 100000 in
theorem acts_open (fuel : Nat) (V : Value) (x : DataW H × List MemPlace) (h : DataW.trod enc Tryz.prog U base spare held fuel 56 [V] = some x) : ∃ l, ReadsA U V l := by
  rcases open_slice Tryz.underlying56 h with ⟨h0, _⟩ | ⟨a, len, cap, m, n, D, Pl, h0, _, hl, hm, hmm, _, hx⟩
  · injection h0 with h0
    subst h0
    exact ⟨[], none, 0, 0, 0, rfl, fun _ => ⟨rfl, rfl⟩, by simp, Nat.le_refl _, by simp⟩
  · injection h0 with h0
    subst h0
    have hc3 : Tryz.prog.cellsOf 80 = 3 := by kernel_rfl
    rw [hc3] at hx
    have hlm : len ≤ m := by rw [hmm]; split <;> omega
    obtain ⟨f, hf⟩ := choose_lt (p := fun i (y : PAct) => U.cell? (a.add (i * 3)) = some (.int .i64 y.kind) ∧ U.cell? (a.add (i * 3 + 1)) = some (.int .i64 y.cell) ∧ U.cell? (a.add (i * 3 + 2)) = some (.int .i64 y.val)) (fun i (hi : i < len) => by
      obtain ⟨cs', h1, h2⟩ := hx i (by omega)
      obtain ⟨_, hlen, hcell⟩ := World.cells?_some h1
      match cs', hlen with
      | [c0, c1, c2], _ =>
        obtain ⟨y0, y1, y2, n', _, _, t0, t1, t2⟩ := trod_struct3 Tryz.underlying80 h2
        obtain ⟨k0, e0, _⟩ := DataW.trod_int Tryz.underlying3 t0
        obtain ⟨k1, e1, _⟩ := DataW.trod_int Tryz.underlying3 t1
        obtain ⟨k2, e2, _⟩ := DataW.trod_int Tryz.underlying3 t2
        have hI : Tryz.prog.cellsOf 3 = 1 := by kernel_rfl
        simp [hI] at e0 e1 e2
        have q0 := hcell 0 (by omega)
        have q1 := hcell 1 (by omega)
        have q2 := hcell 2 (by omega)
        simp [Addr.add_add, e0, e1, e2] at q0 q1 q2
        exact ⟨⟨k0, k1, k2⟩, q0, q1, q2⟩)
    rcases Nat.eq_zero_or_pos len with h0 | h0
    · subst h0
      exact ⟨[], some a, cap, 0, 0, by simp, by simp, fun _ _ h => by simp at h, by simp, by simp⟩
    · obtain ⟨b, o, spot⟩ := a
      have hs : spot = none := by simpa [Addr.add] using World.cell?_spot (hf 0 h0).1
      subst hs
      refine ⟨(List.range len).map f, some ⟨b, o, none⟩, cap, b, o, by simp, by simp, fun x hx _ => (by injection hx with hx; exact hx.symm), by simpa using hl, fun j y hj => ?_⟩
      have hjl : j < len := by have := (List.getElem?_eq_some_iff.1 hj).1; simpa using this
      have e2 : f j = y := by simpa [hjl] using hj
      obtain ⟨q0, q1, q2⟩ := hf j hjl
      rw [e2] at q0 q1 q2
      rw [Go.WideShapes.add_plain] at q0 q1 q2
      exact ⟨q0, (by rw [Nat.add_assoc]; exact q1), (by rw [Nat.add_assoc]; exact q2)⟩
set_option maxRecDepth 100000 in
theorem prog_open {v : Value} {d : DataW H} {ps : List MemPlace} {r : Reach} {b0 : Nat} (hv : Value.okWide Tryz.prog U r b0 25 v) (h : DataW.Trod enc Tryz.prog U base spare held 25 v d ps) : ∃ vc vt p, v = .agg #[vc, vt] ∧ PgAt U vc vt p := by
  obtain ⟨v0, v1, y0, y1, n, rfl, _, _, t0, t1⟩ := Go.Joins.open_agg2 Tryz.underlying25 (by kernel_rfl) (by kernel_rfl) hv h
  obtain ⟨v, l, e0, h0⟩ := ints_open (t := 22) Tryz.underlying22 t0
  injection e0 with e0
  subst e0
  obtain ⟨v, ts, e1, h1⟩ := readsL_open (R := ReadsT) (t := 23) Tryz.underlying23 (by kernel_rfl) (fun n V y hy => by
    obtain ⟨v, ts, e1, h1⟩ := readsL_open (R := ReadsA) (t := 57) Tryz.underlying57 (by kernel_rfl) (fun n V y hy => acts_open n V y hy) hy
    injection e1 with e1
    subst e1
    exact ⟨ts, h1⟩) t1
  injection e1 with e1
  subst e1
  exact ⟨_, _, ⟨l, ts⟩, rfl, h0, h1⟩
instance : Inhabited Mv := ⟨⟨0, 0, 0, false⟩⟩
set_option maxRecDepth 100000 in
theorem moves_open (fuel : Nat) (V : Value) (x : DataW H × List MemPlace) (h : DataW.trod enc Tryz.prog U base spare held fuel 26 [V] = some x) : ∃ l, ReadsM U V l := by
  rcases open_slice Tryz.underlying26 h with ⟨h0, _⟩ | ⟨a, len, cap, m, n, D, Pl, h0, _, hl, hm, hmm, _, hx⟩
  · injection h0 with h0
    subst h0
    exact ⟨[], none, 0, 0, 0, rfl, fun _ => ⟨rfl, rfl⟩, by simp, Nat.le_refl _, by simp⟩
  · injection h0 with h0
    subst h0
    have hc4 : Tryz.prog.cellsOf 35 = 4 := by kernel_rfl
    rw [hc4] at hx
    have hlm : len ≤ m := by rw [hmm]; split <;> omega
    obtain ⟨f, hf⟩ := choose_lt (p := fun i (y : Mv) => U.cell? (a.add (i * 4)) = some (.int .i64 y.kind) ∧ U.cell? (a.add (i * 4 + 1)) = some (.int .i64 y.thr) ∧ U.cell? (a.add (i * 4 + 2)) = some (.int .i64 y.val) ∧ U.cell? (a.add (i * 4 + 3)) = some (.bool y.ab)) (fun i (hi : i < len) => by
      obtain ⟨cs', h1, h2⟩ := hx i (by omega)
      obtain ⟨_, hlen, hcell⟩ := World.cells?_some h1
      match cs', hlen with
      | [c0, c1, c2, c3], _ =>
        obtain ⟨y0, y1, y2, y3, n', _, _, t0, t1, t2, t3⟩ := Go.Joins.trod_struct4 Tryz.underlying35 h2
        obtain ⟨k0, e0, _⟩ := DataW.trod_int Tryz.underlying3 t0
        obtain ⟨k1, e1, _⟩ := DataW.trod_int Tryz.underlying3 t1
        obtain ⟨k2, e2, _⟩ := DataW.trod_int Tryz.underlying3 t2
        obtain ⟨k3, e3, _⟩ := DataW.trod_bool Tryz.underlying4 t3
        have hI : Tryz.prog.cellsOf 3 = 1 := by kernel_rfl
        have hBo : Tryz.prog.cellsOf 4 = 1 := by kernel_rfl
        simp [hI, hBo] at e0 e1 e2 e3
        have q0 := hcell 0 (by omega)
        have q1 := hcell 1 (by omega)
        have q2 := hcell 2 (by omega)
        have q3 := hcell 3 (by omega)
        simp [Addr.add_add, e0, e1, e2, e3] at q0 q1 q2 q3
        exact ⟨⟨k0, k1, k2, k3⟩, q0, q1, q2, q3⟩)
    rcases Nat.eq_zero_or_pos len with h0 | h0
    · subst h0
      exact ⟨[], some a, cap, 0, 0, by simp, by simp, fun _ _ h => by simp at h, by simp, by simp⟩
    · obtain ⟨b, o, spot⟩ := a
      have hs : spot = none := by simpa [Addr.add] using World.cell?_spot (hf 0 h0).1
      subst hs
      refine ⟨(List.range len).map f, some ⟨b, o, none⟩, cap, b, o, by simp, by simp, fun x hx _ => (by injection hx with hx; exact hx.symm), by simpa using hl, fun j y hj => ?_⟩
      have hjl : j < len := by have := (List.getElem?_eq_some_iff.1 hj).1; simpa using this
      have e2 : f j = y := by simpa [hjl] using hj
      obtain ⟨q0, q1, q2, q3⟩ := hf j hjl
      rw [e2] at q0 q1 q2 q3
      rw [Go.WideShapes.add_plain] at q0 q1 q2 q3
      exact ⟨q0, (by rw [Nat.add_assoc]; exact q1), (by rw [Nat.add_assoc]; exact q2), (by rw [Nat.add_assoc]; exact q3)⟩
end
theorem cells_of_strs {H : Type} {enc : TypeId × Value → H} {P : Program} {w : World} {base : Nat} {sp : Nat → Bool} {held : Bool} {fuel : Nat} {t e : TypeId} {n : Nat} {cs : List Value} {zs : List (List UInt8)} {p : List MemPlace}
    (ht : P.underlying t = some (.array n e)) (he : P.underlying e = some .string) (hce : P.cellsOf e = 1) (hct : P.cellsOf t = n)
    (h : DataW.trod enc P w base sp held fuel t cs = some (.agg (zs.map fun z => .lit (.string z)), p)) : cs = zs.map fun z => Value.string ⟨z.toArray⟩ := by
  cases fuel with
  | zero => simp [DataW.trod] at h
  | succ fuel =>
    simp only [DataW.trod, ht, hce, hct, Nat.mul_one] at h
    split at h
    · rename_i hl
      obtain ⟨xs, hm, hx⟩ := Option.map_eq_some_iff.1 h
      have hxs : xs.map (·.1) = zs.map fun z => (DataW.lit (.string z) : DataW H) := by
        have := congrArg Prod.fst hx
        simpa using this
      have hxl : xs.length = n := by simpa using Lib.mapM_length hm
      have hzl : zs.length = n := by
        have := congrArg List.length hxs
        simp at this
        omega
      apply List.ext_getElem?
      intro i
      by_cases hi : i < n
      · obtain ⟨b, hb, hf⟩ := Lib.mapM_at hm i i (by simp [hi])
        obtain ⟨z, hc, rfl, _⟩ := DataW.trod_string he hf
        have h1 : cs[i]? = some (.string z) := by
          have := congrArg (·[0]?) hc
          simpa [List.getElem?_take, List.getElem?_drop] using this
        have h2 : (xs.map (·.1))[i]? = some (DataW.lit (.string z.data.toList) : DataW H) := by simp [hb]
        rw [hxs] at h2
        simp only [List.getElem?_map, Option.map_eq_some_iff, DataW.lit.injEq, Lit.string.injEq] at h2
        obtain ⟨z', hz', rfl⟩ := h2
        simp [h1, hz']
      · rw [List.getElem?_eq_none (by omega), List.getElem?_eq_none (by simp; omega)]
    · cases h
theorem strs_of {P : Program} {W : World} {name : String} {zs : List (List UInt8)} {g : Nat} {t e : TypeId} {n : Nat}
    (hg : P.globalNamed name = some g) (hty : (P.globals[g]?).map (·.type) = some t) (ht : P.underlying t = some (.array n e)) (he : P.underlying e = some .string) (hce : P.cellsOf e = 1) (hct : P.cellsOf t = n)
    (h : laidMet P [(name, .agg (zs.map fun z => .lit (.string z)))] W) (j : Nat) (x : List UInt8) (hx : zs[j]? = some x) : W.cell? ⟨g, j, none⟩ = some (.string ⟨x.toArray⟩) := by
  obtain ⟨ps, ⟨g', t', cs, fuel, p, q, hg', ht', hvar, hd, _, _⟩, _⟩ := h
  obtain rfl := Option.some.inj (hg.symm.trans hg')
  obtain rfl := Option.some.inj (hty.symm.trans ht')
  have hcs := cells_of_strs ht he hce hct hd
  have h1 := World.var?_cell hg hvar j
  rw [h1, ← Array.getElem?_toList, hcs]
  simp [hx]
theorem gProg : Tryz.prog.globalNamed "umpire/api.ErrProg" = some 1 := by kernel_rfl
theorem gProgType : (Tryz.prog.globals[1]?).map (·.type) = some 31 := by kernel_rfl
theorem gActs : Tryz.prog.globalNamed "umpire/prog.acts" = some 0 := by kernel_rfl
theorem gActsType : (Tryz.prog.globals[0]?).map (·.type) = some 93 := by kernel_rfl
theorem cells4S : Tryz.prog.cellsOf 93 = 4 := by kernel_rfl
theorem nErrCode : Tryz.prog.globalNamed "umpire/api.ErrCode" = some 9 := by kernel_rfl
theorem yErrCode : (Tryz.prog.globals[9]?).map (·.type) = some 31 := by kernel_rfl
theorem nErrEvent : Tryz.prog.globalNamed "umpire/api.ErrEvent" = some 10 := by kernel_rfl
theorem yErrEvent : (Tryz.prog.globals[10]?).map (·.type) = some 31 := by kernel_rfl
theorem nErrObject : Tryz.prog.globalNamed "umpire/api.ErrObject" = some 3 := by kernel_rfl
theorem yErrObject : (Tryz.prog.globals[3]?).map (·.type) = some 31 := by kernel_rfl
theorem nobjects : Tryz.prog.globalNamed "umpire/event.objects" = some 12 := by kernel_rfl
theorem yobjects : (Tryz.prog.globals[12]?).map (·.type) = some 93 := by kernel_rfl
theorem nevents : Tryz.prog.globalNamed "umpire/event.events" = some 13 := by kernel_rfl
theorem yevents : (Tryz.prog.globals[13]?).map (·.type) = some 160 := by kernel_rfl
theorem nops : Tryz.prog.globalNamed "umpire/event.ops" = some 14 := by kernel_rfl
theorem yops : (Tryz.prog.globals[14]?).map (·.type) = some 161 := by kernel_rfl
theorem nanswers : Tryz.prog.globalNamed "umpire/event.answers" = some 15 := by kernel_rfl
theorem yanswers : (Tryz.prog.globals[15]?).map (·.type) = some 162 := by kernel_rfl
theorem nstates : Tryz.prog.globalNamed "umpire/event.states" = some 16 := by kernel_rfl
theorem ystates : (Tryz.prog.globals[16]?).map (·.type) = some 93 := by kernel_rfl
theorem nlevels : Tryz.prog.globalNamed "umpire/event.levels" = some 17 := by kernel_rfl
theorem ylevels : (Tryz.prog.globals[17]?).map (·.type) = some 93 := by kernel_rfl
theorem cells3S : Tryz.prog.cellsOf 162 = 3 := by kernel_rfl
theorem cells7S : Tryz.prog.cellsOf 160 = 7 := by kernel_rfl
theorem cells9S : Tryz.prog.cellsOf 161 = 9 := by kernel_rfl
theorem laidF_tab {W : World} (h : laidMetH Tryz.prog LF.laid W) : Lib.TabIs Tryz.prog W "internal/strconv.uint64pow10" .u64 Lib.pow10Tab := by
  have h1 := h.filter (fun x => x.1 == "internal/strconv.uint64pow10")
  rw [show LF.laid.filter (fun x => x.1 == "internal/strconv.uint64pow10") = [("internal/strconv.uint64pow10", Lib.tabData .u64 Lib.pow10Tab)] from by kernel_rfl, MakeChecks.laidMetH_plain _ _ _ (by kernel_rfl)] at h1
  exact Lib.tabIs_of_head gTab gTabType Tryz.underlying164 Tryz.underlying151 cellsU64 cellsTab h1
theorem laidFE_of {W : World} (h : laidMetH Tryz.prog LF.laid W) : LaidE W := by
  refine ⟨laidF_tab h, fun g hg => ?_, fun t j x hx => ?_⟩
  · simp only [List.nil_append, List.cons_append, List.mem_cons, List.not_mem_nil, or_false] at hg
    rcases hg with rfl | rfl | rfl
    · have h1 := h.filter (fun x => x.1 == "umpire/api.ErrCode")
      rw [show LF.laid.filter (fun x => x.1 == "umpire/api.ErrCode") = [("umpire/api.ErrCode", Rows.laid_umpire_api_ErrCode)] from by kernel_rfl] at h1
      exact sent_one h1 nErrCode yErrCode
    · have h1 := h.filter (fun x => x.1 == "umpire/api.ErrEvent")
      rw [show LF.laid.filter (fun x => x.1 == "umpire/api.ErrEvent") = [("umpire/api.ErrEvent", Rows.laid_umpire_api_ErrEvent)] from by kernel_rfl] at h1
      exact sent_one h1 nErrEvent yErrEvent
    · have h1 := h.filter (fun x => x.1 == "umpire/api.ErrObject")
      rw [show LF.laid.filter (fun x => x.1 == "umpire/api.ErrObject") = [("umpire/api.ErrObject", Rows.laid_umpire_api_ErrObject)] from by kernel_rfl] at h1
      exact sent_one h1 nErrObject yErrObject
  · match t, hx with
    | 1, hx =>
      have h1 := h.filter (fun x => x.1 == "umpire/event.objects")
      rw [show LF.laid.filter (fun x => x.1 == "umpire/event.objects") = [("umpire/event.objects", (DataW.agg ((tabs 1).map fun z => .lit (.string z)) : DataW Unit))] from by kernel_rfl, MakeChecks.laidMetH_plain _ _ _ (by kernel_rfl)] at h1
      exact strs_of nobjects yobjects Tryz.underlying93 Tryz.underlying9 cellsStr cells4S h1 j x hx
    | 2, hx =>
      have h1 := h.filter (fun x => x.1 == "umpire/event.events")
      rw [show LF.laid.filter (fun x => x.1 == "umpire/event.events") = [("umpire/event.events", (DataW.agg ((tabs 2).map fun z => .lit (.string z)) : DataW Unit))] from by kernel_rfl, MakeChecks.laidMetH_plain _ _ _ (by kernel_rfl)] at h1
      exact strs_of nevents yevents Tryz.underlying160 Tryz.underlying9 cellsStr cells7S h1 j x hx
    | 3, hx =>
      have h1 := h.filter (fun x => x.1 == "umpire/event.ops")
      rw [show LF.laid.filter (fun x => x.1 == "umpire/event.ops") = [("umpire/event.ops", (DataW.agg ((tabs 3).map fun z => .lit (.string z)) : DataW Unit))] from by kernel_rfl, MakeChecks.laidMetH_plain _ _ _ (by kernel_rfl)] at h1
      exact strs_of nops yops Tryz.underlying161 Tryz.underlying9 cellsStr cells9S h1 j x hx
    | 4, hx =>
      have h1 := h.filter (fun x => x.1 == "umpire/event.answers")
      rw [show LF.laid.filter (fun x => x.1 == "umpire/event.answers") = [("umpire/event.answers", (DataW.agg ((tabs 4).map fun z => .lit (.string z)) : DataW Unit))] from by kernel_rfl, MakeChecks.laidMetH_plain _ _ _ (by kernel_rfl)] at h1
      exact strs_of nanswers yanswers Tryz.underlying162 Tryz.underlying9 cellsStr cells3S h1 j x hx
    | 5, hx =>
      have h1 := h.filter (fun x => x.1 == "umpire/event.states")
      rw [show LF.laid.filter (fun x => x.1 == "umpire/event.states") = [("umpire/event.states", (DataW.agg ((tabs 5).map fun z => .lit (.string z)) : DataW Unit))] from by kernel_rfl, MakeChecks.laidMetH_plain _ _ _ (by kernel_rfl)] at h1
      exact strs_of nstates ystates Tryz.underlying93 Tryz.underlying9 cellsStr cells4S h1 j x hx
    | 6, hx =>
      have h1 := h.filter (fun x => x.1 == "umpire/event.levels")
      rw [show LF.laid.filter (fun x => x.1 == "umpire/event.levels") = [("umpire/event.levels", (DataW.agg ((tabs 6).map fun z => .lit (.string z)) : DataW Unit))] from by kernel_rfl, MakeChecks.laidMetH_plain _ _ _ (by kernel_rfl)] at h1
      exact strs_of nlevels ylevels Tryz.underlying93 Tryz.underlying9 cellsStr cells4S h1 j x hx
    | 0, hx => exact absurd hx (by simp [tabs])
    | t + 7, hx => exact absurd hx (by simp [tabs])
/-- What the row's list gives. -/
theorem laidFP_of {U : World} (h : laidMetH Tryz.prog LF.laid U) : LaidP U := by
  refine ⟨⟨fun g hg => by simp at hg, laidF_tab h⟩, fun g hg => ?_, fun j x hx => ?_⟩
  · simp only [List.nil_append, List.mem_cons, List.not_mem_nil, or_false] at hg
    subst hg
    have h1 := h.filter (fun x => x.1 == "umpire/api.ErrProg")
    rw [show LF.laid.filter (fun x => x.1 == "umpire/api.ErrProg") = [("umpire/api.ErrProg", Rows.laid_umpire_api_ErrProg)] from by kernel_rfl] at h1
    exact sent_one h1 gProg gProgType
  · have h1 := h.filter (fun x => x.1 == "umpire/prog.acts")
    rw [show LF.laid.filter (fun x => x.1 == "umpire/prog.acts") = [("umpire/prog.acts", (DataW.agg (actTab.map fun z => .lit (.string z)) : DataW Unit))] from by kernel_rfl, MakeChecks.laidMetH_plain _ _ _ (by kernel_rfl)] at h1
    exact strs_of gActs gActsType Tryz.underlying93 Tryz.underlying9 cellsStr cells4S h1 j x hx
end Go.Proofs.YtgfmlaflochffaaGreatDoor
