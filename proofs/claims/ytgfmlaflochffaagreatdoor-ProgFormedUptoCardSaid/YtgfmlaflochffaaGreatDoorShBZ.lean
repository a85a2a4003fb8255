/-
  A walk through a program, as plain data: what a thread does next, what an answer does to it.
  The automaton of histories as plain data, and that it takes a walk's events, one by one: what it then holds.
  Each step of a walk, taken by the automaton.
-/
import Derived.Test.YtgfmlaflochffaaGreatDoorPMemZ
import Derived.Test.YtgfmlaflochffaaGreatDoorEvAZ
namespace Go.Proofs.YtgfmlaflochffaaGreatDoor
open Go.RowKit W

/-- How far a thread is. -/
structure Th where
  tx : Int
  act : Int
  begun : Bool
  adding : Bool
  read : Int
  waits : Int
/-- A program, its threads, the events up to now. -/
structure Wd where
  p : Pg
  ts : List Th
  es : List Ev
def Th.new : Th := ⟨0, 0, false, false, 0, 0⟩
def wthn (n : Int) : Prop := -1000000000 ≤ n ∧ n ≤ 1000000000
/-- A thread that has something to do, and its transactions. -/
def Wd.live (d : Wd) (i : Int) : Option (Th × List (List PAct)) :=
  if i < 0 then none else match d.ts[i.toNat]?, d.p.threads[i.toNat]? with
    | some t, some l => if t.tx = l.length then none else some (t, l)
    | _, _ => none
/-- What happens to a thread: where it then is, the event. -/
def Wd.put (d : Wd) (k : Nat) (n : Int) (t : Th) (e : Ev) : (Ev × Bool) × Wd := (({ e with tx := idOf k n }, true), ⟨d.p, d.ts.set k t, d.es ++ [{ e with tx := idOf k n }]⟩)
def evB (i : Int) : Ev := ⟨1, 0, i, 0, 0, 0, 0, 0⟩
def evK (k : Int) : Ev := ⟨k, 0, 0, 0, 0, 0, 0, 0⟩
def evR (c : Int) : Ev := ⟨2, 0, 0, c, 1, 0, 0, 0⟩
def evW (c v : Int) : Ev := ⟨2, 0, 0, c, 2, 0, v, 0⟩
def evA (v r : Int) : Ev := ⟨3, 0, 0, 0, 0, 0, v, r⟩
/-- What an act asks for. -/
def askEv (t : Th) (a : PAct) : Ev := if a.kind = 1 then evR a.cell else if a.kind = 2 then evW a.cell a.val else if t.adding = true then evW a.cell (a.val + t.read) else evR a.cell
def nextEv (t : Th) (l : List PAct) : Ev := match l[t.act.toNat]? with
  | none => evK 4
  | some a => if a.kind = 4 then evK 7 else askEv t a
def actsOf (t : Th) (l : List (List PAct)) : List PAct := l[t.tx.toNat]?.getD []
def Wd.next (d : Wd) (i : Int) : (Ev × Bool) × Wd := match d.live i with
  | none => ((Ev.zero, false), d)
  | some (t, l) => if t.waits ≠ 0 then ((Ev.zero, false), d)
    else if t.begun = false then d.put i.toNat t.tx { t with begun := true } (evB i)
    else d.put i.toNat t.tx { t with waits := (nextEv t (actsOf t l)).kind } (nextEv t (actsOf t l))
/-- The end of a thread's transaction. -/
def Wd.ends (d : Wd) (k : Nat) (t : Th) (kind : Int) : (Ev × Bool) × Wd := d.put k t.tx ⟨t.tx + 1, 0, false, false, 0, 0⟩ (evK kind)
def Th.reads (t : Th) (a : PAct) : Prop := a.kind = 1 ∨ a.kind = 3 ∧ t.adding = false
instance (t : Th) (a : PAct) : Decidable (t.reads a) := by unfold Th.reads; infer_instance
instance (n : Int) : Decidable (wthn n) := by unfold wthn; infer_instance
def ansTo (d : Wd) (k : Nat) (t : Th) (a : PAct) (v : Int) : (Ev × Bool) × Wd :=
  if t.reads a then
    if ¬ wthn v ∨ a.kind = 3 ∧ ¬ wthn (v + a.val) then ((Ev.zero, false), d)
    else if a.kind = 3 then d.put k t.tx { t with waits := 0, adding := true, read := v } (evA v 3)
    else d.put k t.tx { t with waits := 0, act := t.act + 1 } (evA v 3)
  else d.put k t.tx { t with waits := 0, adding := false, act := t.act + 1 } (evA 0 1)
def Wd.answer (d : Wd) (i v : Int) (abort : Bool) : (Ev × Bool) × Wd := match d.live i with
  | none => ((Ev.zero, false), d)
  | some (t, l) => if t.waits = 0 then ((Ev.zero, false), d)
    else if abort = true then d.ends i.toNat t 6
    else if t.waits = 4 then d.ends i.toNat t 5
    else if t.waits = 7 then ((Ev.zero, false), d)
    else match (actsOf t l)[t.act.toNat]? with
      | none => ((Ev.zero, false), d)
      | some a => ansTo d i.toNat t a v

/-- Where a thread may be. -/
structure ThOk (t : Th) (l : List (List PAct)) : Prop where
  t0 : 0 ≤ t.tx
  t1 : t.tx ≤ l.length
  a0 : 0 ≤ t.act
  w : t.waits = 0 ∨ t.waits = 2 ∨ t.waits = 4 ∨ t.waits = 7
  wb : t.waits ≠ 0 → t.begun = true
  r : wthn t.read
  a1 : t.act ≤ (actsOf t l).length
  a2 : t.waits = 2 → ∃ a, (actsOf t l)[t.act.toNat]? = some a ∧ a.kind ≠ 4
  a3 : t.adding = true → ∃ a, (actsOf t l)[t.act.toNat]? = some a ∧ a.kind = 3 ∧ wthn (a.val + t.read)
structure WdOk (d : Wd) : Prop where
  ok : pgOk d.p = true
  len : d.ts.length = d.p.threads.length
  th : ∀ (k : Nat) t l, d.ts[k]? = some t → d.p.threads[k]? = some l → ThOk t l
theorem live_at {d : Wd} {i : Int} {t : Th} {l : List (List PAct)} (h : d.live i = some (t, l)) : 0 ≤ i ∧ d.ts[i.toNat]? = some t ∧ d.p.threads[i.toNat]? = some l ∧ t.tx ≠ l.length := by
  unfold Wd.live at h
  by_cases hi : i < 0
  · rw [if_pos hi] at h; cases h
  · rw [if_neg hi] at h
    split at h
    · rename_i t' l' h1 h2
      by_cases he : t'.tx = l'.length
      · rw [if_pos he] at h; cases h
      · rw [if_neg he] at h
        injection h with h
        injection h with e1 e2
        subst e1 e2
        exact ⟨by omega, h1, h2, he⟩
    · cases h
theorem ThOk.ended {t : Th} {l : List (List PAct)} (h : ThOk t l) (hne : t.tx ≠ l.length) : ThOk ⟨t.tx + 1, 0, false, false, 0, 0⟩ l :=
  ⟨by have := h.t0; simp only; omega, by have := h.t1; simp only; omega, by simp, .inl rfl, fun e => absurd rfl e, by simp [wthn], by simp, fun e => by simp at e, fun e => by simp at e⟩
theorem WdOk.set {d : Wd} (h : WdOk d) {k : Nat} {t' : Th} {es : List Ev} (ht : ∀ l, d.p.threads[k]? = some l → ThOk t' l) : WdOk ⟨d.p, d.ts.set k t', es⟩ := by
  refine ⟨h.ok, by simpa using h.len, fun j t l hj hl => ?_⟩
  by_cases hjk : j = k
  · subst hjk
    have hlt : j < d.ts.length := by
      have := (List.getElem?_eq_some_iff.1 hl).1
      have e := h.len
      simp only at this
      omega
    simp only at hj
    rw [List.getElem?_set_self hlt] at hj
    injection hj with hj
    subst hj
    exact ht l hl
  · simp only at hj
    rw [List.getElem?_set_ne (fun e => hjk e.symm)] at hj
    exact h.th j t l hj hl
theorem WdOk.put {d : Wd} (h : WdOk d) {k : Nat} {n : Int} {t' : Th} {e : Ev} (ht : ∀ l, d.p.threads[k]? = some l → ThOk t' l) : WdOk (d.put k n t' e).2 := h.set ht
theorem WdOk.next {d : Wd} (h : WdOk d) (i : Int) : WdOk (d.next i).2 := by
  unfold Wd.next
  split
  · exact h
  · rename_i t l hl
    obtain ⟨hi, h1, h2, hne⟩ := live_at hl
    have ht := h.th _ _ _ h1 h2
    by_cases hw : t.waits ≠ 0
    · rw [if_pos hw]; exact h
    · rw [if_neg hw]
      have hw0 : t.waits = 0 := by omega
      by_cases hb : t.begun = false
      · rw [if_pos hb]
        refine h.put fun l' hl' => ?_
        rw [h2] at hl'
        injection hl' with hl'
        subst hl'
        exact ⟨ht.t0, ht.t1, ht.a0, ht.w, fun _ => rfl, ht.r, ht.a1, ht.a2, ht.a3⟩
      · rw [if_neg hb]
        refine h.put fun l' hl' => ?_
        rw [h2] at hl'
        injection hl' with hl'
        subst hl'
        refine ⟨ht.t0, ht.t1, ht.a0, ?_, fun _ => by simpa using hb, ht.r, ht.a1, ?_, ht.a3⟩
        · simp only
          unfold nextEv
          split
          · exact .inr (.inr (.inl rfl))
          · by_cases h4 : (‹PAct›).kind = 4
            · rw [if_pos h4]; exact .inr (.inr (.inr rfl))
            · rw [if_neg h4]
              refine .inr (.inl ?_)
              unfold askEv
              split
              · rfl
              · split
                · rfl
                · split <;> rfl
        · simp only
          intro hk
          show ∃ a, (actsOf t l)[t.act.toNat]? = some a ∧ a.kind ≠ 4
          unfold nextEv at hk
          split at hk
          · simp [evK] at hk
          · rename_i a ha
            by_cases h4 : a.kind = 4
            · rw [if_pos h4] at hk; simp [evK] at hk
            · exact ⟨a, ha, h4⟩
theorem WdOk.ends {d : Wd} (h : WdOk d) {i : Int} {t : Th} {l : List (List PAct)} (hl : d.live i = some (t, l)) (kind : Int) : WdOk (d.ends i.toNat t kind).2 := by
  obtain ⟨hi, h1, h2, hne⟩ := live_at hl
  refine h.put fun l' hl' => ?_
  rw [h2] at hl'
  injection hl' with hl'
  subst hl'
  exact (h.th _ _ _ h1 h2).ended hne
theorem WdOk.answer {d : Wd} (h : WdOk d) (i v : Int) (abort : Bool) : WdOk (d.answer i v abort).2 := by
  unfold Wd.answer
  split
  · exact h
  · rename_i t l hl
    have hE := fun k => h.ends hl k
    obtain ⟨hi, h1, h2, hne⟩ := live_at hl
    have ht := h.th _ _ _ h1 h2
    by_cases hw : t.waits = 0
    · rw [if_pos hw]; exact h
    · rw [if_neg hw]
      by_cases hab : abort = true
      · rw [if_pos hab]; exact hE 6
      · rw [if_neg hab]
        by_cases h4 : t.waits = 4
        · rw [if_pos h4]; exact hE 5
        · rw [if_neg h4]
          by_cases h7 : t.waits = 7
          · rw [if_pos h7]; exact h
          · rw [if_neg h7]
            split
            · exact h
            · rename_i a ha
              have hlt := (List.getElem?_eq_some_iff.1 ha).1
              have ha0 := ht.a0
              have hact : ∀ act', t.act + 1 = act' → act' ≤ (actsOf t l).length := by intro act' e; omega
              unfold ansTo
              by_cases hr : t.reads a
              · rw [if_pos hr]
                by_cases hb : ¬ wthn v ∨ a.kind = 3 ∧ ¬ wthn (v + a.val)
                · rw [if_pos hb]; exact h
                · rw [if_neg hb]
                  have hv : wthn v := Decidable.byContradiction fun e => hb (.inl e)
                  by_cases h3 : a.kind = 3
                  · rw [if_pos h3]
                    have hva : wthn (v + a.val) := Decidable.byContradiction fun e => hb (.inr ⟨h3, e⟩)
                    refine h.put fun l' hl' => ?_
                    rw [h2] at hl'
                    injection hl' with hl'
                    subst hl'
                    exact ⟨ht.t0, ht.t1, ht.a0, .inl rfl, fun e => absurd rfl e, hv, ht.a1, fun e => by simp at e, fun _ => ⟨a, ha, h3, by unfold wthn at hva ⊢; simp only; omega⟩⟩
                  · rw [if_neg h3]
                    have hna : t.adding = false := by
                      cases hx : t.adding with
                      | false => rfl
                      | true =>
                        obtain ⟨a', ha', h3', _⟩ := ht.a3 hx
                        rw [ha] at ha'
                        injection ha' with ha'
                        subst ha'
                        exact absurd h3' h3
                    refine h.put fun l' hl' => ?_
                    rw [h2] at hl'
                    injection hl' with hl'
                    subst hl'
                    exact ⟨ht.t0, ht.t1, by simp only; omega, .inl rfl, fun e => absurd rfl e, ht.r, by simp only [actsOf]; exact hact _ rfl, fun e => by simp at e, fun e => by simp [hna] at e⟩
              · rw [if_neg hr]
                refine h.put fun l' hl' => ?_
                rw [h2] at hl'
                injection hl' with hl'
                subst hl'
                exact ⟨ht.t0, ht.t1, by simp only; omega, .inl rfl, fun e => absurd rfl e, ht.r, by simp only [actsOf]; exact hact _ rfl, fun e => by simp at e, fun e => by simp at e⟩
def Wd.start (p : Pg) : Wd := ⟨p, p.threads.map fun _ => Th.new, []⟩
theorem WdOk.start {p : Pg} (h : pgOk p = true) : WdOk (Wd.start p) := by
  refine ⟨h, by simp [Wd.start], fun k t l hk hl => ?_⟩
  simp only [Wd.start, List.getElem?_map] at hk
  obtain ⟨x, _, rfl⟩ := Option.map_eq_some_iff.1 hk
  exact ⟨by simp [Th.new], by simp [Th.new], by simp [Th.new], .inl rfl, fun e => absurd rfl e, by simp [wthn, Th.new], by simp [Th.new], fun e => by simp [Th.new] at e, fun e => by simp [Th.new] at e⟩
end Go.Proofs.YtgfmlaflochffaaGreatDoor

namespace Go.Proofs.YtgfmlaflochffaaGreatDoor
open Go.RowKit W

/-- An operation of a transaction. -/
structure Dd where
  obj : Int
  op : Int
  key : Int
  val : Int
  ret : Int
  got : Int
  pos : Int
  back : Int
/-- A transaction, and where it stands. -/
structure St where
  id : Int
  thr : Int
  status : Int
  beg : Int
  fin : Int
  tri : Int
  deeds : List Dd
  stand : Int
structure Au where
  many : Nat
  sts : List St
def Au.upd (A : Au) (i : Nat) (s : St) : Au := ⟨A.many + 1, A.sts.set i s⟩
def fitsR (op ret : Int) : Prop := op = 2 ∧ ret = 1 ∨ op = 1 ∧ ret = 3
/-- One event is taken. -/
inductive FStep : Au → Ev → Au → Prop
  | start {A : Au} {e : Ev} : e.kind = 1 → (∀ s ∈ A.sts, s.id ≠ e.tx) → (∀ s ∈ A.sts, s.thr = e.thr → s.stand = 5) → FStep A e ⟨A.many + 1, A.sts ++ [⟨e.tx, e.thr, 1, A.many, -1, -1, [], 1⟩]⟩
  | call {A : Au} {e : Ev} {i : Nat} {s : St} : e.kind = 2 → A.sts[i]? = some s → s.id = e.tx → s.stand = 1 → FStep A e (A.upd i { s with stand := 2, deeds := s.deeds ++ [⟨e.obj, e.op, e.key, e.val, 0, 0, A.many, -1⟩] })
  | ret {A : Au} {e : Ev} {i : Nat} {s : St} {dl : List Dd} {d : Dd} : e.kind = 3 → A.sts[i]? = some s → s.id = e.tx → s.stand = 2 → s.deeds = dl ++ [d] → fitsR d.op e.ret → FStep A e (A.upd i { s with stand := 1, deeds := dl ++ [{ d with ret := e.ret, got := e.val, back := A.many }] })
  | asks {A : Au} {e : Ev} {i : Nat} {s : St} : e.kind = 4 → A.sts[i]? = some s → s.id = e.tx → s.stand = 1 → FStep A e (A.upd i { s with stand := 3, tri := A.many, status := 2 })
  | cancel {A : Au} {e : Ev} {i : Nat} {s : St} : e.kind = 7 → A.sts[i]? = some s → s.id = e.tx → s.stand = 1 → FStep A e (A.upd i { s with stand := 4 })
  | ends {A : Au} {e : Ev} {i : Nat} {s : St} : (e.kind = 5 ∧ s.stand = 3 ∨ e.kind = 6 ∧ (s.stand = 1 ∨ s.stand = 2 ∨ s.stand = 3 ∨ s.stand = 4)) → A.sts[i]? = some s → s.id = e.tx → (∀ (j : Nat) (s' : St), A.sts[j]? = some s' → s'.thr = s.thr → s'.stand ≠ 5 → j = i) →
      FStep A e (A.upd i { s with stand := 5, fin := A.many, status := if e.kind = 5 then 3 else 4 })
/-- An event that may be, of a history of registers. -/
def EvGood (nc : Nat) (e : Ev) : Prop := e.Ok ∧ (e.kind = 2 → 0 ≤ e.obj ∧ e.obj < nc ∧ (e.op = 1 ∨ e.op = 2))
def stOf (w : Int) : Int := if w = 0 then 1 else if w = 2 then 2 else if w = 4 then 3 else 4
def opOf (t : Th) (a : PAct) : Int := if a.kind = 2 ∨ t.adding = true then 2 else 1
/-- What the running transaction of a thread has done. -/
def CurOk (t : Th) (acts : List PAct) (ds : List Dd) : Prop :=
  (ds.length : Int) ≤ 2 * t.act + (if t.adding = true then 1 else 0) + (if t.waits = 2 then 1 else 0) ∧ (t.waits = 2 → ∃ dl d a, ds = dl ++ [d] ∧ acts[t.act.toNat]? = some a ∧ d.op = opOf t a)
/-- A transaction of a thread: the j-th one. -/
structure One (d : Wd) (s : St) (k j : Nat) (t : Th) (l : List (List PAct)) : Prop where
  thr : s.thr = k
  ts : d.ts[k]? = some t
  tl : d.p.threads[k]? = some l
  id : s.id = 3 * k + j + 1
  jl : j < l.length
  how : (j : Int) < t.tx ∧ s.stand = 5 ∧ 0 ≤ s.fin ∧ s.deeds.length ≤ 2 * (l[j]?.getD []).length ∨ (j : Int) = t.tx ∧ t.begun = true ∧ s.stand = stOf t.waits ∧ s.fin = -1 ∧ CurOk t (actsOf t l) s.deeds
def cntT (t : Th) : Nat := t.tx.toNat + (if t.begun = true then 1 else 0)
structure Inv (d : Wd) (A : Au) : Prop where
  many : A.many = d.es.length
  per : ∀ (k : Nat) t, d.ts[k]? = some t → (A.sts.filter fun s => s.thr == (k : Int)).map (·.id) = (List.range (cntT t)).map fun (j : Nat) => 3 * (k : Int) + (j : Int) + 1
  each : ∀ s ∈ A.sts, ∃ k j t l, One d s k j t l
  nodup : (A.sts.map (·.id)).Nodup
  fresh : ∀ (k : Nat) t l, d.ts[k]? = some t → d.p.threads[k]? = some l → t.tx = l.length → t.begun = false
  idle : ∀ (k : Nat) t, d.ts[k]? = some t → t.begun = false → t.act = 0 ∧ t.adding = false
  good : ∀ e ∈ d.es, EvGood d.p.cells.length e

theorem stand_cases {t : Th} {l : List (List PAct)} (h : ThOk t l) : stOf t.waits = 1 ∨ stOf t.waits = 2 ∨ stOf t.waits = 3 ∨ stOf t.waits = 4 := by
  unfold stOf
  rcases h.w with h | h | h | h <;> simp [h]
theorem stOf_ne (w : Int) : stOf w ≠ 5 := by
  unfold stOf
  split
  · decide
  · split
    · decide
    · split <;> decide
theorem ids_inj {k j k' j' : Nat} (h : 3 * (k : Int) + j + 1 = 3 * (k' : Int) + j' + 1) (hj : j < 3) (hj' : j' < 3) : k = k' ∧ j = j' := by omega
/-- The running transaction of a thread stands in the automaton. -/
theorem Inv.cur {d : Wd} {A : Au} (h : Inv d A) (hok : WdOk d) {k : Nat} {t : Th} {l : List (List PAct)} (hl : d.live k = some (t, l)) (hb : t.begun = true) :
    ∃ (i : Nat) (s : St), A.sts[i]? = some s ∧ s.thr = k ∧ s.id = 3 * (k : Int) + t.tx + 1 ∧ s.stand = stOf t.waits ∧ s.fin = -1 ∧ CurOk t (actsOf t l) s.deeds ∧ ∀ (j : Nat) (s' : St), A.sts[j]? = some s' → s'.thr = s.thr → s'.stand ≠ 5 → j = i := by
  obtain ⟨_, h1, h2, hne⟩ := live_at hl
  simp only [Int.toNat_natCast] at h1 h2
  have ht := hok.th _ _ _ h1 h2
  have hp := h.per k t h1
  have hth := (thrOk_parts ((pgOk_parts hok.ok).2.2.2.2.2 l (List.mem_of_getElem? h2))).1
  have hc : cntT t = t.tx.toNat + 1 := by unfold cntT; rw [if_pos hb]
  have hmem : (3 * (k : Int) + (t.tx.toNat : Int) + 1) ∈ (A.sts.filter fun s => s.thr == (k : Int)).map (·.id) := by
    rw [hp, hc]
    exact List.mem_map.2 ⟨t.tx.toNat, by simp, rfl⟩
  obtain ⟨s, hs, hid⟩ := List.mem_map.1 hmem
  obtain ⟨hsm, hst⟩ := List.mem_filter.1 hs
  have hthr : s.thr = (k : Int) := by simpa using hst
  obtain ⟨i, hi⟩ := List.getElem?_of_mem hsm
  have ht0 := ht.t0
  have key : ∀ s' ∈ A.sts, s'.thr = (k : Int) → s'.stand ≠ 5 → s'.id = 3 * (k : Int) + t.tx + 1 ∧ s'.stand = stOf t.waits ∧ s'.fin = -1 ∧ CurOk t (actsOf t l) s'.deeds := by
    intro s' hs' hk' h5
    obtain ⟨k2, j2, t2, l2, ho⟩ := h.each s' hs'
    have hk2 : k2 = k := by have := ho.thr; omega
    subst hk2
    have e1 := ho.ts
    rw [h1] at e1
    injection e1 with e1
    subst e1
    have e2 := ho.tl
    rw [h2] at e2
    injection e2 with e2
    subst e2
    rcases ho.how with ⟨_, h55, _⟩ | ⟨hj, _, q1, q2, q3⟩
    · exact absurd h55 h5
    · exact ⟨by rw [ho.id]; omega, q1, q2, q3⟩
  have h5 : s.stand ≠ 5 := by
    obtain ⟨k2, j2, t2, l2, ho⟩ := h.each s hsm
    have hk2 : k2 = k := by have := ho.thr; omega
    subst hk2
    have e1 := ho.ts
    rw [h1] at e1
    injection e1 with e1
    subst e1
    rcases ho.how with ⟨hj, _⟩ | ⟨_, _, q1, _⟩
    · have := ho.id
      have hid2 : s.id = 3 * (k2 : Int) + (t.tx.toNat : Int) + 1 := hid
      omega
    · rw [q1]; exact stOf_ne _
  obtain ⟨q0, q1, q2, q3⟩ := key s hsm hthr h5
  refine ⟨i, s, hi, hthr, q0, q1, q2, q3, fun j s' hj hs' h5' => ?_⟩
  have q := (key s' (List.mem_of_getElem? hj) (hs'.trans hthr) h5').1
  have hlt := (List.getElem?_eq_some_iff.1 hj)
  have hlt2 := (List.getElem?_eq_some_iff.1 hi)
  have e : (A.sts.map (·.id))[j]'(by simpa using hlt.1) = (A.sts.map (·.id))[i]'(by simpa using hlt2.1) := by
    simp [hlt.2, hlt2.2, q, q0]
  exact (List.getElem_inj h.nodup).1 e
/-- The automaton where a transaction has turned, its number and its thread as they were. -/
theorem filter_set {A : List St} {i : Nat} {s s' : St} (hi : A[i]? = some s) (h1 : s'.thr = s.thr) (h2 : s'.id = s.id) (k : Int) : ((A.set i s').filter fun s => s.thr == k).map (·.id) = (A.filter fun s => s.thr == k).map (·.id) := by
  induction A generalizing i with
  | nil => rfl
  | cons a r ih =>
    cases i with
    | zero =>
      obtain rfl : a = s := by simpa using hi
      simp only [List.set_cons_zero, List.filter_cons, h1]
      split <;> simp [h2]
    | succ i =>
      have := ih (i := i) (by simpa using hi)
      simp only [List.set_cons_succ, List.filter_cons]
      split <;> simp [this]
theorem ids_set {A : List St} {i : Nat} {s s' : St} (hi : A[i]? = some s) (h2 : s'.id = s.id) : (A.set i s').map (·.id) = A.map (·.id) := by
  induction A generalizing i with
  | nil => rfl
  | cons a r ih =>
    cases i with
    | zero =>
      obtain rfl : a = s := by simpa using hi
      simp [h2]
    | succ i => simp [ih (i := i) (by simpa using hi)]
/-- One event more, that turns the thread's running transaction. -/
theorem Inv.turn {d : Wd} {A : Au} (h : Inv d A) (hok : WdOk d) {k i : Nat} {t t' : Th} {l : List (List PAct)} {s s' : St} {e : Ev} (hl : d.live k = some (t, l)) (hi : A.sts[i]? = some s) (hthr : s.thr = k) (hid : s.id = 3 * (k : Int) + t.tx + 1)
    (hu : ∀ (j : Nat) (s' : St), A.sts[j]? = some s' → s'.thr = s.thr → s'.stand ≠ 5 → j = i) (h1' : s'.thr = s.thr) (h2' : s'.id = s.id) (hc : cntT t' = cntT t) (ht0 : 0 ≤ t'.tx) (hge : t.tx ≤ t'.tx)
    (hf : t'.tx = l.length → t'.begun = false) (hidl : t'.begun = false → t'.act = 0 ∧ t'.adding = false) (hg : EvGood d.p.cells.length e)
    (how : t.tx < t'.tx ∧ s'.stand = 5 ∧ 0 ≤ s'.fin ∧ s'.deeds.length ≤ 2 * (actsOf t l).length ∨ t.tx = t'.tx ∧ t'.begun = true ∧ s'.stand = stOf t'.waits ∧ s'.fin = -1 ∧ CurOk t' (actsOf t' l) s'.deeds) :
    Inv ⟨d.p, d.ts.set k t', d.es ++ [e]⟩ (A.upd i s') := by
  obtain ⟨_, h1, h2, hne⟩ := live_at hl
  simp only [Int.toNat_natCast] at h1 h2
  have hkl := (List.getElem?_eq_some_iff.1 h1).1
  have ht := hok.th _ _ _ h1 h2
  have htx := ht.t0
  have htl : t.tx < l.length := by have := ht.t1; omega
  have hset : ∀ (k2 : Nat) t2, (d.ts.set k t')[k2]? = some t2 → (k2 = k ∧ t2 = t') ∨ (k2 ≠ k ∧ d.ts[k2]? = some t2) := by
    intro k2 t2 hk2
    by_cases hkk : k2 = k
    · subst hkk
      rw [List.getElem?_set_self hkl] at hk2
      injection hk2 with hk2
      exact .inl ⟨rfl, hk2.symm⟩
    · rw [List.getElem?_set_ne (fun e => hkk e.symm)] at hk2
      exact .inr ⟨hkk, hk2⟩
  refine ⟨by simp [Au.upd, h.many], fun k2 t2 hk2 => ?_, fun x hx => ?_, ?_, fun k2 t2 l2 hk2 hl2 he => ?_, fun k2 t2 hk2 he => ?_, fun x hx => ?_⟩
  · simp only [Au.upd]
    rw [filter_set hi h1' h2']
    rcases hset k2 t2 hk2 with ⟨rfl, rfl⟩ | ⟨_, hk3⟩
    · rw [h.per k2 t h1, hc]
    · exact h.per k2 t2 hk3
  · obtain ⟨j, hj⟩ := List.getElem?_of_mem hx
    simp only [Au.upd] at hj
    by_cases hji : j = i
    · subst hji
      rw [List.getElem?_set_self (List.getElem?_eq_some_iff.1 hi).1] at hj
      injection hj with hj
      subst hj
      refine ⟨k, t.tx.toNat, t', l, h1'.trans hthr, ?_, h2, by rw [h2', hid]; omega, by omega, ?_⟩
      · simp only; exact List.getElem?_set_self hkl
      · rcases how with ⟨q1, q2, q3, q4⟩ | ⟨q1, q2, q3, q4, q5⟩
        · exact .inl ⟨by omega, q2, q3, q4⟩
        · exact .inr ⟨by omega, q2, q3, q4, q5⟩
    · rw [List.getElem?_set_ne (fun e => hji e.symm)] at hj
      obtain ⟨k2, j2, t2, l2, ho⟩ := h.each x (List.mem_of_getElem? hj)
      by_cases hkk : k2 = k
      · subst hkk
        have e1 := ho.ts
        rw [h1] at e1
        injection e1 with e1
        subst e1
        have e2 := ho.tl
        rw [h2] at e2
        injection e2 with e2
        subst e2
        rcases ho.how with ⟨q1, q2, q3, q4⟩ | ⟨q1, _, q3, _⟩
        · exact ⟨k2, j2, t', l, ho.thr, by simp only; exact List.getElem?_set_self hkl, h2, ho.id, ho.jl, .inl ⟨by omega, q2, q3, q4⟩⟩
        · exact absurd (hu j x hj (ho.thr.trans hthr.symm) (by rw [q3]; exact stOf_ne _)) hji
      · exact ⟨k2, j2, t2, l2, ho.thr, by simp only; rw [List.getElem?_set_ne (fun e => hkk e.symm)]; exact ho.ts, ho.tl, ho.id, ho.jl, ho.how⟩
  · simp only [Au.upd]
    rw [ids_set hi h2']
    exact h.nodup
  · rcases hset k2 t2 hk2 with ⟨rfl, rfl⟩ | ⟨_, hk3⟩
    · simp only at hl2
      rw [h2] at hl2
      injection hl2 with hl2
      subst hl2
      exact hf he
    · exact h.fresh k2 t2 l2 hk3 hl2 he
  · rcases hset k2 t2 hk2 with ⟨rfl, rfl⟩ | ⟨_, hk3⟩
    · exact hidl he
    · exact h.idle k2 t2 hk3 he
  · rcases List.mem_append.1 hx with hx | hx
    · exact h.good x hx
    · obtain rfl : x = e := by simpa using hx
      exact hg
/-- A transaction begins. -/
theorem Inv.starts {d : Wd} {A : Au} (h : Inv d A) (hok : WdOk d) {k : Nat} {t : Th} {l : List (List PAct)} (hl : d.live k = some (t, l)) (hb : t.begun = false) (hw : t.waits = 0) {e : Ev} (hk : e.kind = 1) (he : e.thr = k) (hx : e.tx = 3 * (k : Int) + t.tx + 1) (hg : EvGood d.p.cells.length e) :
    FStep A e ⟨A.many + 1, A.sts ++ [⟨e.tx, e.thr, 1, A.many, -1, -1, [], 1⟩]⟩ ∧ Inv ⟨d.p, d.ts.set k { t with begun := true }, d.es ++ [e]⟩ ⟨A.many + 1, A.sts ++ [⟨e.tx, e.thr, 1, A.many, -1, -1, [], 1⟩]⟩ := by
  obtain ⟨_, h1, h2, hne⟩ := live_at hl
  simp only [Int.toNat_natCast] at h1 h2
  have hkl := (List.getElem?_eq_some_iff.1 h1).1
  have ht := hok.th _ _ _ h1 h2
  have htx := ht.t0
  have htl : t.tx < l.length := by have := ht.t1; omega
  have hc0 : cntT t = t.tx.toNat := by unfold cntT; simp [hb]
  obtain ⟨hact, had⟩ := h.idle k t h1 hb
  have hth3 : ∀ (k2 : Nat) l2, d.p.threads[k2]? = some l2 → l2.length ≤ 3 := fun k2 l2 h => (thrOk_parts ((pgOk_parts hok.ok).2.2.2.2.2 l2 (List.mem_of_getElem? h))).1
  have done : ∀ s ∈ A.sts, s.thr = (k : Int) → s.stand = 5 ∧ s.id < e.tx := by
    intro s hs hk'
    obtain ⟨k2, j2, t2, l2, ho⟩ := h.each s hs
    have hk2 : k2 = k := by have := ho.thr; omega
    subst hk2
    have e1 := ho.ts
    rw [h1] at e1
    injection e1 with e1
    subst e1
    rcases ho.how with ⟨q1, q2, _⟩ | ⟨_, q2, _⟩
    · exact ⟨q2, by rw [ho.id, hx]; omega⟩
    · rw [hb] at q2; cases q2
  have newid : ∀ s ∈ A.sts, s.id ≠ e.tx := by
    intro s hs hid
    by_cases hk' : s.thr = (k : Int)
    · have := (done s hs hk').2; omega
    · obtain ⟨k2, j2, t2, l2, ho⟩ := h.each s hs
      have h3 := hth3 k2 l2 ho.tl
      have h4 := hth3 k l h2
      have h5 := ho.id
      have h6 := ho.thr
      have h7 := ho.jl
      rw [h6] at hk'
      omega
  refine ⟨.start hk newid (fun s hs hthr => (done s hs (hthr.trans he)).1), ?_⟩
  have hset : ∀ (k2 : Nat) t2, (d.ts.set k { t with begun := true })[k2]? = some t2 → (k2 = k ∧ t2 = { t with begun := true }) ∨ (k2 ≠ k ∧ d.ts[k2]? = some t2) := by
    intro k2 t2 hk2
    by_cases hkk : k2 = k
    · subst hkk
      rw [List.getElem?_set_self hkl] at hk2
      injection hk2 with hk2
      exact .inl ⟨rfl, hk2.symm⟩
    · rw [List.getElem?_set_ne (fun e => hkk e.symm)] at hk2
      exact .inr ⟨hkk, hk2⟩
  refine ⟨by simp [h.many], fun k2 t2 hk2 => ?_, fun x hx' => ?_, ?_, fun k2 t2 l2 hk2 hl2 hee => ?_, fun k2 t2 hk2 hee => ?_, fun x hx' => ?_⟩
  · simp only [List.filter_append, List.map_append]
    rcases hset k2 t2 hk2 with ⟨rfl, rfl⟩ | ⟨hkk, hk3⟩
    · rw [h.per k2 t h1, hc0]
      have hc1 : cntT { t with begun := true } = t.tx.toNat + 1 := by unfold cntT; simp
      rw [hc1, List.range_succ, List.map_append]
      congr 1
      simp [he, hx]
      omega
    · rw [h.per k2 t2 hk3]
      have hne2 : ¬ e.thr = (k2 : Int) := by omega
      simp [hne2]
  · simp only at hx'
    rcases List.mem_append.1 hx' with hx' | hx'
    · obtain ⟨k2, j2, t2, l2, ho⟩ := h.each x hx'
      by_cases hkk : k2 = k
      · subst hkk
        have e1 := ho.ts
        rw [h1] at e1
        injection e1 with e1
        subst e1
        have e2 := ho.tl
        rw [h2] at e2
        injection e2 with e2
        subst e2
        rcases ho.how with q | ⟨_, q2, _⟩
        · exact ⟨k2, j2, { t with begun := true }, l, ho.thr, by simp only; exact List.getElem?_set_self hkl, h2, ho.id, ho.jl, .inl q⟩
        · rw [hb] at q2; cases q2
      · exact ⟨k2, j2, t2, l2, ho.thr, by simp only; rw [List.getElem?_set_ne (fun e => hkk e.symm)]; exact ho.ts, ho.tl, ho.id, ho.jl, ho.how⟩
    · obtain rfl : x = ⟨e.tx, e.thr, 1, A.many, -1, -1, [], 1⟩ := by simpa using hx'
      refine ⟨k, t.tx.toNat, { t with begun := true }, l, he, by simp only; exact List.getElem?_set_self hkl, h2, by simp only; rw [hx]; omega, by omega, .inr ⟨by simp only; omega, rfl, ?_, rfl, ?_⟩⟩
      · simp [stOf, hw]
      · refine ⟨?_, fun hq => ?_⟩
        · simp [hw, had, hact]
        · simp [hw] at hq
  · simp only [List.map_append, List.map_cons, List.map_nil]
    rw [List.nodup_append]
    refine ⟨h.nodup, by simp, fun a ha b hb' => ?_⟩
    obtain rfl : b = e.tx := by simpa using hb'
    obtain ⟨s, hs, rfl⟩ := List.mem_map.1 ha
    exact newid s hs
  · rcases hset k2 t2 hk2 with ⟨rfl, rfl⟩ | ⟨_, hk3⟩
    · simp only at hl2 hee
      rw [h2] at hl2
      injection hl2 with hl2
      subst hl2
      omega
    · exact h.fresh k2 t2 l2 hk3 hl2 hee
  · rcases hset k2 t2 hk2 with ⟨rfl, rfl⟩ | ⟨_, hk3⟩
    · simp at hee
    · exact h.idle k2 t2 hk3 hee
  · rcases List.mem_append.1 hx' with hx' | hx'
    · exact h.good x hx'
    · obtain rfl : x = e := by simpa using hx'
      exact hg
end Go.Proofs.YtgfmlaflochffaaGreatDoor

namespace Go.Proofs.YtgfmlaflochffaaGreatDoor
open Go.RowKit W

theorem idLive {d : Wd} (hok : WdOk d) {k : Nat} {t : Th} {l : List (List PAct)} (hl : d.live k = some (t, l)) : idOf (k : Int) t.tx = 3 * (k : Int) + t.tx + 1 ∧ 1 ≤ idOf (k : Int) t.tx ∧ idOf (k : Int) t.tx ≤ 12 ∧ (k : Int) < 4 := by
  obtain ⟨_, h1, h2, hne⟩ := live_at hl
  simp only [Int.toNat_natCast] at h1 h2
  have ht := hok.th _ _ _ h1 h2
  have h3 := (thrOk_parts ((pgOk_parts hok.ok).2.2.2.2.2 l (List.mem_of_getElem? h2))).1
  have h4 := (pgOk_parts hok.ok).2.2.2.1
  have h5 := (List.getElem?_eq_some_iff.1 h2).1
  have h6 := ht.t0
  have h7 := ht.t1
  have e : idOf (k : Int) t.tx = 3 * (k : Int) + t.tx + 1 := by unfold idOf; rw [if_neg (by omega)]
  exact ⟨e, by omega, by omega, by omega⟩
theorem goodB {nc : Nat} {i x : Int} (h0 : 0 ≤ i) (h1 : i < 4) (hx : 1 ≤ x) (hx2 : x ≤ 12) : EvGood nc { evB i with tx := x } := by
  refine ⟨⟨⟨by simp [evB], by simp [evB], by simp [evB], by simp [evB]⟩, ?_, by simp [Ev.strip, Ev.fl, flds, evB, Ev.put, Ev.zero]⟩, by simp [evB]⟩
  intro f hf
  simp only [Ev.fl, flds, evB] at hf
  simp at hf
  rcases hf with rfl | rfl
  · simp [Ev.In, Fld.lo, Fld.hi, Ev.get]; omega
  · simp [Ev.In, Fld.lo, Fld.hi, Ev.get, evB]; omega
theorem goodK {nc : Nat} {k x : Int} (hk : k = 4 ∨ k = 5 ∨ k = 6 ∨ k = 7) (hx : 1 ≤ x) (hx2 : x ≤ 12) : EvGood nc { evK k with tx := x } := by
  have hf : ∀ (e : Ev), e.fl = [.T] → e.tx = x → ∀ f ∈ e.fl, e.In f := by
    intro e he hxe f hf
    rw [he] at hf
    obtain rfl : f = .T := by simpa using hf
    simp [Ev.In, Fld.lo, Fld.hi, Ev.get, hxe]
    omega
  rcases hk with rfl | rfl | rfl | rfl
  · have e : ({ evK 4 with tx := x } : Ev).fl = [.T] := by simp [Ev.fl, flds, evK]
    exact ⟨⟨⟨by simp [evK], by simp [evK], by simp [evK], by simp [evK]⟩, hf _ e rfl, by rw [Ev.strip, e]; simp [evK, Ev.put, Ev.zero]⟩, by simp [evK]⟩
  · have e : ({ evK 5 with tx := x } : Ev).fl = [.T] := by simp [Ev.fl, flds, evK]
    exact ⟨⟨⟨by simp [evK], by simp [evK], by simp [evK], by simp [evK]⟩, hf _ e rfl, by rw [Ev.strip, e]; simp [evK, Ev.put, Ev.zero]⟩, by simp [evK]⟩
  · have e : ({ evK 6 with tx := x } : Ev).fl = [.T] := by simp [Ev.fl, flds, evK]
    exact ⟨⟨⟨by simp [evK], by simp [evK], by simp [evK], by simp [evK]⟩, hf _ e rfl, by rw [Ev.strip, e]; simp [evK, Ev.put, Ev.zero]⟩, by simp [evK]⟩
  · have e : ({ evK 7 with tx := x } : Ev).fl = [.T] := by simp [Ev.fl, flds, evK]
    exact ⟨⟨⟨by simp [evK], by simp [evK], by simp [evK], by simp [evK]⟩, hf _ e rfl, by rw [Ev.strip, e]; simp [evK, Ev.put, Ev.zero]⟩, by simp [evK]⟩
theorem goodR {nc : Nat} {c x : Int} (h0 : 0 ≤ c) (h1 : c < nc) (h4 : nc ≤ 4) (hx : 1 ≤ x) (hx2 : x ≤ 12) : EvGood nc { evR c with tx := x } := by
  have e : ({ evR c with tx := x } : Ev).fl = [.T, .O, .P] := by simp [Ev.fl, flds, evR, callFl, keyed, valued]
  refine ⟨⟨⟨by simp [evR], by simp [evR], by simp [evR], by simp [evR]⟩, ?_, by rw [Ev.strip, e]; simp [evR, Ev.put, Ev.zero]⟩, fun _ => ⟨by simpa [evR] using h0, by simpa [evR] using h1, by simp [evR]⟩⟩
  intro f hf
  rw [e] at hf
  simp at hf
  rcases hf with rfl | rfl | rfl
  · simp [Ev.In, Fld.lo, Fld.hi, Ev.get]; omega
  · simp [Ev.In, Fld.lo, Fld.hi, Ev.get, evR]; omega
  · simp [Ev.In, Fld.lo, Fld.hi, Ev.get, evR]
theorem goodW {nc : Nat} {c v x : Int} (h0 : 0 ≤ c) (h1 : c < nc) (h4 : nc ≤ 4) (hv : wthn v) (hx : 1 ≤ x) (hx2 : x ≤ 12) : EvGood nc { evW c v with tx := x } := by
  have e : ({ evW c v with tx := x } : Ev).fl = [.T, .O, .P, .V] := by simp [Ev.fl, flds, evW, callFl, keyed, valued]
  obtain ⟨v0, v1⟩ := hv
  refine ⟨⟨⟨by simp [evW], by simp [evW], by simp [evW], by simp [evW]⟩, ?_, by rw [Ev.strip, e]; simp [evW, Ev.put, Ev.zero]⟩, fun _ => ⟨by simpa [evW] using h0, by simpa [evW] using h1, by simp [evW]⟩⟩
  intro f hf
  rw [e] at hf
  simp at hf
  rcases hf with rfl | rfl | rfl | rfl
  · simp [Ev.In, Fld.lo, Fld.hi, Ev.get]; omega
  · simp [Ev.In, Fld.lo, Fld.hi, Ev.get, evW]; omega
  · simp [Ev.In, Fld.lo, Fld.hi, Ev.get, evW]
  · simp [Ev.In, Fld.lo, Fld.hi, Ev.get, evW]; omega
theorem goodA {nc : Nat} {v r x : Int} (hr : r = 1 ∧ v = 0 ∨ r = 3 ∧ wthn v) (hx : 1 ≤ x) (hx2 : x ≤ 12) : EvGood nc { evA v r with tx := x } := by
  rcases hr with ⟨rfl, rfl⟩ | ⟨rfl, hv⟩
  · have e : ({ evA 0 1 with tx := x } : Ev).fl = [.T, .R] := by simp [Ev.fl, flds, evA, retFl]
    refine ⟨⟨⟨by simp [evA], by simp [evA], by simp [evA], by simp [evA]⟩, ?_, by rw [Ev.strip, e]; simp [evA, Ev.put, Ev.zero]⟩, by simp [evA]⟩
    intro f hf
    rw [e] at hf
    simp at hf
    rcases hf with rfl | rfl
    · simp [Ev.In, Fld.lo, Fld.hi, Ev.get]; omega
    · simp [Ev.In, Fld.lo, Fld.hi, Ev.get, evA]
  · have e : ({ evA v 3 with tx := x } : Ev).fl = [.T, .R, .V] := by simp [Ev.fl, flds, evA, retFl]
    obtain ⟨v0, v1⟩ := hv
    refine ⟨⟨⟨by simp [evA], by simp [evA], by simp [evA], by simp [evA]⟩, ?_, by rw [Ev.strip, e]; simp [evA, Ev.put, Ev.zero]⟩, by simp [evA]⟩
    intro f hf
    rw [e] at hf
    simp at hf
    rcases hf with rfl | rfl | rfl
    · simp [Ev.In, Fld.lo, Fld.hi, Ev.get]; omega
    · simp [Ev.In, Fld.lo, Fld.hi, Ev.get, evA]
    · simp [Ev.In, Fld.lo, Fld.hi, Ev.get, evA]; omega
/-- What a step of a walk is to the automaton. -/
def Taken (d d' : Wd) (A : Au) : Prop := d' = d ∨ ∃ e A', d'.es = d.es ++ [e] ∧ FStep A e A' ∧ Inv d' A'
theorem actBnd {d : Wd} (hok : WdOk d) {k : Nat} {t : Th} {l : List (List PAct)} (hl : d.live k = some (t, l)) {a : PAct} (ha : (actsOf t l)[t.act.toNat]? = some a) : 1 ≤ a.kind ∧ a.kind ≤ 4 ∧ (a.kind ≠ 4 → 0 ≤ a.cell ∧ a.cell < d.p.cells.length ∧ -1000 ≤ a.val ∧ a.val ≤ 1000) := by
  obtain ⟨_, h1, h2, hne⟩ := live_at hl
  simp only [Int.toNat_natCast] at h1 h2
  have ht := hok.th _ _ _ h1 h2
  have hth := (pgOk_parts hok.ok).2.2.2.2.2 l (List.mem_of_getElem? h2)
  have hlt : t.tx.toNat < l.length := by have := ht.t0; have := ht.t1; omega
  have hacts : l[t.tx.toNat]? = some (actsOf t l) := by unfold actsOf; rw [List.getElem?_eq_getElem hlt]; rfl
  obtain ⟨_, _, hao⟩ := txOk_parts ((thrOk_parts hth).2 _ (List.mem_of_getElem? hacts))
  obtain ⟨lb, hlb⟩ := acts_mem _ _ hao a (List.mem_of_getElem? ha)
  have hk := actOk_kind hlb
  refine ⟨hk.1, hk.2, fun h4 => ?_⟩
  unfold actOk at hlb
  rw [if_neg (by unfold numsOf; rcases (show a.kind = 1 ∨ a.kind = 2 ∨ a.kind = 3 by omega) with h | h | h <;> simp [h])] at hlb
  simp at hlb
  omega
theorem cnt_same {t t' : Th} (h : t'.tx = t.tx) (hb : t'.begun = t.begun) : cntT t' = cntT t := by unfold cntT; rw [h, hb]
theorem Inv.next {d : Wd} {A : Au} (h : Inv d A) (hok : WdOk d) (i : Int) : Taken d (d.next i).2 A := by
  unfold Wd.next
  cases hl : d.live i with
  | none => exact .inl rfl
  | some tl =>
    obtain ⟨t, l⟩ := tl
    obtain ⟨hi, h1, h2, hne⟩ := live_at hl
    obtain ⟨k, rfl⟩ : ∃ k : Nat, i = (k : Int) := ⟨i.toNat, by omega⟩
    simp only [Int.toNat_natCast] at h1 h2 ⊢
    obtain ⟨e1, e2, e3, e4⟩ := idLive hok hl
    have ht := hok.th _ _ _ h1 h2
    by_cases hw : t.waits ≠ 0
    · rw [if_pos hw]; exact .inl rfl
    · rw [if_neg hw]
      have hw0 : t.waits = 0 := by omega
      by_cases hb : t.begun = false
      · rw [if_pos hb]
        obtain ⟨q1, q2⟩ := h.starts hok hl hb hw0 (e := { evB k with tx := idOf (k : Int) t.tx }) rfl rfl (by simp only; omega) (goodB (by omega) e4 e2 e3)
        exact .inr ⟨_, _, rfl, q1, q2⟩
      · rw [if_neg hb]
        have hb1 : t.begun = true := by simpa using hb
        obtain ⟨j, s, hj, hthr, hid, hst, hfin, hcur, hu⟩ := h.cur hok hl hb1
        have hs1 : s.stand = 1 := by rw [hst]; unfold stOf; rw [if_pos hw0]
        have hsid : s.id = idOf (k : Int) t.tx := by omega
        have hnf : t.tx = l.length → t.begun = false := fun e => absurd e hne
        obtain ⟨c1, _⟩ := hcur
        rw [hw0] at c1
        simp at c1
        cases ha : (actsOf t l)[t.act.toNat]? with
        | none =>
          have e : nextEv t (actsOf t l) = evK 4 := by unfold nextEv; rw [ha]
          rw [e]
          refine .inr ⟨{ evK 4 with tx := idOf (k : Int) t.tx }, A.upd j { s with stand := 3, tri := A.many, status := 2 }, rfl, .asks rfl hj hsid hs1, ?_⟩
          exact h.turn hok (t' := { t with waits := 4 }) (s' := { s with stand := 3, tri := A.many, status := 2 }) hl hj hthr hid hu rfl rfl (cnt_same rfl rfl) ht.t0 (Int.le_refl _) hnf (fun e => by rw [hb1] at e; cases e) (goodK (.inl rfl) e2 e3) (.inr ⟨rfl, hb1, by simp [stOf], hfin, by simp only; simp; omega, fun e => by simp at e⟩)
        | some a =>
          by_cases h4 : a.kind = 4
          · have e : nextEv t (actsOf t l) = evK 7 := by unfold nextEv; rw [ha]; simp [h4]
            rw [e]
            refine .inr ⟨{ evK 7 with tx := idOf (k : Int) t.tx }, A.upd j { s with stand := 4 }, rfl, .cancel rfl hj hsid hs1, ?_⟩
            exact h.turn hok (t' := { t with waits := 7 }) (s' := { s with stand := 4 }) hl hj hthr hid hu rfl rfl (cnt_same rfl rfl) ht.t0 (Int.le_refl _) hnf (fun e => by rw [hb1] at e; cases e) (goodK (.inr (.inr (.inr rfl))) e2 e3) (.inr ⟨rfl, hb1, by simp [stOf], hfin, by simp only; simp; omega, fun e => by simp at e⟩)
          · have e : nextEv t (actsOf t l) = askEv t a := by unfold nextEv; rw [ha]; simp [h4]
            obtain ⟨b1, b2, b3⟩ := actBnd hok hl ha
            obtain ⟨b4, b5, b6, b7⟩ := b3 h4
            have hnc := (pgOk_parts hok.ok).2.1
            have hev : (askEv t a).kind = 2 ∧ (askEv t a).op = opOf t a ∧ EvGood d.p.cells.length { askEv t a with tx := idOf (k : Int) t.tx } := by
              unfold askEv opOf
              by_cases k1 : a.kind = 1
              · have hna : ¬ t.adding = true := fun e => by
                  obtain ⟨a', q1, q2, _⟩ := ht.a3 e
                  rw [ha] at q1
                  injection q1 with q1
                  subst q1
                  omega
                rw [if_pos k1, if_neg (fun q => q.elim (fun q => by omega) hna)]
                exact ⟨rfl, rfl, goodR b4 b5 hnc e2 e3⟩
              · rw [if_neg k1]
                by_cases k2 : a.kind = 2
                · rw [if_pos k2, if_pos (.inl k2)]
                  exact ⟨rfl, rfl, goodW b4 b5 hnc (by unfold wthn; omega) e2 e3⟩
                · rw [if_neg k2]
                  by_cases k3 : t.adding = true
                  · rw [if_pos k3, if_pos (.inr k3)]
                    obtain ⟨a', q1, _, q3⟩ := ht.a3 k3
                    rw [ha] at q1
                    injection q1 with q1
                    subst q1
                    exact ⟨rfl, rfl, goodW b4 b5 hnc q3 e2 e3⟩
                  · rw [if_neg k3, if_neg (fun q => q.elim k2 k3)]
                    exact ⟨rfl, rfl, goodR b4 b5 hnc e2 e3⟩
            obtain ⟨k1, k2, k3⟩ := hev
            rw [e, k1]
            refine .inr ⟨{ askEv t a with tx := idOf (k : Int) t.tx }, A.upd j { s with stand := 2, deeds := s.deeds ++ [⟨(askEv t a).obj, (askEv t a).op, (askEv t a).key, (askEv t a).val, 0, 0, A.many, -1⟩] }, rfl, .call k1 hj hsid hs1, ?_⟩
            exact h.turn hok (t' := { t with waits := 2 }) (s' := { s with stand := 2, deeds := s.deeds ++ [⟨(askEv t a).obj, (askEv t a).op, (askEv t a).key, (askEv t a).val, 0, 0, A.many, -1⟩] }) hl hj hthr hid hu rfl rfl (cnt_same rfl rfl) ht.t0 (Int.le_refl _) hnf (fun e => by rw [hb1] at e; cases e) k3
              (.inr ⟨rfl, hb1, by simp [stOf], hfin, by simp only [List.length_append, List.length_singleton]; simp; omega, fun _ => ⟨s.deeds, _, a, rfl, ha, k2⟩⟩)
theorem Inv.ends {d : Wd} {A : Au} (h : Inv d A) (hok : WdOk d) {k : Nat} {t : Th} {l : List (List PAct)} (hl : d.live k = some (t, l)) (hw : t.waits ≠ 0) {kind : Int} (hk : kind = 5 ∧ t.waits = 4 ∨ kind = 6) : Taken d (d.ends k t kind).2 A := by
  obtain ⟨_, h1, h2, hne⟩ := live_at hl
  simp only [Int.toNat_natCast] at h1 h2
  obtain ⟨e1, e2, e3, e4⟩ := idLive hok hl
  have ht := hok.th _ _ _ h1 h2
  obtain ⟨j, s, hj, hthr, hid, hst, hfin, hcur, hu⟩ := h.cur hok hl (ht.wb hw)
  have hsid : s.id = idOf (k : Int) t.tx := by omega
  have htx := ht.t0
  obtain ⟨c1, c2⟩ := hcur
  have hlen : s.deeds.length ≤ 2 * (actsOf t l).length := by
    have a1 := ht.a1
    have a0 := ht.a0
    by_cases hlt : t.act < (actsOf t l).length
    · have g1 : (if t.adding = true then (1 : Int) else 0) ≤ 1 := by split <;> omega
      have g2 : (if t.waits = 2 then (1 : Int) else 0) ≤ 1 := by split <;> omega
      omega
    · have na : ¬ t.adding = true := fun e => by
        obtain ⟨a, q, _⟩ := ht.a3 e
        have := (List.getElem?_eq_some_iff.1 q).1
        omega
      have nw : ¬ t.waits = 2 := fun e => by
        obtain ⟨a, q, _⟩ := ht.a2 e
        have := (List.getElem?_eq_some_iff.1 q).1
        omega
      rw [if_neg na, if_neg nw] at c1
      omega
  have hkk : kind = 5 ∧ s.stand = 3 ∨ kind = 6 ∧ (s.stand = 1 ∨ s.stand = 2 ∨ s.stand = 3 ∨ s.stand = 4) := by
    rcases hk with ⟨q1, q2⟩ | q
    · exact .inl ⟨q1, by rw [hst, q2]; rfl⟩
    · exact .inr ⟨q, by rw [hst]; exact stand_cases ht⟩
  refine .inr ⟨{ evK kind with tx := idOf (k : Int) t.tx }, A.upd j { s with stand := 5, fin := A.many, status := if kind = 5 then 3 else 4 }, rfl, .ends hkk hj hsid hu, ?_⟩
  have hct : cntT ⟨t.tx + 1, 0, false, false, 0, 0⟩ = cntT t := by unfold cntT; rw [ht.wb hw]; simp; omega
  exact h.turn hok (t' := ⟨t.tx + 1, 0, false, false, 0, 0⟩) (s' := { s with stand := 5, fin := A.many, status := if kind = 5 then 3 else 4 }) hl hj hthr hid hu rfl rfl hct (by simp only; omega) (by simp only; omega) (fun _ => rfl) (fun _ => ⟨rfl, rfl⟩) (goodK (by omega) e2 e3)
    (.inl ⟨by simp only; omega, rfl, by simp, hlen⟩)
theorem Inv.answer {d : Wd} {A : Au} (h : Inv d A) (hok : WdOk d) (i v : Int) (ab : Bool) : Taken d (d.answer i v ab).2 A := by
  unfold Wd.answer
  cases hl : d.live i with
  | none => exact .inl rfl
  | some tl =>
    obtain ⟨t, l⟩ := tl
    obtain ⟨hi, h1, h2, hne⟩ := live_at hl
    obtain ⟨k, rfl⟩ : ∃ k : Nat, i = (k : Int) := ⟨i.toNat, by omega⟩
    simp only [Int.toNat_natCast] at h1 h2 ⊢
    obtain ⟨e1, e2, e3, e4⟩ := idLive hok hl
    have ht := hok.th _ _ _ h1 h2
    by_cases hw : t.waits = 0
    · rw [if_pos hw]; exact .inl rfl
    · rw [if_neg hw]
      by_cases hab : ab = true
      · rw [if_pos hab]; exact h.ends hok hl hw (.inr rfl)
      · rw [if_neg hab]
        by_cases h4 : t.waits = 4
        · rw [if_pos h4]; exact h.ends hok hl hw (.inl ⟨rfl, h4⟩)
        · rw [if_neg h4]
          by_cases h7 : t.waits = 7
          · rw [if_pos h7]; exact .inl rfl
          · rw [if_neg h7]
            have hw2 : t.waits = 2 := by have := ht.w; omega
            have hb1 := ht.wb hw
            obtain ⟨a, ha, hk4⟩ := ht.a2 hw2
            obtain ⟨b1, b2, _⟩ := actBnd hok hl ha
            have hk3 : a.kind = 1 ∨ a.kind = 2 ∨ a.kind = 3 := by omega
            rw [ha]
            simp only
            obtain ⟨j, s, hj, hthr, hid, hst, hfin, hcur, hu⟩ := h.cur hok hl hb1
            have hs2 : s.stand = 2 := by rw [hst, hw2]; rfl
            have hsid : s.id = idOf (k : Int) t.tx := by omega
            have hnf : t.tx = l.length → t.begun = false := fun e => absurd e hne
            obtain ⟨c1, c2⟩ := hcur
            obtain ⟨dl, dd, a', hds, ha', hop⟩ := c2 hw2
            rw [ha] at ha'
            injection ha' with ha'
            subst ha'
            rw [if_pos hw2, hds] at c1
            simp only [List.length_append, List.length_singleton] at c1
            have go : ∀ (t' : Th) (v' r : Int), t'.tx = t.tx → t'.begun = t.begun → t'.waits = 0 → (r = 1 ∧ v' = 0 ∨ r = 3 ∧ wthn v') → fitsR dd.op r → ((dl.length + 1 : Nat) : Int) ≤ 2 * t'.act + (if t'.adding = true then 1 else 0) → Taken d (d.put k t.tx t' (evA v' r)).2 A := by
              intro t' v' r p1 p2 p3 p4 p5 p6
              refine .inr ⟨{ evA v' r with tx := idOf (k : Int) t.tx }, A.upd j { s with stand := 1, deeds := dl ++ [{ dd with ret := r, got := v', back := A.many }] }, rfl, .ret rfl hj hsid hs2 hds p5, ?_⟩
              exact h.turn hok (t' := t') (s' := { s with stand := 1, deeds := dl ++ [{ dd with ret := r, got := v', back := A.many }] }) hl hj hthr hid hu rfl rfl (cnt_same p1 p2) (by rw [p1]; exact ht.t0) (by rw [p1]; exact Int.le_refl _) (fun e => by rw [p1] at e; exact absurd e hne) (fun e => by rw [p2, hb1] at e; cases e) (goodA p4 e2 e3)
                (.inr ⟨p1.symm, p2.trans hb1, by rw [p3]; rfl, hfin, by simp only [List.length_append, List.length_singleton]; rw [p3]; simp; simpa using p6, fun e => by rw [p3] at e; cases e⟩)
            unfold ansTo
            by_cases hr : t.reads a
            · rw [if_pos hr]
              have hop1 : dd.op = 1 := by
                rw [hop]
                unfold opOf
                rw [if_neg]
                rintro (q | q)
                · rcases hr with r1 | ⟨r1, _⟩
                  · rw [q] at r1; exact absurd r1 (by decide)
                  · rw [q] at r1; exact absurd r1 (by decide)
                · rcases hr with r1 | ⟨_, r1⟩
                  · obtain ⟨a', q1, q2, _⟩ := ht.a3 q
                    rw [ha] at q1
                    injection q1 with q1
                    subst q1
                    rw [r1] at q2
                    exact absurd q2 (by decide)
                  · rw [q] at r1; cases r1
              have hna : ¬ t.adding = true := by
                intro q
                rcases hr with r1 | ⟨_, r1⟩
                · obtain ⟨a', q1, q2, _⟩ := ht.a3 q
                  rw [ha] at q1
                  injection q1 with q1
                  subst q1
                  rw [r1] at q2
                  exact absurd q2 (by decide)
                · rw [q] at r1; cases r1
              rw [if_neg hna] at c1
              by_cases hb : ¬ wthn v ∨ a.kind = 3 ∧ ¬ wthn (v + a.val)
              · rw [if_pos hb]; exact .inl rfl
              · rw [if_neg hb]
                have hv : wthn v := Decidable.byContradiction fun e => hb (.inl e)
                by_cases h3 : a.kind = 3
                · rw [if_pos h3]
                  exact go _ v 3 rfl rfl rfl (.inr ⟨rfl, hv⟩) (.inr ⟨hop1, rfl⟩) (by simp; omega)
                · rw [if_neg h3]
                  exact go _ v 3 rfl rfl rfl (.inr ⟨rfl, hv⟩) (.inr ⟨hop1, rfl⟩) (by simp only; split <;> omega)
            · rw [if_neg hr]
              have hop2 : dd.op = 2 := by
                rw [hop]
                unfold opOf
                rw [if_pos]
                unfold Th.reads at hr
                by_cases q : t.adding = true
                · exact .inr q
                · refine .inl ?_
                  have q2 : t.adding = false := by simpa using q
                  rcases hk3 with e | e | e
                  · exact absurd (.inl e) hr
                  · exact e
                  · exact absurd (.inr ⟨e, q2⟩) hr
              have g1 : (if t.adding = true then (1 : Int) else 0) ≤ 1 := by split <;> omega
              exact go _ 0 1 rfl rfl rfl (.inl ⟨rfl, rfl⟩) (.inl ⟨hop2, rfl⟩) (by simp; omega)
end Go.Proofs.YtgfmlaflochffaaGreatDoor
