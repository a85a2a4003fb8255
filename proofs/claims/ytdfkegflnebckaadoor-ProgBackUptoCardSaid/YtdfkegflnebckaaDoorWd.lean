/-
  A walk through a program, as plain data: what a thread does next, what an answer does to it.
-/
import Derived.Test.YtdfkegflnebckaaDoorPMem
import Derived.Test.YtdfkegflnebckaaDoorEvA
namespace Go.Proofs.YtdfkegflnebckaaDoor
open Go.RowKit W

/-- How far a thread is. -/
structure Th where
  tx : Int
  act : Int
  begun : Bool
  adding : Bool
  read : Int
  waits : Int
/-- A program, its threads, the events up to now. -/
structure Wd where
  p : Pg
  ts : List Th
  es : List Ev
def Th.new : Th := ⟨0, 0, false, false, 0, 0⟩
def wthn (n : Int) : Prop := -1000000000 ≤ n ∧ n ≤ 1000000000
/-- A thread that has something to do, and its transactions. -/
def Wd.live (d : Wd) (i : Int) : Option (Th × List (List PAct)) :=
  if i < 0 then none else match d.ts[i.toNat]?, d.p.threads[i.toNat]? with
    | some t, some l => if t.tx = l.length then none else some (t, l)
    | _, _ => none
/-- What happens to a thread: where it then is, the event. -/
def Wd.put (d : Wd) (k : Nat) (n : Int) (t : Th) (e : Ev) : (Ev × Bool) × Wd := (({ e with tx := idOf k n }, true), ⟨d.p, d.ts.set k t, d.es ++ [{ e with tx := idOf k n }]⟩)
def evB (i : Int) : Ev := ⟨1, 0, i, 0, 0, 0, 0, 0⟩
def evK (k : Int) : Ev := ⟨k, 0, 0, 0, 0, 0, 0, 0⟩
def evR (c : Int) : Ev := ⟨2, 0, 0, c, 1, 0, 0, 0⟩
def evW (c v : Int) : Ev := ⟨2, 0, 0, c, 2, 0, v, 0⟩
def evA (v r : Int) : Ev := ⟨3, 0, 0, 0, 0, 0, v, r⟩
/-- What an act asks for. -/
def askEv (t : Th) (a : PAct) : Ev := if a.kind = 1 then evR a.cell else if a.kind = 2 then evW a.cell a.val else if t.adding = true then evW a.cell (a.val + t.read) else evR a.cell
def nextEv (t : Th) (l : List PAct) : Ev := match l[t.act.toNat]? with
  | none => evK 4
  | some a => if a.kind = 4 then evK 7 else askEv t a
def actsOf (t : Th) (l : List (List PAct)) : List PAct := l[t.tx.toNat]?.getD []
def Wd.next (d : Wd) (i : Int) : (Ev × Bool) × Wd := match d.live i with
  | none => ((Ev.zero, false), d)
  | some (t, l) => if t.waits ≠ 0 then ((Ev.zero, false), d)
    else if t.begun = false then d.put i.toNat t.tx { t with begun := true } (evB i)
    else d.put i.toNat t.tx { t with waits := (nextEv t (actsOf t l)).kind } (nextEv t (actsOf t l))
/-- The end of a thread's transaction. -/
def Wd.ends (d : Wd) (k : Nat) (t : Th) (kind : Int) : (Ev × Bool) × Wd := d.put k t.tx ⟨t.tx + 1, 0, false, false, 0, 0⟩ (evK kind)
def Th.reads (t : Th) (a : PAct) : Prop := a.kind = 1 ∨ a.kind = 3 ∧ t.adding = false
instance (t : Th) (a : PAct) : Decidable (t.reads a) := by unfold Th.reads; infer_instance
instance (n : Int) : Decidable (wthn n) := by unfold wthn; infer_instance
def ansTo (d : Wd) (k : Nat) (t : Th) (a : PAct) (v : Int) : (Ev × Bool) × Wd :=
  if t.reads a then
    if ¬ wthn v ∨ a.kind = 3 ∧ ¬ wthn (v + a.val) then ((Ev.zero, false), d)
    else if a.kind = 3 then d.put k t.tx { t with waits := 0, adding := true, read := v } (evA v 3)
    else d.put k t.tx { t with waits := 0, act := t.act + 1 } (evA v 3)
  else d.put k t.tx { t with waits := 0, adding := false, act := t.act + 1 } (evA 0 1)
def Wd.answer (d : Wd) (i v : Int) (abort : Bool) : (Ev × Bool) × Wd := match d.live i with
  | none => ((Ev.zero, false), d)
  | some (t, l) => if t.waits = 0 then ((Ev.zero, false), d)
    else if abort = true then d.ends i.toNat t 6
    else if t.waits = 4 then d.ends i.toNat t 5
    else if t.waits = 7 then ((Ev.zero, false), d)
    else match (actsOf t l)[t.act.toNat]? with
      | none => ((Ev.zero, false), d)
      | some a => ansTo d i.toNat t a v

/-- Where a thread may be. -/
structure ThOk (t : Th) (l : List (List PAct)) : Prop where
  t0 : 0 ≤ t.tx
  t1 : t.tx ≤ l.length
  a0 : 0 ≤ t.act
  w : t.waits = 0 ∨ t.waits = 2 ∨ t.waits = 4 ∨ t.waits = 7
  wb : t.waits ≠ 0 → t.begun = true
  r : wthn t.read
  a1 : t.act ≤ (actsOf t l).length
  a2 : t.waits = 2 → ∃ a, (actsOf t l)[t.act.toNat]? = some a ∧ a.kind ≠ 4
  a3 : t.adding = true → ∃ a, (actsOf t l)[t.act.toNat]? = some a ∧ a.kind = 3 ∧ wthn (a.val + t.read)
structure WdOk (d : Wd) : Prop where
  ok : pgOk d.p = true
  len : d.ts.length = d.p.threads.length
  th : ∀ (k : Nat) t l, d.ts[k]? = some t → d.p.threads[k]? = some l → ThOk t l
theorem live_at {d : Wd} {i : Int} {t : Th} {l : List (List PAct)} (h : d.live i = some (t, l)) : 0 ≤ i ∧ d.ts[i.toNat]? = some t ∧ d.p.threads[i.toNat]? = some l ∧ t.tx ≠ l.length := by
  unfold Wd.live at h
  by_cases hi : i < 0
  · rw [if_pos hi] at h; cases h
  · rw [if_neg hi] at h
    split at h
    · rename_i t' l' h1 h2
      by_cases he : t'.tx = l'.length
      · rw [if_pos he] at h; cases h
      · rw [if_neg he] at h
        injection h with h
        injection h with e1 e2
        subst e1 e2
        exact ⟨by omega, h1, h2, he⟩
    · cases h
theorem ThOk.ended {t : Th} {l : List (List PAct)} (h : ThOk t l) (hne : t.tx ≠ l.length) : ThOk ⟨t.tx + 1, 0, false, false, 0, 0⟩ l :=
  ⟨by have := h.t0; simp only; omega, by have := h.t1; simp only; omega, by simp, .inl rfl, fun e => absurd rfl e, by simp [wthn], by simp, fun e => by simp at e, fun e => by simp at e⟩
theorem WdOk.set {d : Wd} (h : WdOk d) {k : Nat} {t' : Th} {es : List Ev} (ht : ∀ l, d.p.threads[k]? = some l → ThOk t' l) : WdOk ⟨d.p, d.ts.set k t', es⟩ := by
  refine ⟨h.ok, by simpa using h.len, fun j t l hj hl => ?_⟩
  by_cases hjk : j = k
  · subst hjk
    have hlt : j < d.ts.length := by
      have := (List.getElem?_eq_some_iff.1 hl).1
      have e := h.len
      simp only at this
      omega
    simp only at hj
    rw [List.getElem?_set_self hlt] at hj
    injection hj with hj
    subst hj
    exact ht l hl
  · simp only at hj
    rw [List.getElem?_set_ne (fun e => hjk e.symm)] at hj
    exact h.th j t l hj hl
theorem WdOk.put {d : Wd} (h : WdOk d) {k : Nat} {n : Int} {t' : Th} {e : Ev} (ht : ∀ l, d.p.threads[k]? = some l → ThOk t' l) : WdOk (d.put k n t' e).2 := h.set ht
theorem WdOk.next {d : Wd} (h : WdOk d) (i : Int) : WdOk (d.next i).2 := by
  unfold Wd.next
  split
  · exact h
  · rename_i t l hl
    obtain ⟨hi, h1, h2, hne⟩ := live_at hl
    have ht := h.th _ _ _ h1 h2
    by_cases hw : t.waits ≠ 0
    · rw [if_pos hw]; exact h
    · rw [if_neg hw]
      have hw0 : t.waits = 0 := by omega
      by_cases hb : t.begun = false
      · rw [if_pos hb]
        refine h.put fun l' hl' => ?_
        rw [h2] at hl'
        injection hl' with hl'
        subst hl'
        exact ⟨ht.t0, ht.t1, ht.a0, ht.w, fun _ => rfl, ht.r, ht.a1, ht.a2, ht.a3⟩
      · rw [if_neg hb]
        refine h.put fun l' hl' => ?_
        rw [h2] at hl'
        injection hl' with hl'
        subst hl'
        refine ⟨ht.t0, ht.t1, ht.a0, ?_, fun _ => by simpa using hb, ht.r, ht.a1, ?_, ht.a3⟩
        · simp only
          unfold nextEv
          split
          · exact .inr (.inr (.inl rfl))
          · by_cases h4 : (‹PAct›).kind = 4
            · rw [if_pos h4]; exact .inr (.inr (.inr rfl))
            · rw [if_neg h4]
              refine .inr (.inl ?_)
              unfold askEv
              split
              · rfl
              · split
                · rfl
                · split <;> rfl
        · simp only
          intro hk
          show ∃ a, (actsOf t l)[t.act.toNat]? = some a ∧ a.kind ≠ 4
          unfold nextEv at hk
          split at hk
          · simp [evK] at hk
          · rename_i a ha
            by_cases h4 : a.kind = 4
            · rw [if_pos h4] at hk; simp [evK] at hk
            · exact ⟨a, ha, h4⟩
theorem WdOk.ends {d : Wd} (h : WdOk d) {i : Int} {t : Th} {l : List (List PAct)} (hl : d.live i = some (t, l)) (kind : Int) : WdOk (d.ends i.toNat t kind).2 := by
  obtain ⟨hi, h1, h2, hne⟩ := live_at hl
  refine h.put fun l' hl' => ?_
  rw [h2] at hl'
  injection hl' with hl'
  subst hl'
  exact (h.th _ _ _ h1 h2).ended hne
theorem WdOk.answer {d : Wd} (h : WdOk d) (i v : Int) (abort : Bool) : WdOk (d.answer i v abort).2 := by
  unfold Wd.answer
  split
  · exact h
  · rename_i t l hl
    have hE := fun k => h.ends hl k
    obtain ⟨hi, h1, h2, hne⟩ := live_at hl
    have ht := h.th _ _ _ h1 h2
    by_cases hw : t.waits = 0
    · rw [if_pos hw]; exact h
    · rw [if_neg hw]
      by_cases hab : abort = true
      · rw [if_pos hab]; exact hE 6
      · rw [if_neg hab]
        by_cases h4 : t.waits = 4
        · rw [if_pos h4]; exact hE 5
        · rw [if_neg h4]
          by_cases h7 : t.waits = 7
          · rw [if_pos h7]; exact h
          · rw [if_neg h7]
            split
            · exact h
            · rename_i a ha
              have hlt := (List.getElem?_eq_some_iff.1 ha).1
              have ha0 := ht.a0
              have hact : ∀ act', t.act + 1 = act' → act' ≤ (actsOf t l).length := by intro act' e; omega
              unfold ansTo
              by_cases hr : t.reads a
              · rw [if_pos hr]
                by_cases hb : ¬ wthn v ∨ a.kind = 3 ∧ ¬ wthn (v + a.val)
                · rw [if_pos hb]; exact h
                · rw [if_neg hb]
                  have hv : wthn v := Decidable.byContradiction fun e => hb (.inl e)
                  by_cases h3 : a.kind = 3
                  · rw [if_pos h3]
                    have hva : wthn (v + a.val) := Decidable.byContradiction fun e => hb (.inr ⟨h3, e⟩)
                    refine h.put fun l' hl' => ?_
                    rw [h2] at hl'
                    injection hl' with hl'
                    subst hl'
                    exact ⟨ht.t0, ht.t1, ht.a0, .inl rfl, fun e => absurd rfl e, hv, ht.a1, fun e => by simp at e, fun _ => ⟨a, ha, h3, by unfold wthn at hva ⊢; simp only; omega⟩⟩
                  · rw [if_neg h3]
                    have hna : t.adding = false := by
                      cases hx : t.adding with
                      | false => rfl
                      | true =>
                        obtain ⟨a', ha', h3', _⟩ := ht.a3 hx
                        rw [ha] at ha'
                        injection ha' with ha'
                        subst ha'
                        exact absurd h3' h3
                    refine h.put fun l' hl' => ?_
                    rw [h2] at hl'
                    injection hl' with hl'
                    subst hl'
                    exact ⟨ht.t0, ht.t1, by simp only; omega, .inl rfl, fun e => absurd rfl e, ht.r, by simp only [actsOf]; exact hact _ rfl, fun e => by simp at e, fun e => by simp [hna] at e⟩
              · rw [if_neg hr]
                refine h.put fun l' hl' => ?_
                rw [h2] at hl'
                injection hl' with hl'
                subst hl'
                exact ⟨ht.t0, ht.t1, by simp only; omega, .inl rfl, fun e => absurd rfl e, ht.r, by simp only [actsOf]; exact hact _ rfl, fun e => by simp at e, fun e => by simp at e⟩
def Wd.start (p : Pg) : Wd := ⟨p, p.threads.map fun _ => Th.new, []⟩
theorem WdOk.start {p : Pg} (h : pgOk p = true) : WdOk (Wd.start p) := by
  refine ⟨h, by simp [Wd.start], fun k t l hk hl => ?_⟩
  simp only [Wd.start, List.getElem?_map] at hk
  obtain ⟨x, _, rfl⟩ := Option.map_eq_some_iff.1 hk
  exact ⟨by simp [Th.new], by simp [Th.new], by simp [Th.new], .inl rfl, fun e => absurd rfl e, by simp [wthn, Th.new], by simp [Th.new], fun e => by simp [Th.new] at e, fun e => by simp [Th.new] at e⟩
end Go.Proofs.YtdfkegflnebckaaDoor
