/-
  Programs in memory: what a value of api.Program reads as; prog.numbers, prog.valid, ID, Place.
-/
import Derived.Test.YtdfkegflnebckaaDoorPg
import Derived.Test.YtdfkegflnebckaaDoorFirst
import Derived.Test.YtdfkegflnebckaaDoorApp
import Derived.WalkLawsBesides
namespace Go.Proofs.YtdfkegflnebckaaDoor
open Go.RowKit Go.Maps W

def ints (l : List Int) : List Value := l.map (Value.int .i64)
theorem ints_len (l : List Int) : (ints l).length = l.length := by simp [ints]
def actArr (a : PAct) : Array Value := #[.int .i64 a.kind, .int .i64 a.cell, .int .i64 a.val]
/-- A slice of acts. -/
def ReadsA (w : World) (v : Value) (l : List PAct) : Prop :=
  ∃ (A : Option Addr) (c b o : Nat), v = .slice A l.length c ∧ (A = none → l.length = 0 ∧ c = 0) ∧ (∀ a, A = some a → 0 < l.length → a = ⟨b, o, none⟩) ∧ l.length ≤ c ∧
    ∀ j a, l[j]? = some a → w.cell? ⟨b, o + j * 3, none⟩ = some (.int .i64 a.kind) ∧ w.cell? ⟨b, o + j * 3 + 1, none⟩ = some (.int .i64 a.cell) ∧ w.cell? ⟨b, o + j * 3 + 2, none⟩ = some (.int .i64 a.val)
/-- A slice whose elements read, each, as the list's. -/
def ReadsL {α : Type} (R : World → Value → α → Prop) (w : World) (v : Value) (l : List α) : Prop :=
  ∃ vs : List Value, Reads w v vs ∧ vs.length = l.length ∧ ∀ (j : Nat) u x, vs[j]? = some u → l[j]? = some x → R w u x
abbrev ReadsT := ReadsL ReadsA
abbrev ReadsH := ReadsL ReadsT
/-- A program. -/
def PgAt (w : World) (vc vt : Value) (p : Pg) : Prop := Reads w vc (ints p.cells) ∧ ReadsH w vt p.threads
theorem ReadsA.below {w w' : World} {v : Value} {l : List PAct} (h : ReadsA w v l) (hb : Below w.heap.size w w') : ReadsA w' v l := by
  obtain ⟨A, c, b, o, h1, h2, h3, h4, h5⟩ := h
  refine ⟨A, c, b, o, h1, h2, h3, h4, fun j a hj => ?_⟩
  obtain ⟨c0, c1, c2⟩ := h5 j a hj
  exact ⟨(hb.cell (p := ⟨b, o + j * 3, none⟩) (World.block_lt_of_cell? w _ c0)).trans c0, (hb.cell (p := ⟨b, o + j * 3 + 1, none⟩) (World.block_lt_of_cell? w _ c1)).trans c1, (hb.cell (p := ⟨b, o + j * 3 + 2, none⟩) (World.block_lt_of_cell? w _ c2)).trans c2⟩
theorem ReadsL.below {α : Type} {R : World → Value → α → Prop} (hR : ∀ {w w' v x}, R w v x → Below w.heap.size w w' → R w' v x) {w w' : World} {v : Value} {l : List α} (h : ReadsL R w v l) (hb : Below w.heap.size w w') : ReadsL R w' v l := by
  obtain ⟨vs, h1, h2, h3⟩ := h
  exact ⟨vs, h1.below hb (Nat.le_refl _), h2, fun j u x hu hx => hR (h3 j u x hu hx) hb⟩
theorem ReadsT.below {w w' : World} {v : Value} {l : List (List PAct)} (h : ReadsT w v l) (hb : Below w.heap.size w w') : ReadsT w' v l := ReadsL.below (R := ReadsA) (fun h hb => ReadsA.below h hb) h hb
theorem ReadsH.below {w w' : World} {v : Value} {l : List (List (List PAct))} (h : ReadsH w v l) (hb : Below w.heap.size w w') : ReadsH w' v l := ReadsL.below (R := ReadsT) (fun h hb => ReadsT.below h hb) h hb
theorem PgAt.below {w w' : World} {vc vt : Value} {p : Pg} (h : PgAt w vc vt p) (hb : Below w.heap.size w w') : PgAt w' vc vt p := ⟨h.1.below hb (Nat.le_refl _), ReadsH.below h.2 hb⟩
theorem ReadsA.shape {w : World} {v : Value} {l : List PAct} (h : ReadsA w v l) : ∃ A c, v = .slice A l.length c := by
  obtain ⟨A, c, _, _, h, _⟩ := h
  exact ⟨A, c, h⟩
theorem ReadsL.shape {α : Type} {R : World → Value → α → Prop} {w : World} {v : Value} {l : List α} (h : ReadsL R w v l) : ∃ A c, v = .slice A l.length c := by
  obtain ⟨vs, h1, h2, _⟩ := h
  obtain ⟨A, c, h⟩ := h1.shape
  exact ⟨A, c, by rw [h, h2]⟩
/-- The element at a place: where it lies, what it reads as. -/
theorem reads_at {w : World} {A : Option Addr} {n c : Nat} {xs : List Value} (h : Reads w (.slice A n c) xs) {j : Nat} {u : Value} (hj : xs[j]? = some u) : ∃ b o, A = some ⟨b, o, none⟩ ∧ w.cell? ⟨b, o + j, none⟩ = some u ∧ j < n ∧ n ≤ c := by
  obtain ⟨A1, c1, b, o, he, h2, h3, h4, h5⟩ := h
  injection he with e1 e2 e3
  subst e1 e3
  have hlt := (List.getElem?_eq_some_iff.1 hj).1
  cases A with
  | none => exact absurd (h2 rfl).1 (by omega)
  | some a =>
    obtain rfl := h3 a rfl (by omega)
    exact ⟨b, o, rfl, h5 j u hj, by omega, by omega⟩
theorem ReadsA.at {w : World} {A : Option Addr} {n c : Nat} {l : List PAct} (h : ReadsA w (.slice A n c) l) {j : Nat} {a : PAct} (hj : l[j]? = some a) :
    ∃ b o, A = some ⟨b, o, none⟩ ∧ w.cell? ⟨b, o + j * 3, none⟩ = some (.int .i64 a.kind) ∧ w.cell? ⟨b, o + j * 3 + 1, none⟩ = some (.int .i64 a.cell) ∧ w.cell? ⟨b, o + j * 3 + 2, none⟩ = some (.int .i64 a.val) ∧ j < n ∧ n ≤ c := by
  obtain ⟨A1, c1, b, o, he, h2, h3, h4, h5⟩ := h
  injection he with e1 e2 e3
  subst e1 e3
  have hlt := (List.getElem?_eq_some_iff.1 hj).1
  cases A with
  | none => exact absurd (h2 rfl).1 (by omega)
  | some q =>
    obtain rfl := h3 q rfl (by omega)
    obtain ⟨c0, c2, c3⟩ := h5 j a hj
    exact ⟨b, o, rfl, c0, c2, c3, by omega, by omega⟩
theorem ReadsL.at {α : Type} {R : World → Value → α → Prop} {w : World} {A : Option Addr} {n c : Nat} {l : List α} (h : ReadsL R w (.slice A n c) l) {j : Nat} {x : α} (hj : l[j]? = some x) :
    ∃ b o u, A = some ⟨b, o, none⟩ ∧ w.cell? ⟨b, o + j, none⟩ = some u ∧ R w u x ∧ j < n ∧ n ≤ c := by
  obtain ⟨vs, h1, h2, h3⟩ := h
  have hlt := (List.getElem?_eq_some_iff.1 hj).1
  have hu : vs[j]? = some vs[j] := List.getElem?_eq_getElem (by omega)
  obtain ⟨b, o, e, hc, k1, k2⟩ := reads_at h1 hu
  exact ⟨b, o, vs[j], e, hc, h3 j _ x hu hj, k1, k2⟩

set_option maxHeartbeats 1000000 in
theorem numsCall (k : Int) (w : World) : Calls Tryd.prog 19 #[.int .i64 k] w fun e w' => e = .returned (.int .i64 (numsOf k : Int)) ∧ w = w' := by
  by_cases h1 : k = 1
  · have e1 : (numsOf k : Int) = 1 := by unfold numsOf; rw [if_pos h1]; rfl
    have t1 : (k == 1) = true := by simpa using h1
    rw [e1]
    clear h1 e1
    go_enter Tryd.func19, Tryd.ntmps19
    go_wp2
    go_ret
    exact ⟨rfl, rfl⟩
  · have t1 : (k == 1) = false := by simpa using h1
    by_cases h2 : k = 2
    · have e1 : (numsOf k : Int) = 2 := by unfold numsOf; rw [if_neg h1, if_pos (.inl h2)]; rfl
      have t2 : (k == 2) = true := by simpa using h2
      rw [e1]
      clear h1 h2 e1
      go_enter Tryd.func19, Tryd.ntmps19
      go_wp2
      go_ret
      exact ⟨rfl, rfl⟩
    · have t2 : (k == 2) = false := by simpa using h2
      by_cases h3 : k = 3
      · have e1 : (numsOf k : Int) = 2 := by unfold numsOf; rw [if_neg h1, if_pos (.inr h3)]; rfl
        have t3 : (k == 3) = true := by simpa using h3
        rw [e1]
        clear h1 h2 h3 e1
        go_enter Tryd.func19, Tryd.ntmps19
        go_wp2
        go_ret
        exact ⟨rfl, rfl⟩
      · have e1 : (numsOf k : Int) = 0 := by unfold numsOf; rw [if_neg h1, if_neg (by omega)]; rfl
        have t3 : (k == 3) = false := by simpa using h3
        rw [e1]
        clear h1 h2 h3 e1
        go_enter Tryd.func19, Tryd.ntmps19
        go_wp2
        go_ret
        exact ⟨rfl, rfl⟩
theorem nums_cases (k : Int) : (numsOf k = 0 ∧ k ≠ 1 ∧ k ≠ 2 ∧ k ≠ 3) ∨ (numsOf k = 1 ∧ k = 1) ∨ (numsOf k = 2 ∧ (k = 2 ∨ k = 3)) := by
  unfold numsOf
  by_cases h1 : k = 1
  · rw [if_pos h1]; exact .inr (.inl ⟨rfl, h1⟩)
  · rw [if_neg h1]
    by_cases h2 : k = 2 ∨ k = 3
    · rw [if_pos h2]; exact .inr (.inr ⟨rfl, h2⟩)
    · rw [if_neg h2]; exact .inl ⟨rfl, h1, by omega, by omega⟩

/-- ID's number; 0: none. -/
def idOf (t i : Int) : Int := if t < 0 ∨ 4 ≤ t ∨ i < 0 ∨ 3 ≤ i then 0 else 3 * t + i + 1
set_option maxHeartbeats 1000000 in
theorem idCall (t i : Int) (w : World) : Calls Tryd.prog 10 #[.int .i64 t, .int .i64 i] w fun e w' => e = .returned (.int .i64 (idOf t i)) ∧ w = w' := by
  by_cases h1 : t < 0
  · have e1 : idOf t i = 0 := by unfold idOf; rw [if_pos (.inl h1)]
    have t1 : decide (t < 0) = true := by simpa using h1
    rw [e1]
    clear e1 h1
    go_enter Tryd.func10, Tryd.ntmps10
    go_wp2
    go_ret
    exact ⟨rfl, rfl⟩
  · have t1 : decide (t < 0) = false := by simpa using h1
    by_cases h2 : 4 ≤ t
    · have e1 : idOf t i = 0 := by unfold idOf; rw [if_pos (.inr (.inl h2))]
      have t2 : decide (4 ≤ t) = true := by simpa using h2
      rw [e1]
      clear e1 h1 h2
      go_enter Tryd.func10, Tryd.ntmps10
      go_wp2
      go_ret
      exact ⟨rfl, rfl⟩
    · have t2 : decide (4 ≤ t) = false := by simpa using h2
      by_cases h3 : i < 0
      · have e1 : idOf t i = 0 := by unfold idOf; rw [if_pos (.inr (.inr (.inl h3)))]
        have t3 : decide (i < 0) = true := by simpa using h3
        rw [e1]
        clear e1 h1 h2 h3
        go_enter Tryd.func10, Tryd.ntmps10
        go_wp2
        go_ret
        exact ⟨rfl, rfl⟩
      · have t3 : decide (i < 0) = false := by simpa using h3
        by_cases h4 : 3 ≤ i
        · have e1 : idOf t i = 0 := by unfold idOf; rw [if_pos (.inr (.inr (.inr h4)))]
          have t4 : decide (3 ≤ i) = true := by simpa using h4
          rw [e1]
          clear e1 h1 h2 h3 h4
          go_enter Tryd.func10, Tryd.ntmps10
          go_wp2
          go_ret
          exact ⟨rfl, rfl⟩
        · have e1 : idOf t i = 3 * t + i + 1 := by unfold idOf; rw [if_neg (by omega)]
          have t4 : decide (3 ≤ i) = false := by simpa using h4
          rw [e1]
          clear e1
          go_enter Tryd.func10, Tryd.ntmps10
          go_wp2
          go_ret
          exact ⟨rfl, rfl⟩
/-- Place's answer. -/
def placeIs (n : Int) (r : Value) : Prop := if n < 1 ∨ 12 < n then r = .tuple #[.int .i64 0, .int .i64 0, .bool false] else r = .tuple #[.int .i64 ((n - 1) / 3), .int .i64 ((n - 1) % 3), .bool true]
set_option maxHeartbeats 1000000 in
theorem placeCall (n : Int) (w : World) : Calls Tryd.prog 11 #[.int .i64 n] w fun e w' => ∃ r, e = .returned r ∧ placeIs n r ∧ w = w' := by
  by_cases h1 : n < 1
  · have t1 : decide (n < 1) = true := by simpa using h1
    have HP := hid (show placeIs n (.tuple #[.int .i64 0, .int .i64 0, .bool false]) by unfold placeIs; rw [if_pos (.inl h1)])
    clear h1
    go_enter Tryd.func11, Tryd.ntmps11
    go_wp2
    go_ret3
    exact ⟨_, rfl, HP.out, rfl⟩
  · have t1 : decide (n < 1) = false := by simpa using h1
    by_cases h2 : 12 < n
    · have t2 : decide (12 < n) = true := by simpa using h2
      have HP := hid (show placeIs n (.tuple #[.int .i64 0, .int .i64 0, .bool false]) by unfold placeIs; rw [if_pos (.inr h2)])
      clear h1 h2
      go_enter Tryd.func11, Tryd.ntmps11
      go_wp2
      go_ret3
      exact ⟨_, rfl, HP.out, rfl⟩
    · have t2 : decide (12 < n) = false := by simpa using h2
      have HP := hid (show placeIs n (.tuple #[.int .i64 ((n - 1) / 3), .int .i64 ((n - 1) % 3), .bool true]) by unfold placeIs; rw [if_neg (by omega)])
      go_enter Tryd.func11, Tryd.ntmps11
      go_wp2
      go_ret3
      exact ⟨_, rfl, HP.out, rfl⟩
end Go.Proofs.YtdfkegflnebckaaDoor
