/-
  prog.kindOf, prog.alone, prog.transaction: what the words behind tx say. Of at most 10^9 words, each of at most 10^9 bytes.
  A program that is being read, in memory: its box, its cells, its threads, each in rows of the call's own, apart from each other and from some blocks besides; one cell more, one thread more, one transaction more.
  prog.alone, prog.cells, prog.line: what a line does to the program that is being read.
  A program under way: a store elsewhere; what it reads as.
-/
import Derived.Test.YtgfmlaflochffaaGreatDoorPValidZ
import Derived.Test.YtgfmlaflochffaaGreatDoorOneZ
import Derived.Deep.QuietTactic
import Derived.BigQuiet
import Derived.RegionTactic
import Derived.Deep.AppendLies
namespace Go.Proofs.YtgfmlaflochffaaGreatDoor
open Go.RowKit Go.Maps W
attribute [local go_sem ↓] Go.wp_at_zero Go.wp_at_succ

/-- Acts as cells. -/
def flatA (l : List PAct) : List Value := l.flatMap fun a => (actArr a).toList
theorem actArr_one (a : PAct) : ∀ u ∈ (actArr a).toList, u.oneCell' = true := by
  intro u hu
  simp only [actArr, List.mem_cons, List.not_mem_nil, or_false] at hu
  rcases hu with rfl | rfl | rfl <;> rfl
theorem news_act (w : World) (a : PAct) : ∀ (j : Nat) u, (actArr a).toList[j]? = some u → (w.alloc (.cells (actArr a) 80)).cell? ((⟨w.heap.size, 0, none⟩ : Addr).add j) = some u :=
  World.news_of_block (heap_alloc_new w (.cells (actArr a) 80))
theorem flatA_snoc (l : List PAct) (a : PAct) : flatA (l ++ [a]) = flatA l ++ (actArr a).toList := by simp [flatA]
theorem flatA_at : ∀ (l : List PAct) (k : Nat) (a : PAct), l[k]? = some a → ∀ r, r < 3 → (flatA l)[k * 3 + r]? = (actArr a)[r]?
  | [], k, a, h, _, _ => by simp at h
  | g :: l, 0, a, h, r, hr => by
    obtain rfl : g = a := by simpa using h
    unfold flatA
    rw [List.flatMap_cons, List.getElem?_append_left (by simp [actArr]; omega)]
    simp
  | g :: l, k + 1, a, h, r, hr => by
    have h2 := flatA_at l k a (by simpa using h) r hr
    unfold flatA at h2 ⊢
    rw [List.flatMap_cons, List.getElem?_append_right (by simp [actArr]; omega)]
    rw [← h2]
    congr 1
    simp [actArr]
    omega
theorem infoAct : (Tryz.prog.info? 80).map (fun i => (i.zero, i.size, i.bytes)) = some (some (.agg #[.int .i64 0, .int .i64 0, .int .i64 0]), 3, 24) := by kernel_rfl
/-- What is read behind an act's word, q numbers having been read. -/
def readMore (nn : Nat) : Nat → Nat → PAct → List (List UInt8) → Option (List PAct)
  | 0, _, a, rest => (readActs rest).map (a :: ·)
  | f + 1, q, a, rest => match rest with
    | [] => none
    | c :: r => match number c with
      | none => none
      | some n => readMore nn f (q + 1) (if q = 0 then { a with cell := n } else { a with val := n }) r
theorem readActs_more (x : List UInt8) (r : List (List UInt8)) : readActs (x :: r) = if kindOf x = 0 then none else readMore (numsOf (kindOf x)) (numsOf (kindOf x)) 0 ⟨kindOf x, 0, 0⟩ r := by
  rw [readActs.eq_def]
  simp only
  by_cases h0 : kindOf x = 0
  · rw [if_pos h0, if_pos h0]
  · rw [if_neg h0, if_neg h0]
    rcases nums_cases (kindOf x : Int) with ⟨h, _⟩ | ⟨h, _⟩ | ⟨h, _⟩
    · rw [h, if_pos rfl]; rfl
    · rw [h]
      simp only [Nat.one_ne_zero, if_false, if_true]
      cases r with
      | nil => rfl
      | cons c r =>
        simp only [readMore]
        cases number c <;> rfl
    · rw [h]
      simp only [show ¬ (2 : Nat) = 0 by omega, show ¬ (2 : Nat) = 1 by omega, if_false]
      cases r with
      | nil => rfl
      | cons c r =>
        simp only [readMore]
        cases number c with
        | none => rfl
        | some n =>
          simp only
          cases r with
          | nil => rfl
          | cons v r =>
            simp only
            cases number v <;> rfl
/-- The slice without its first element. -/
theorem reads_tail {w : World} {b o n c : Nat} {x : Value} {xs : List Value} (h : Reads w (.slice (some ⟨b, o, none⟩) n c) (x :: xs)) : Reads w (.slice (some ⟨b, o + 1, none⟩) (n - 1) (c - 1)) xs := by
  obtain ⟨A, c1, b1, o1, he, h2, h3, h4, h5⟩ := h
  injection he with e1 e2 e3
  subst e1 e3
  have h6 := h3 _ rfl (by simp)
  injection h6 with h7 h8
  subst h7 h8
  simp only [List.length_cons] at e2 h4
  refine ⟨some ⟨b, o + 1, none⟩, c - 1, b, o + 1, by rw [e2]; simp, by simp, fun a ha _ => by injection ha with ha; exact ha.symm, by omega, fun j u hj => ?_⟩
  have := h5 (j + 1) u (by simpa using hj)
  rwa [show o + 1 + j = o + (j + 1) by omega]
theorem reads_none {w : World} {A : Option Addr} {b o c : Nat} (hA : A = some ⟨b, o, none⟩) : Reads w (.slice A 0 c) [] := by
  subst hA
  exact ⟨some ⟨b, o, none⟩, c, b, o, rfl, by simp, fun a ha _ => by injection ha with ha; exact ha.symm, Nat.zero_le _, by simp⟩
/-- How long a slice is. -/
def sliceLen : Value → Nat
  | .slice _ n _ => n
  | _ => 0
/-- One of the errors. -/
def someErr (v : Value) : Prop := ∃ a, v = .iface 172 (.pointer (some a))
/-- What transaction tells. -/
def TxOut (w' : World) (B : Nat) (ws : List (List UInt8)) (x v : Value) : Prop :=
  (∃ l, ws ≠ [] ∧ readActs ws = some l ∧ v = .nilIface ∧ w'.ownsRow B 80 3 x l.length (flatA l)) ∨ ((ws = [] ∨ readActs ws = none) ∧ someErr v)

end Go.Proofs.YtgfmlaflochffaaGreatDoor

namespace Go.Proofs.YtgfmlaflochffaaGreatDoor
open Go.RowKit Go.Maps W

theorem lt_of_at {W : World} {k : Nat} {o : Obj} (h : W.heap[k]? = some o) : k < W.heap.size := by
  rcases Nat.lt_or_ge k W.heap.size with h' | h'
  · exact h'
  · rw [Array.getElem?_eq_none h'] at h; cases h
theorem row_keep {W W' : World} {B n size : Nat} {t : TypeId} {v : Value} {xs : List Value} (h : W.ownsRow B t size v n xs) (hk : ∀ (g : Nat) (cs : Array Value), v.ownBlock = some g → W.heap[g]? = some (.cells cs t (0, 0)) → W'.heap[g]? = W.heap[g]?) : W'.ownsRow B t size v n xs := by
  refine ⟨h.1, ?_⟩
  rcases h.2 with h0 | ⟨g, cap, cur, rfl, hB, hg, rest⟩
  · exact .inl h0
  · exact .inr ⟨g, cap, cur, rfl, hB, (hk g cur rfl hg).trans hg, rest⟩
/-- A row's block bears its type. -/
theorem row_type {W : World} {B n size : Nat} {t : TypeId} {v : Value} {xs : List Value} (h : W.ownsRow B t size v n xs) {g : Nat} (hg : v.ownBlock = some g) : ∃ cs, W.heap[g]? = some (.cells cs t (0, 0)) := by
  rcases h.2 with ⟨rfl, _⟩ | ⟨g', cap, cur, rfl, hB, hg', rest⟩
  · simp [Value.ownBlock] at hg
  · obtain rfl : g' = g := by simpa [Value.ownBlock] using hg
    exact ⟨cur, hg'⟩
theorem type_ne {W : World} {g g' : Nat} {cs cs' : Array Value} {t t' : TypeId} {f f' : Nat × Nat} (h : W.heap[g]? = some (.cells cs t f)) (h' : W.heap[g']? = some (.cells cs' t' f')) (ht : t ≠ t') : g ≠ g' := by
  rintro rfl
  rw [h] at h'
  injection h' with h'
  injection h' with _ e
  exact ht e

abbrev tI : TypeId := 3
abbrev tP : TypeId := 25
abbrev tH : TypeId := 57
abbrev tT : TypeId := 56
abbrev tA : TypeId := 80
/-- A thread: a row of transactions, each a row of acts. -/
def TxAt (W : World) (B : Nat) (u : Value) (t : List (List PAct)) : Prop :=
  ∃ vs : List Value, W.ownsRow B tT 1 u vs.length vs ∧ vs.length = t.length ∧ ∀ (j : Nat) v l, vs[j]? = some v → t[j]? = some l → W.ownsRow B tA 3 v l.length (flatA l)
/-- The threads: a row of threads, apart from each other and from the blocks of F. -/
def ThrAt (F : List Nat) (W : World) (B : Nat) (vt : Value) (ts : List (List (List PAct))) : Prop :=
  ∃ us : List Value, W.ownsRow B tH 1 vt us.length us ∧ us.length = ts.length ∧ (∀ (i : Nat) u t, us[i]? = some u → ts[i]? = some t → TxAt W B u t) ∧
    (∀ (i j : Nat) u v g, i ≠ j → us[i]? = some u → us[j]? = some v → u.ownBlock = some g → v.ownBlock ≠ some g) ∧ ∀ g ∈ F, vt.ownBlock ≠ some g ∧ ∀ u ∈ us, u.ownBlock ≠ some g
structure Pp (F : List Nat) (B pb : Nat) (W : World) (vc vt : Value) (p : Pg) : Prop where
  box : Blk W pb tP #[vc, vt]
  le : B ≤ pb
  cells : W.ownsRow B tI 1 vc p.cells.length (ints p.cells)
  thr : ThrAt F W B vt p.threads
  frn : ∀ g ∈ F, g < W.heap.size ∧ g ≠ pb ∧ vc.ownBlock ≠ some g
def KeptF (F : List Nat) (W W' : World) : Prop := ∀ g ∈ F, W'.heap[g]? = W.heap[g]?
theorem KeptF.refl (F : List Nat) (W : World) : KeptF F W W := fun _ _ => rfl
theorem KeptF.trans {F : List Nat} {a b c : World} (h : KeptF F a b) (k : KeptF F b c) : KeptF F a c := fun g hg => (k g hg).trans (h g hg)
theorem KeptF.call {F : List Nat} {W W' : World} (hF : ∀ g ∈ F, g < W.heap.size) (hb : Below W.heap.size W W') : KeptF F W W' := fun g hg => hb.block g (hF g hg)

theorem TxAt.keep {W W' : World} {B : Nat} {u : Value} {t : List (List PAct)} (h : TxAt W B u t) (h1 : ∀ (g : Nat) (cs : Array Value), u.ownBlock = some g → W.heap[g]? = some (.cells cs tT (0, 0)) → W'.heap[g]? = W.heap[g]?) (h2 : ∀ (g : Nat) (cs : Array Value), W.heap[g]? = some (.cells cs tA (0, 0)) → W'.heap[g]? = W.heap[g]?) : TxAt W' B u t := by
  obtain ⟨vs, k1, k2, k3⟩ := h
  exact ⟨vs, row_keep k1 h1, k2, fun j v l hv hl => row_keep (k3 j v l hv hl) (fun g cs _ hg => h2 g cs hg)⟩
theorem ThrAt.keep {F : List Nat} {W W' : World} {B : Nat} {vt : Value} {ts : List (List (List PAct))} (h : ThrAt F W B vt ts) (h0 : ∀ (g : Nat) (cs : Array Value), W.heap[g]? = some (.cells cs tH (0, 0)) → W'.heap[g]? = W.heap[g]?) (h1 : ∀ (g : Nat) (cs : Array Value), W.heap[g]? = some (.cells cs tT (0, 0)) → W'.heap[g]? = W.heap[g]?) (h2 : ∀ (g : Nat) (cs : Array Value), W.heap[g]? = some (.cells cs tA (0, 0)) → W'.heap[g]? = W.heap[g]?) : ThrAt F W' B vt ts := by
  obtain ⟨us, k1, k2, k3, k4⟩ := h
  exact ⟨us, row_keep k1 (fun g cs _ hg => h0 g cs hg), k2, fun i u t hu ht => (k3 i u t hu ht).keep (fun g cs _ hg => h1 g cs hg) h2, k4⟩
theorem Pp.call {F : List Nat} {B pb : Nat} {W W' : World} {vc vt : Value} {p : Pg} (h : Pp F B pb W vc vt p) (hb : Below W.heap.size W W') : Pp F B pb W' vc vt p :=
  ⟨h.box.below hb h.box.lt, h.le, row_call h.cells hb, h.thr.keep (fun g _ hg => hb.block g (lt_of_at hg)) (fun g _ hg => hb.block g (lt_of_at hg)) (fun g _ hg => hb.block g (lt_of_at hg)),
    fun g hg => ⟨Nat.lt_of_lt_of_le (h.frn g hg).1 hb.size, (h.frn g hg).2⟩⟩
theorem Pp.alloc {F : List Nat} {B pb : Nat} {W : World} {vc vt : Value} {p : Pg} (h : Pp F B pb W vc vt p) (o : Obj) : Pp F B pb (W.alloc o) vc vt p := h.call ((Below.refl _ _).alloc (Nat.le_refl _) o)
theorem Pp.sub {F F' : List Nat} {B pb : Nat} {W : World} {vc vt : Value} {p : Pg} (h : Pp F B pb W vc vt p) (hs : ∀ g ∈ F', g ∈ F) : Pp F' B pb W vc vt p := by
  obtain ⟨us, k1, k2, k3, k4, k5⟩ := h.thr
  exact ⟨h.box, h.le, h.cells, ⟨us, k1, k2, k3, k4, fun g hg => k5 g (hs g hg)⟩, fun g hg => h.frn g (hs g hg)⟩

/-- One cell more. -/
theorem Pp.addCell {F : List Nat} {B pb : Nat} {W W2 : World} {vc vt v' : Value} {p : Pg} {n : Int} (h : Pp F B pb W vc vt p) (hown : W2.ownsRow B tI 1 v' (p.cells.length + 1) (ints p.cells ++ [.int .i64 n])) (hg : W.grownBy W2 vc.ownBlock) (hat : v'.ownBlock = vc.ownBlock ∨ v'.ownBlock = some W.heap.size) (hB : B ≤ W.heap.size) :
    Pp F B pb (W2.setCell ⟨pb, 0, none⟩ v') v' vt { p with cells := p.cells ++ [n] } ∧ KeptF F W (W2.setCell ⟨pb, 0, none⟩ v') ∧ Below B W (W2.setCell ⟨pb, 0, none⟩ v') := by
  have hbx := h.box
  have hpv : vc.ownBlock ≠ some pb := Blk.apartRow h.box h.cells (by decide)
  have hpv' : v'.ownBlock ≠ some pb := by
    rcases hat with e | e
    · rw [e]; exact hpv
    · rw [e]; intro e2; injection e2 with e2; have := hbx.lt; omega
  have keep : ∀ (g : Nat) (cs : Array Value) (t : TypeId), t ≠ tI → t ≠ tP → W.heap[g]? = some (.cells cs t (0, 0)) → (W2.setCell ⟨pb, 0, none⟩ v').heap[g]? = W.heap[g]? := by
    intro g cs t h1 h2 hgt
    have e1 : g ≠ pb := type_ne hgt hbx h2
    have e2 : some g ≠ vc.ownBlock := by
      intro e
      obtain ⟨cs', hc⟩ := row_type h.cells e.symm
      exact type_ne hgt hc h1 rfl
    exact (Below.heap_setCell W2 ⟨pb, 0, none⟩ v' g e1).trans (hg.block g (lt_of_at hgt) e2)
  refine ⟨⟨?_, h.le, ?_, h.thr.keep (fun g cs hh => keep g cs tH (by decide) (by decide) hh) (fun g cs hh => keep g cs tT (by decide) (by decide) hh) (fun g cs hh => keep g cs tA (by decide) (by decide) hh), ?_⟩, ?_, ?_⟩
  · exact (hbx.grown hg (fun e => hpv e.symm)).put 0 v'
  · have e : ints (p.cells ++ [n]) = ints p.cells ++ [.int .i64 n] := by simp [ints]
    simp only [List.length_append, List.length_singleton, e]
    exact row_far hown hpv' v'
  · intro g hgF
    obtain ⟨f1, f2, f3⟩ := h.frn g hgF
    refine ⟨by have := hg.size; simp [World.setCell]; omega, f2, ?_⟩
    rcases hat with e | e
    · rw [e]; exact f3
    · rw [e]; intro e2; injection e2 with e2; omega
  · intro g hgF
    obtain ⟨f1, f2, f3⟩ := h.frn g hgF
    exact (Below.heap_setCell W2 ⟨pb, 0, none⟩ v' g f2).trans (hg.block g f1 (fun e => f3 e.symm))
  · exact ((Below.refl B W).grown hg hB (fun x hx => (row_own h.cells hx).1)).setCell (p := ⟨pb, 0, none⟩) h.le v'
/-- One thread more. -/
theorem Pp.addThread {F : List Nat} {B pb : Nat} {W W2 : World} {vc vt v' : Value} {p : Pg} {us : List Value} (h : Pp F B pb W vc vt p) (hrow : W.ownsRow B tH 1 vt us.length us) (hlen : us.length = p.threads.length)
    (hus : (∀ (i : Nat) u t, us[i]? = some u → p.threads[i]? = some t → TxAt W B u t) ∧ (∀ (i j : Nat) u v g, i ≠ j → us[i]? = some u → us[j]? = some v → u.ownBlock = some g → v.ownBlock ≠ some g) ∧ ∀ g ∈ F, vt.ownBlock ≠ some g ∧ ∀ u ∈ us, u.ownBlock ≠ some g)
    (hown : W2.ownsRow B tH 1 v' (us.length + 1) (us ++ [.slice none 0 0])) (hg : W.grownBy W2 vt.ownBlock) (hat : v'.ownBlock = vt.ownBlock ∨ v'.ownBlock = some W.heap.size) (hB : B ≤ W.heap.size) :
    Pp F B pb (W2.setCell ⟨pb, 1, none⟩ v') vc v' { p with threads := p.threads ++ [[]] } ∧ KeptF F W (W2.setCell ⟨pb, 1, none⟩ v') ∧ Below B W (W2.setCell ⟨pb, 1, none⟩ v') := by
  have hbx := h.box
  obtain ⟨u1, u2, u3⟩ := hus
  have hpv : vt.ownBlock ≠ some pb := Blk.apartRow h.box hrow (by decide)
  have hpv' : v'.ownBlock ≠ some pb := by
    rcases hat with e | e
    · rw [e]; exact hpv
    · rw [e]; intro e2; injection e2 with e2; have := hbx.lt; omega
  have keep : ∀ (g : Nat) (cs : Array Value) (t : TypeId), t ≠ tH → t ≠ tP → W.heap[g]? = some (.cells cs t (0, 0)) → (W2.setCell ⟨pb, 1, none⟩ v').heap[g]? = W.heap[g]? := by
    intro g cs t h1 h2 hgt
    have e1 : g ≠ pb := type_ne hgt hbx h2
    have e2 : some g ≠ vt.ownBlock := by
      intro e
      obtain ⟨cs', hc⟩ := row_type hrow e.symm
      exact type_ne hgt hc h1 rfl
    exact (Below.heap_setCell W2 ⟨pb, 1, none⟩ v' g e1).trans (hg.block g (lt_of_at hgt) e2)
  refine ⟨⟨?_, h.le, row_keep h.cells (fun g cs _ hh => keep g cs tI (by decide) (by decide) hh), ⟨us ++ [.slice none 0 0], ?_, by simp [hlen], ?_, ?_, ?_⟩, ?_⟩, ?_, ?_⟩
  · exact (hbx.grown hg (fun e => hpv e.symm)).put 1 v'
  · have e : (us ++ [Value.slice none 0 0]).length = us.length + 1 := by simp
    rw [e]
    exact row_far hown hpv' v'
  · intro i u t hu ht
    by_cases hi : i < us.length
    · rw [List.getElem?_append_left hi] at hu
      rw [List.getElem?_append_left (by omega)] at ht
      exact (u1 i u t hu ht).keep (fun g cs _ hh => keep g cs tT (by decide) (by decide) hh) (fun g cs hh => keep g cs tA (by decide) (by decide) hh)
    · have hi2 := (List.getElem?_eq_some_iff.1 hu).1
      simp at hi2
      obtain rfl : i = us.length := by omega
      obtain rfl : u = .slice none 0 0 := by simpa using hu.symm
      obtain rfl : t = [] := by rw [hlen] at ht; simpa using ht.symm
      exact ⟨[], World.ownsRow_nil _ _ _ _, rfl, by simp⟩
  · intro i j u v g hij hu hv hgu hgv
    by_cases hi : i < us.length
    · rw [List.getElem?_append_left hi] at hu
      by_cases hj : j < us.length
      · rw [List.getElem?_append_left hj] at hv
        exact u2 i j u v g hij hu hv hgu hgv
      · have hj2 := (List.getElem?_eq_some_iff.1 hv).1
        simp at hj2
        obtain rfl : j = us.length := by omega
        obtain rfl : v = .slice none 0 0 := by simpa using hv.symm
        simp [Value.ownBlock] at hgv
    · have hi2 := (List.getElem?_eq_some_iff.1 hu).1
      simp at hi2
      obtain rfl : i = us.length := by omega
      obtain rfl : u = .slice none 0 0 := by simpa using hu.symm
      simp [Value.ownBlock] at hgu
  · intro g hgF
    refine ⟨?_, fun u hu => ?_⟩
    · rcases hat with e | e
      · rw [e]; exact (u3 g hgF).1
      · rw [e]; intro e2; injection e2 with e2; have := (h.frn g hgF).1; omega
    · rcases List.mem_append.1 hu with hu | hu
      · exact (u3 g hgF).2 u hu
      · obtain rfl : u = .slice none 0 0 := by simpa using hu
        simp [Value.ownBlock]
  · intro g hgF
    obtain ⟨f1, f2, f3⟩ := h.frn g hgF
    exact ⟨by have := hg.size; simp [World.setCell]; omega, f2, f3⟩
  · intro g hgF
    obtain ⟨f1, f2, _⟩ := h.frn g hgF
    exact (Below.heap_setCell W2 ⟨pb, 1, none⟩ v' g f2).trans (hg.block g f1 (fun e => (u3 g hgF).1 e.symm))
  · exact ((Below.refl B W).grown hg hB (fun x hx => (row_own hrow hx).1)).setCell (p := ⟨pb, 1, none⟩) h.le v'
/-- One transaction more, in the last thread. -/
theorem Pp.addTx {F : List Nat} {B pb m gt n c : Nat} {W W2 : World} {vc vt v' u av : Value} {p : Pg} {us vs : List Value} {t : List (List PAct)} {l : List PAct} (h : Pp F B pb W vc vt p) (hrow : W.ownsRow B tH 1 vt us.length us) (hlen : us.length = p.threads.length)
    (hus : (∀ (i : Nat) u t, us[i]? = some u → p.threads[i]? = some t → TxAt W B u t) ∧ (∀ (i j : Nat) u v g, i ≠ j → us[i]? = some u → us[j]? = some v → u.ownBlock = some g → v.ownBlock ≠ some g) ∧ ∀ g ∈ F, vt.ownBlock ≠ some g ∧ ∀ u ∈ us, u.ownBlock ≠ some g)
    (hm : m + 1 = us.length) (hum : us[m]? = some u) (htm : p.threads[m]? = some t) (hu : W.ownsRow B tT 1 u vs.length vs) (hvl : vs.length = t.length) (hac : ∀ (j : Nat) v l, vs[j]? = some v → t[j]? = some l → W.ownsRow B tA 3 v l.length (flatA l))
    (hav : W.ownsRow B tA 3 av l.length (flatA l)) (hown : W2.ownsRow B tT 1 v' (vs.length + 1) (vs ++ [av])) (hg : W.grownBy W2 u.ownBlock) (hat : v'.ownBlock = u.ownBlock ∨ v'.ownBlock = some W.heap.size) (hB : B ≤ W.heap.size) (hvt : vt = .slice (some ⟨gt, 0, none⟩) n c) :
    Pp F B pb (W2.setCell ⟨gt, m, none⟩ v') vc vt { p with threads := addLast p.threads l } ∧ KeptF F W (W2.setCell ⟨gt, m, none⟩ v') ∧ Below B W (W2.setCell ⟨gt, m, none⟩ v') := by
  have hbx := h.box
  obtain ⟨u1, u2, u3⟩ := hus
  have hgt : vt.ownBlock = some gt := by rw [hvt]; rfl
  have hml : m < us.length := by omega
  obtain ⟨cvt, hcvt⟩ := row_type hrow hgt
  have hn : n = us.length := by
    have := hrow.1
    rcases hrow.2 with ⟨he, _⟩ | ⟨g', cap, cur, he, _⟩
    · rw [he] at hvt; cases hvt
    · rw [he] at hvt; injection hvt with _ e _; exact e.symm
  subst hn
  -- the thread's row apart from the box and from the threads' row
  have hupb : u.ownBlock ≠ some pb := Blk.apartRow h.box hu (by decide)
  have hugt : u.ownBlock ≠ some gt := by
    intro e
    obtain ⟨c1, hc1⟩ := row_type hu e
    exact type_ne hc1 hcvt (by decide) rfl
  have hu0 : ∀ g, W.heap[g]? ≠ none → v'.ownBlock = some g → u.ownBlock = some g := by
    intro g hgn e
    rcases hat with e2 | e2
    · rw [← e2]; exact e
    · rw [e2] at e
      injection e with e
      subst e
      exact absurd (Array.getElem?_eq_none (Nat.le_refl _)) hgn
  have hv'gt : v'.ownBlock ≠ some gt := fun e => hugt (hu0 gt (by rw [hcvt]; simp) e)
  have keep : ∀ (g : Nat) (cs : Array Value) (t : TypeId), t ≠ tT → t ≠ tH → W.heap[g]? = some (.cells cs t (0, 0)) → (W2.setCell ⟨gt, m, none⟩ v').heap[g]? = W.heap[g]? := by
    intro g cs t h1 h2 hgt'
    have e1 : g ≠ gt := type_ne hgt' hcvt h2
    have e2 : some g ≠ u.ownBlock := by
      intro e
      obtain ⟨cs', hc⟩ := row_type hu e.symm
      exact type_ne hgt' hc h1 rfl
    exact (Below.heap_setCell W2 ⟨gt, m, none⟩ v' g e1).trans (hg.block g (lt_of_at hgt') e2)
  have keepT : ∀ (g : Nat) (cs : Array Value), some g ≠ u.ownBlock → W.heap[g]? = some (.cells cs tT (0, 0)) → (W2.setCell ⟨gt, m, none⟩ v').heap[g]? = W.heap[g]? := by
    intro g cs h1 hgt'
    have e1 : g ≠ gt := type_ne hgt' hcvt (by decide)
    exact (Below.heap_setCell W2 ⟨gt, m, none⟩ v' g e1).trans (hg.block g (lt_of_at hgt') h1)
  have hrow2 : W2.ownsRow B tH 1 vt us.length us := row_keep hrow (fun g cs e hh => by
    rw [hgt] at e
    injection e with e
    subst e
    exact hg.block gt (lt_of_at hcvt) (fun e => hugt e.symm))
  have hst : (W2.setCell ⟨gt, m, none⟩ v').ownsRow B tH 1 vt us.length (us.set m v') := by
    rw [hvt] at hrow2 ⊢
    exact (World.ownsRow.stored hrow2 m v').1
  have hthr : addLast p.threads l = p.threads.dropLast ++ [t ++ [l]] := by
    unfold addLast
    have hl : p.threads.getLast? = some t := by rw [List.getLast?_eq_getElem?, show p.threads.length - 1 = m by omega]; exact htm
    rw [hl]
    rfl
  have hthr2 : ∀ (i : Nat) t', (addLast p.threads l)[i]? = some t' → (i < m ∧ p.threads[i]? = some t') ∨ (i = m ∧ t' = t ++ [l]) := by
    intro i t' hi
    rw [hthr] at hi
    have hdl : p.threads.dropLast.length = m := by simp; omega
    by_cases him : i < m
    · rw [List.getElem?_append_left (by omega), List.getElem?_dropLast, if_pos (by omega)] at hi
      exact .inl ⟨him, hi⟩
    · rw [List.getElem?_append_right (by omega), hdl] at hi
      have := (List.getElem?_eq_some_iff.1 hi).1
      simp at this
      obtain rfl : i = m := by omega
      simp at hi
      exact .inr ⟨rfl, hi.symm⟩
  have hlen2 : (addLast p.threads l).length = us.length := by rw [hthr]; simp; omega
  have hset : ∀ (i : Nat) w', (us.set m v')[i]? = some w' → (i = m ∧ w' = v') ∨ (i ≠ m ∧ us[i]? = some w') := by
    intro i w' hi
    by_cases him : i = m
    · subst him
      rw [List.getElem?_set_self hml] at hi
      exact .inl ⟨rfl, (Option.some.inj hi).symm⟩
    · rw [List.getElem?_set_ne (fun e => him e.symm)] at hi
      exact .inr ⟨him, hi⟩
  refine ⟨⟨?_, h.le, row_keep h.cells (fun g cs _ hh => keep g cs tI (by decide) (by decide) hh), ⟨us.set m v', ?_, ?_, ?_, ?_, ?_⟩, ?_⟩, ?_, ?_⟩
  · have e1 : pb ≠ gt := type_ne hbx hcvt (by decide)
    exact (hbx.grown hg (fun e => hupb e.symm)).far e1 v'
  · rw [List.length_set]; exact hst
  · rw [List.length_set]; exact hlen2.symm
  · intro i w' t' hw' ht'
    rcases hset i w' hw' with ⟨rfl, rfl⟩ | ⟨hne, hw2⟩
    · rcases hthr2 i t' ht' with ⟨hlt, _⟩ | ⟨_, rfl⟩
      · omega
      · refine ⟨vs ++ [av], ?_, by simp [hvl], ?_⟩
        · have e : (vs ++ [av]).length = vs.length + 1 := by simp
          rw [e]
          exact row_far hown hv'gt w'
        · intro j v l' hv hl'
          have kk : ∀ (v : Value) (l' : List PAct), W.ownsRow B tA 3 v l'.length (flatA l') → (W2.setCell ⟨gt, i, none⟩ w').ownsRow B tA 3 v l'.length (flatA l') := fun v l' hr => row_keep hr (fun g cs _ hh => keep g cs tA (by decide) (by decide) hh)
          by_cases hj : j < vs.length
          · rw [List.getElem?_append_left hj] at hv
            rw [List.getElem?_append_left (by omega)] at hl'
            exact kk v l' (hac j v l' hv hl')
          · have hj2 := (List.getElem?_eq_some_iff.1 hv).1
            simp at hj2
            obtain rfl : j = vs.length := by omega
            obtain rfl : v = av := by simpa using hv.symm
            obtain rfl : l' = l := by rw [hvl] at hl'; simpa using hl'.symm
            exact kk v l' hav
    · have hilt : i < us.length := (List.getElem?_eq_some_iff.1 hw2).1
      rcases hthr2 i t' ht' with ⟨_, ht2⟩ | ⟨rfl, _⟩
      · refine (u1 i w' t' hw2 ht2).keep (fun g cs e hh => keepT g cs (fun e2 => ?_) hh) (fun g cs hh => keep g cs tA (by decide) (by decide) hh)
        exact u2 m i u w' g (fun e => hne e.symm) hum hw2 e2.symm e
      · exact absurd rfl hne
  · intro i j a b g hij ha hb hga hgb
    rcases hset i a ha with ⟨rfl, rfl⟩ | ⟨hni, ha2⟩
    · rcases hset j b hb with ⟨rfl, _⟩ | ⟨hnj, hb2⟩
      · exact hij rfl
      · have hbt : ∃ cs, W.heap[g]? = some (.cells cs tT (0, 0)) := by
          have hjl : j < us.length := (List.getElem?_eq_some_iff.1 hb2).1
          obtain ⟨vs2, k1, _, _⟩ := u1 j b p.threads[j] hb2 (List.getElem?_eq_getElem (by omega))
          exact row_type k1 hgb
        obtain ⟨cs, hcs⟩ := hbt
        exact u2 i j u b g hij hum hb2 (hu0 g (by rw [hcs]; simp) hga) hgb
    · rcases hset j b hb with ⟨rfl, rfl⟩ | ⟨hnj, hb2⟩
      · have hil : i < us.length := (List.getElem?_eq_some_iff.1 ha2).1
        obtain ⟨vs2, k1, _, _⟩ := u1 i a p.threads[i] ha2 (List.getElem?_eq_getElem (by omega))
        obtain ⟨cs, hcs⟩ := row_type k1 hga
        exact u2 i j a u g hij ha2 hum hga (hu0 g (by rw [hcs]; simp) hgb)
      · exact u2 i j a b g hij ha2 hb2 hga hgb
  · intro g hgF
    refine ⟨(u3 g hgF).1, fun w' hw' => ?_⟩
    obtain ⟨i, hi⟩ := List.getElem?_of_mem hw'
    rcases hset i w' hi with ⟨rfl, rfl⟩ | ⟨_, hi2⟩
    · rcases hat with e | e
      · rw [e]; exact (u3 g hgF).2 u (List.mem_of_getElem? hum)
      · rw [e]; intro e2; injection e2 with e2; have := (h.frn g hgF).1; omega
    · exact (u3 g hgF).2 w' (List.mem_of_getElem? hi2)
  · intro g hgF
    obtain ⟨f1, f2, f3⟩ := h.frn g hgF
    exact ⟨by have := hg.size; simp [World.setCell]; omega, f2, f3⟩
  · intro g hgF
    obtain ⟨f1, _, _⟩ := h.frn g hgF
    have e1 : g ≠ gt := fun e => (u3 g hgF).1 (by rw [hgt, e])
    exact (Below.heap_setCell W2 ⟨gt, m, none⟩ v' g e1).trans (hg.block g f1 (fun e => (u3 g hgF).2 u (List.mem_of_getElem? hum) e.symm))
  · exact ((Below.refl B W).grown hg hB (fun x hx => (row_own hu hx).1)).setCell (p := ⟨gt, m, none⟩) (row_own hrow hgt).1 v'
end Go.Proofs.YtgfmlaflochffaaGreatDoor

namespace Go.Proofs.YtgfmlaflochffaaGreatDoor
open Go.RowKit Go.Maps W
attribute [local go_sem ↓] Go.wp_at_zero Go.wp_at_succ

theorem infoI : (Tryz.prog.info? 3).map (fun i => (i.zero, i.size, i.bytes)) = some (some (.int .i64 0), 1, 8) := by kernel_rfl
theorem infoH : (Tryz.prog.info? 57).map (fun i => (i.zero, i.size, i.bytes)) = some (some (.slice none 0 0), 1, 24) := by kernel_rfl
theorem infoT : (Tryz.prog.info? 56).map (fun i => (i.zero, i.size, i.bytes)) = some (some (.slice none 0 0), 1, 24) := by kernel_rfl

/-- What cells tells, and does. -/
def CellsOut (p : Pg) (r : List (List UInt8)) (v : Value) (p' : Pg) : Prop :=
  (∃ ns, r ≠ [] ∧ readNums r = some ns ∧ v = .nilIface ∧ p' = { p with cells := p.cells ++ ns }) ∨ ((r = [] ∨ readNums r = none) ∧ someErr v)
theorem readNums_cons (y : List UInt8) (r : List (List UInt8)) : readNums (y :: r) = match number y with
  | none => none
  | some n => (readNums r).map (n :: ·) := rfl

end Go.Proofs.YtgfmlaflochffaaGreatDoor

namespace Go.Proofs.YtgfmlaflochffaaGreatDoor
open Go.RowKit Go.Maps W

/-- A store into a block that is none of the program's. -/
theorem Pp.set {F : List Nat} {B pb : Nat} {W : World} {vc vt : Value} {p : Pg} (h : Pp F B pb W vc vt p) {g j : Nat} {cs : Array Value} {t : TypeId} (u : Value) (hb : W.heap[g]? = some (.cells cs t (0, 0))) (hpb : g ≠ pb) (hvc : vc.ownBlock ≠ some g) (h1 : t ≠ tH) (h2 : t ≠ tT) (h3 : t ≠ tA) : Pp F B pb (W.setCell ⟨g, j, none⟩ u) vc vt p := by
  refine ⟨(Below.heap_setCell W ⟨g, j, none⟩ u pb (fun e => hpb e.symm)).trans h.box, h.le, row_keep h.cells (fun g' _ e _ => Below.heap_setCell W ⟨g, j, none⟩ u g' (fun e2 => by cases e2; exact hvc e)), h.thr.keep (fun g' _ hh => Below.heap_setCell W ⟨g, j, none⟩ u g' (type_ne hh hb (fun e => h1 e.symm))) (fun g' _ hh => Below.heap_setCell W ⟨g, j, none⟩ u g' (type_ne hh hb (fun e => h2 e.symm))) (fun g' _ hh => Below.heap_setCell W ⟨g, j, none⟩ u g' (type_ne hh hb (fun e => h3 e.symm))), fun x hx => ⟨by simpa using (h.frn x hx).1, (h.frn x hx).2⟩⟩
theorem Pp.drew {F : List Nat} {B pb : Nat} {W : World} {vc vt : Value} {p : Pg} (h : Pp F B pb W vc vt p) : Pp F B pb W.drew vc vt p := ⟨h.box, h.le, h.cells, h.thr, h.frn⟩
theorem reads_acts {W : World} {B : Nat} {v : Value} {l : List PAct} (h : W.ownsRow B tA 3 v l.length (flatA l)) : ReadsA W v l := by
  have h0 := h
  rcases h.2 with ⟨rfl, hz⟩ | ⟨g, cap, cur, rfl, hB, hg, hn, _⟩
  · have hl : l = [] := List.eq_nil_of_length_eq_zero (by omega)
    subst hl
    exact ⟨none, 0, 0, 0, rfl, fun _ => ⟨rfl, rfl⟩, fun a e => (by cases e), Nat.le_refl _, fun j a hj => (by simp at hj)⟩
  · refine ⟨some ⟨g, 0, none⟩, cap, g, 0, rfl, fun e => (by cases e), fun a e _ => (by injection e with e; exact e.symm), hn, fun j a hj => ?_⟩
    have hjl := (List.getElem?_eq_some_iff.1 hj).1
    have hf := flatA_at l j a hj
    have e0 := (h0.cellAt (j * 3 + 0) (by omega)).trans (hf 0 (by omega))
    have e1 := (h0.cellAt (j * 3 + 1) (by omega)).trans (hf 1 (by omega))
    have e2 := (h0.cellAt (j * 3 + 2) (by omega)).trans (hf 2 (by omega))
    simp only [Nat.zero_add]
    exact ⟨e0, e1, e2⟩
theorem Pp.pgAt {F : List Nat} {B pb : Nat} {W : World} {vc vt : Value} {p : Pg} (h : Pp F B pb W vc vt p) : PgAt W vc vt p := by
  obtain ⟨us, k1, k2, k3, k4, k5⟩ := h.thr
  refine ⟨reads_of_row (by simpa [ints_len] using h.cells), us, reads_of_row k1, k2, fun i u t hu ht => ?_⟩
  obtain ⟨vs, r1, r2, r3⟩ := k3 i u t hu ht
  refine ⟨vs, reads_of_row r1, r2, fun j v l hv hl => ?_⟩
  exact reads_acts (r3 j v l hv hl)

end Go.Proofs.YtgfmlaflochffaaGreatDoor
