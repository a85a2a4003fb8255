/-
  WordOne: for every two numbers, every text and every bytes the law answers true, and nothing that was there has turned.
-/
import Derived.Test.YtdfkegflnebckaaDoorApp
import Derived.Lib.ItoaLen
import Derived.Deep.Cut
import Derived.Deep.CutRange
import Derived.Deep.DeepCutAuto
import Derived.Deep.RegionWith
import Derived.Deep.DrawnRows
namespace Go.Proofs.YtdfkegflnebckaaDoor
open Go.RowKit Go.Maps W
attribute [local go_sem ↓] Go.wp_at_zero Go.wp_at_succ

theorem quiet_left {P : Program} {f : FuncId} {args : Array Value} {w : World} {n : Nat} {v : Value}
    (h : Calls P f args (w.drewN n) fun e w' => e = .returned v ∧ w.drewN n = w') : Calls P f args (w.drewN n) fun e w'' => e = .returned v ∧ ∃ m, w'' = w.drewN m :=
  h.mono fun _ _ ⟨he, hm⟩ => ⟨he, n, hm.symm⟩
theorem reads_take {w : World} {A : Option Addr} {n c : Nat} {l : List UInt8} (h : Reads w (.slice A n c) (bys l)) (k : Nat) (hk : k ≤ l.length) : Reads w (.slice A k c) (bys (l.take k)) := by
  obtain ⟨A', c', b, o, he, hA, hA2, hc, hcells⟩ := h
  injection he with e1 e2 e3
  subst e1 e3
  rw [bys_len] at e2 hA hA2 hc
  have hl : (bys (l.take k)).length = k := by simp [bys_len]; omega
  refine ⟨A, c, b, o, by rw [hl], fun h => ?_, fun a ha hp => hA2 a ha (by omega), by omega, fun j u hj => hcells j u ?_⟩
  · have := hA h
    omega
  · unfold bys at hj ⊢
    rw [List.map_take] at hj
    have hjk : j < k := by
      have := (List.getElem?_eq_some_iff.1 hj).1
      simp at this
      omega
    rwa [List.getElem?_take_of_lt hjk] at hj
theorem Reads.cap {w : World} {A : Option Addr} {n c : Nat} {xs : List Value} (h : Reads w (.slice A n c) xs) : n ≤ c := by
  obtain ⟨A', c', b, o, he, _, _, hc, _⟩ := h
  injection he with e1 e2 e3
  omega
theorem below_reads {B : Nat} {w w' : World} {v : Value} {xs : List Value} (hb : Below B w w') (hB : w.heap.size ≤ B) (h : Reads w v xs) : Reads w' v xs := h.below hb hB
theorem Reads.addr {w : World} {A : Option Addr} {n c : Nat} {xs : List Value} (h : Reads w (.slice A n c) xs) (h0 : 0 < xs.length) : ∃ b o, A = some ⟨b, o, none⟩ := by
  obtain ⟨A', c', b, o, he, hA, hA2, _, _⟩ := h
  injection he with e1 e2 e3
  subst e1
  cases A with
  | none => have := (hA rfl).1; omega
  | some a => exact ⟨b, o, by rw [hA2 a rfl h0]⟩
theorem Reads.drewN {w : World} {v : Value} {xs : List Value} (h : Reads w v xs) (n : Nat) : Reads (w.drewN n) v xs := h

end Go.Proofs.YtdfkegflnebckaaDoor
