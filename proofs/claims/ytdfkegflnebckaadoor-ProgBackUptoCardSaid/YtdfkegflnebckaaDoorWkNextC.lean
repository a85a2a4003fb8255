/-
  prog.Walk: Next, as a whole.
-/
import Derived.Test.YtdfkegflnebckaaDoorWkNext3
namespace Go.Proofs.YtdfkegflnebckaaDoor
open Go.RowKit Go.Maps W

theorem askEv_kind (t : Th) (a : PAct) : (askEv t a).kind = 2 := by
  unfold askEv
  by_cases h1 : a.kind = 1
  · rw [if_pos h1]; rfl
  · rw [if_neg h1]
    by_cases h2 : a.kind = 2
    · rw [if_pos h2]; rfl
    · rw [if_neg h2]
      by_cases h3 : t.adding = true
      · rw [if_pos h3]; rfl
      · rw [if_neg h3]; rfl
theorem nextCall {B wb : Nat} {W : World} {d : Wd} {vc vt ve : Value} {g n c : Nat} (h : Wk B wb W d vc vt (.slice (some ⟨g, 0, none⟩) n c) ve) (hok : WdOk d) (he9 : d.es.length ≤ 100000) (i : Int) :
    Calls Tryd.prog 14 #[.pointer (some ⟨wb, 0, none⟩), .int .i64 i] W fun e w' => NextPost B wb W vc vt (.slice (some ⟨g, 0, none⟩) n c) ve (d.next i) e w' := by
  unfold Wd.next
  cases hl : d.live i with
  | none => exact nextDead h hok hl
  | some tl =>
    obtain ⟨t, l⟩ := tl
    obtain ⟨hi, h1, h2, hne⟩ := live_at hl
    obtain ⟨k, rfl⟩ : ∃ k : Nat, i = (k : Int) := ⟨i.toNat, by omega⟩
    simp only [Int.toNat_natCast] at h1 h2 ⊢
    have ht := hok.th _ _ _ h1 h2
    by_cases hw : t.waits ≠ 0
    · rw [if_pos hw]; exact nextWaits h hok hl hw
    · rw [if_neg hw]
      have hw0 : t.waits = 0 := by omega
      by_cases hb : t.begun = false
      · rw [if_pos hb]; exact nextBegin h hok hl hw0 hb he9
      · rw [if_neg hb]
        have hb1 : t.begun = true := by simpa using hb
        cases ha : (actsOf t l)[t.act.toNat]? with
        | none =>
          have e : nextEv t (actsOf t l) = evK 4 := by unfold nextEv; rw [ha]
          rw [e]
          exact nextTry h hok hl hw0 hb1 he9 ha
        | some a =>
          by_cases h4 : a.kind = 4
          · have e : nextEv t (actsOf t l) = evK 7 := by unfold nextEv; rw [ha]; simp [h4]
            rw [e]
            exact nextCancel h hok hl hw0 hb1 he9 ha h4
          · have e : nextEv t (actsOf t l) = askEv t a := by unfold nextEv; rw [ha]; simp [h4]
            have e2 : (askEv t a).kind = 2 := askEv_kind t a
            rw [e, e2]
            have hk : a.kind = 1 ∨ a.kind = 2 ∨ a.kind = 3 := by
              have hth := (pgOk_parts hok.ok).2.2.2.2.2 l (List.mem_of_getElem? h2)
              have hlt : t.tx.toNat < l.length := by have := ht.t0; have := ht.t1; omega
              have hacts : l[t.tx.toNat]? = some (actsOf t l) := by unfold actsOf; rw [List.getElem?_eq_getElem hlt]; rfl
              obtain ⟨_, _, hao⟩ := txOk_parts ((thrOk_parts hth).2 _ (List.mem_of_getElem? hacts))
              obtain ⟨lb, hlb⟩ := acts_mem _ _ hao a (List.mem_of_getElem? ha)
              have := actOk_kind hlb
              omega
            rcases hk with hk | hk | hk
            · exact nextRead h hok hl hw0 hb1 he9 ha hk
            · exact nextWrite h hok hl hw0 hb1 he9 ha hk
            · by_cases had : t.adding = true
              · exact nextAddW h hok hl hw0 hb1 he9 ha hk had
              · exact nextAddR h hok hl hw0 hb1 he9 ha hk (by simpa using had)
end Go.Proofs.YtdfkegflnebckaaDoor
