/-
  prog.valid and prog.Valid: an error just where a program may not be. No condition.
-/
import Derived.Test.YtgfmlaflochffaaGreatDoorPMemZ
import Derived.Test.YtgfmlaflochffaaGreatDoorOneZ
import Derived.Laws.EntriesVeiled
import Derived.Deep.Cut
import Derived.Deep.CutRange
import Derived.Deep.RegionWith
import Derived.Deep.DrawnRows
import Derived.LoopTactic
namespace Go.Proofs.YtgfmlaflochffaaGreatDoor
open Go.RowKit Go.Maps W
attribute [local go_sem ↓] Go.wp_at_zero Go.wp_at_succ

set_option maxHeartbeats 4000000 in
theorem actCall (a : PAct) (n : Nat) (last : Bool) (w : World) : Calls Tryz.prog 30 #[.agg (actArr a), .int .i64 (n : Int), .bool last] w fun e w' => e = .returned (.bool (actOk a n last)) ∧ Below w.heap.size w w' := by
  have HN := hid (fun W => numsCall a.kind W)
  have HB := hid ((Below.refl w.heap.size w).alloc (Nat.le_refl _) (.cells (actArr a) 80))
  obtain ⟨k, c, v⟩ := a
  unfold actArr at HB
  unfold actArr
  simp only at HN HB
  rcases nums_cases k with ⟨h, k1, k2, k3⟩ | ⟨h, rfl⟩ | ⟨h, hk⟩
  · rw [h] at HN
    have HA := hid (show actOk ⟨k, c, v⟩ n last = (decide (k = 4) && last && decide (c = 0) && decide (v = 0)) by unfold actOk; rw [if_pos h])
    rw [HA.out]
    clear k1 k2 k3 h
    by_cases h4 : k = 4
    · have t1 : (k == 4) = true := by simpa using h4
      have u1 : decide (k = 4) = true := by simpa using h4
      rw [u1]
      clear h4
      cases last with
      | false =>
        go_enter Tryz.func30, Tryz.ntmps30
        go_wp2_with fail
        refine (HN.out _).mono ?_
        rintro e w1 ⟨rfl, rfl⟩
        go_wp2_with fail
        go_ret
        exact ⟨rfl, HB.out⟩
      | true =>
        by_cases hc : c = 0
        · subst hc
          by_cases hv : v = 0
          · subst hv
            go_enter Tryz.func30, Tryz.ntmps30
            go_wp2_with fail
            refine (HN.out _).mono ?_
            rintro e w1 ⟨rfl, rfl⟩
            go_wp2_with fail
            go_ret
            exact ⟨rfl, HB.out⟩
          · have t3 : (v == 0) = false := by simpa using hv
            have u3 : decide (v = 0) = false := by simpa using hv
            rw [u3]
            clear hv
            go_enter Tryz.func30, Tryz.ntmps30
            go_wp2_with fail
            refine (HN.out _).mono ?_
            rintro e w1 ⟨rfl, rfl⟩
            go_wp2_with fail
            go_ret
            exact ⟨rfl, HB.out⟩
        · have t2 : (c == 0) = false := by simpa using hc
          have u2 : decide (c = 0) = false := by simpa using hc
          rw [u2]
          clear hc
          go_enter Tryz.func30, Tryz.ntmps30
          go_wp2_with fail
          refine (HN.out _).mono ?_
          rintro e w1 ⟨rfl, rfl⟩
          go_wp2_with fail
          go_ret
          exact ⟨rfl, HB.out⟩
    · have t1 : (k == 4) = false := by simpa using h4
      have u1 : decide (k = 4) = false := by simpa using h4
      rw [u1]
      clear h4
      go_enter Tryz.func30, Tryz.ntmps30
      go_wp2_with fail
      refine (HN.out _).mono ?_
      rintro e w1 ⟨rfl, rfl⟩
      go_wp2_with fail
      go_ret
      exact ⟨rfl, HB.out⟩
  · rw [h] at HN
    have HA := hid (show actOk ⟨1, c, v⟩ n last = (decide (v = 0) && decide (0 ≤ c) && decide (c < (n : Int)) && decide (-1000 ≤ v) && decide (v ≤ 1000)) by unfold actOk; simp only; rw [if_neg (show ¬ numsOf 1 = 0 by omega), h]; rfl)
    rw [HA.out]
    clear h HA
    by_cases hv : v = 0
    case neg =>
      have t3 : (v == 0) = false := by simpa using hv
      have u5 : decide (v = 0) = false := by simpa using hv
      rw [u5]
      simp only [Bool.false_and]
      clear hv u5
      go_enter Tryz.func30, Tryz.ntmps30
      go_wp2_with fail
      refine (HN.out _).mono ?_
      rintro e w1 ⟨rfl, rfl⟩
      go_wp2_with fail
      go_ret
      exact ⟨rfl, HB.out⟩
    case pos =>
    subst hv
    have u5 : decide ((0 : Int) = 0) = true := rfl
    have u2 : decide (-1000 ≤ (0 : Int)) = true := rfl
    have u3 : decide ((0 : Int) ≤ 1000) = true := rfl
    rw [u5, u2, u3]
    clear u5 u2 u3
    by_cases hc0 : 0 ≤ c
    case neg =>
      have u0 : decide (0 ≤ c) = false := by simpa using hc0
      rw [u0]
      simp only [Bool.and_false, Bool.false_and]
      clear hc0
      go_enter Tryz.func30, Tryz.ntmps30
      go_wp2_with fail
      refine (HN.out _).mono ?_
      rintro e w1 ⟨rfl, rfl⟩
      go_wp2_with fail
      go_ret
      exact ⟨rfl, HB.out⟩
    case pos =>
    have u0 : decide (0 ≤ c) = true := by simpa using hc0
    by_cases hcn : c < (n : Int)
    case neg =>
      have u1 : decide (c < (n : Int)) = false := by simpa using hcn
      rw [u0, u1]
      clear hc0 hcn
      go_enter Tryz.func30, Tryz.ntmps30
      go_wp2_with fail
      refine (HN.out _).mono ?_
      rintro e w1 ⟨rfl, rfl⟩
      go_wp2_with fail
      go_ret
      exact ⟨rfl, HB.out⟩
    case pos =>
    have u1 : decide (c < (n : Int)) = true := by simpa using hcn
    rw [u0, u1]
    clear hc0 hcn
    go_enter Tryz.func30, Tryz.ntmps30
    go_wp2_with fail
    refine (HN.out _).mono ?_
    rintro e w1 ⟨rfl, rfl⟩
    go_wp2_with fail
    go_ret
    exact ⟨rfl, HB.out⟩
  · rw [h] at HN
    have HA := hid (show actOk ⟨k, c, v⟩ n last = (decide (0 ≤ c) && decide (c < (n : Int)) && decide (-1000 ≤ v) && decide (v ≤ 1000)) by unfold actOk; simp only; rw [if_neg (show ¬ numsOf k = 0 by omega), h]; simp)
    rw [HA.out]
    clear h HA hk
    by_cases hc0 : 0 ≤ c
    case neg =>
      have u0 : decide (0 ≤ c) = false := by simpa using hc0
      rw [u0]
      simp only [Bool.false_and]
      clear hc0
      go_enter Tryz.func30, Tryz.ntmps30
      go_wp2_with fail
      refine (HN.out _).mono ?_
      rintro e w1 ⟨rfl, rfl⟩
      go_wp2_with fail
      go_ret
      exact ⟨rfl, HB.out⟩
    case pos =>
    have u0 : decide (0 ≤ c) = true := by simpa using hc0
    by_cases hcn : c < (n : Int)
    case neg =>
      have u1 : decide (c < (n : Int)) = false := by simpa using hcn
      rw [u1]
      simp only [Bool.and_false, Bool.false_and]
      clear hc0 hcn
      go_enter Tryz.func30, Tryz.ntmps30
      go_wp2_with fail
      refine (HN.out _).mono ?_
      rintro e w1 ⟨rfl, rfl⟩
      go_wp2_with fail
      go_ret
      exact ⟨rfl, HB.out⟩
    case pos =>
    have u1 : decide (c < (n : Int)) = true := by simpa using hcn
    by_cases hv0 : -1000 ≤ v
    case neg =>
      have u2 : decide (-1000 ≤ v) = false := by simpa using hv0
      rw [u2]
      simp only [Bool.and_false, Bool.false_and]
      clear hc0 hcn hv0
      go_enter Tryz.func30, Tryz.ntmps30
      go_wp2_with fail
      refine (HN.out _).mono ?_
      rintro e w1 ⟨rfl, rfl⟩
      go_wp2_with fail
      go_ret
      exact ⟨rfl, HB.out⟩
    case pos =>
    have u2 : decide (-1000 ≤ v) = true := by simpa using hv0
    by_cases hv1 : v ≤ 1000
    case neg =>
      have u3 : decide (v ≤ 1000) = false := by simpa using hv1
      rw [u3]
      simp only [Bool.and_false]
      clear hc0 hcn hv0 hv1
      go_enter Tryz.func30, Tryz.ntmps30
      go_wp2_with fail
      refine (HN.out _).mono ?_
      rintro e w1 ⟨rfl, rfl⟩
      go_wp2_with fail
      go_ret
      exact ⟨rfl, HB.out⟩
    case pos =>
    have u3 : decide (v ≤ 1000) = true := by simpa using hv1
    rw [u0, u1, u2, u3]
    clear hc0 hcn hv0 hv1
    go_enter Tryz.func30, Tryz.ntmps30
    go_wp2_with fail
    refine (HN.out _).mono ?_
    rintro e w1 ⟨rfl, rfl⟩
    go_wp2_with fail
    go_ret
    exact ⟨rfl, HB.out⟩

/-- What prog's package variables hold: errors that are not nil, the words of acts. -/
structure LaidP (w : World) : Prop where
  word : Laid w
  errs : ∀ g, g ∈ ([] : List Nat)
    ++ [1]
   → ∃ a, w.cell? ⟨g, 0, none⟩ = some (.iface 172 (.pointer (some a)))
  acts : ∀ (j : Nat) x, actTab[j]? = some x → w.cell? ⟨0, j, none⟩ = some (str x)
theorem LaidP.below {w w' : World} (h : LaidP w) (hb : Below w.heap.size w w') : LaidP w' :=
  ⟨h.word.below hb, fun g hg => by
    obtain ⟨a, ha⟩ := h.errs g hg
    exact ⟨a, (hb.cell (p := ⟨g, 0, none⟩) (World.block_lt_of_cell? w _ ha)).trans ha⟩, fun j x hx => (hb.cell (p := ⟨0, j, none⟩) (World.block_lt_of_cell? w _ (h.acts j x hx))).trans (h.acts j x hx)⟩
theorem actsOk_iff (n : Nat) : ∀ (l : List PAct), actsOk n l = true ↔ ∀ m a, l[m]? = some a → actOk a n (decide (m + 1 = l.length)) = true
  | [] => by simp [actsOk]
  | a :: r => by
    have ih := actsOk_iff n r
    unfold actsOk
    rw [Bool.and_eq_true, ih]
    constructor
    · rintro ⟨h1, h2⟩ m b hm
      cases m with
      | zero =>
        obtain rfl : a = b := by simpa using hm
        have e : decide (0 + 1 = (a :: r).length) = r.isEmpty := by cases r <;> simp
        rw [e]
        exact h1
      | succ m =>
        have := h2 m b (by simpa using hm)
        simpa using this
    · intro h
      refine ⟨?_, fun m b hm => ?_⟩
      · have := h 0 a rfl
        have e : decide (0 + 1 = (a :: r).length) = r.isEmpty := by cases r <;> simp
        rwa [e] at this
      · have := h (m + 1) b (by simpa using hm)
        simpa using this
/-- One of the package's errors, just where it is not ok. -/
def ErrB (ok : Bool) (v : Value) : Prop := (ok = true ∧ v = .nilIface) ∨ (ok = false ∧ ∃ a, v = .iface 172 (.pointer (some a)))
theorem pgOk_iff (p : Pg) : pgOk p = true ↔ 1 ≤ p.cells.length ∧ p.cells.length ≤ 4 ∧ 1 ≤ p.threads.length ∧ p.threads.length ≤ 4 ∧ (∀ n ∈ p.cells, cellOk n = true) ∧ ∀ t ∈ p.threads, thrOk p.cells.length t = true := by
  constructor
  · exact pgOk_parts
  · rintro ⟨h1, h2, h3, h4, h5, h6⟩
    unfold pgOk
    simp only [Bool.and_eq_true, decide_eq_true_eq, List.all_eq_true]
    exact ⟨⟨⟨⟨⟨h1, h2⟩, h3⟩, h4⟩, h5⟩, h6⟩
theorem thrOk_iff (n : Nat) (t : List (List PAct)) : thrOk n t = true ↔ t.length ≤ 3 ∧ ∀ l ∈ t, txOk n l = true := by
  unfold thrOk
  simp
theorem txOk_iff (n : Nat) (l : List PAct) : txOk n l = true ↔ 1 ≤ l.length ∧ l.length ≤ 6 ∧ actsOk n l = true := by
  unfold txOk
  simp only [Bool.and_eq_true, decide_eq_true_eq]
  exact ⟨fun ⟨⟨a, b⟩, c⟩ => ⟨a, b, c⟩, fun ⟨a, b, c⟩ => ⟨⟨a, b⟩, c⟩⟩

set_option maxHeartbeats 16000000 in
set_option maxRecDepth 100000 in
theorem pgValid (vc vt : Value) (p : Pg) (w : World) (hp : PgAt w vc vt p) (hL : LaidP w) :
    Calls Tryz.prog 18 #[.agg #[vc, vt]] w fun e w' => ∃ v, e = .returned v ∧ ErrB (pgOk p) v ∧ Below w.heap.size w w' := by
  obtain ⟨hpc, hpt⟩ := hp
  obtain ⟨Ac, cc, rfl⟩ := hpc.shape
  obtain ⟨At, ct, rfl⟩ := hpt.shape
  rw [ints_len] at hpc ⊢
  have HPC := hid hpc
  have HPT := hid hpt
  obtain ⟨ae, hae⟩ := hL.errs 1 (by simp)
  have HAE := hid hae
  have HB0 := hid (Blk.new w 25 #[.slice Ac p.cells.length cc, .slice At p.threads.length ct])
  have HW0 := hid ((Below.refl w.heap.size w).alloc (Nat.le_refl _) (.cells #[.slice Ac p.cells.length cc, .slice At p.threads.length ct] 25))
  have lE := World.block_lt_of_cell? w _ hae
  clear hpc hpt hL
  by_cases hc : 1 ≤ p.cells.length ∧ p.cells.length ≤ 4 ∧ 1 ≤ p.threads.length ∧ p.threads.length ≤ 4
  case neg =>
    have hno := hid (show pgOk p = false by
      rw [← Bool.not_eq_true, pgOk_iff]
      exact fun h => hc ⟨h.1, h.2.1, h.2.2.1, h.2.2.2.1⟩)
    go_enter Tryz.func18, Tryz.ntmps18
    by_cases h1 : p.cells.length < 1
    · clear hc
      go_wp2_with fail
      go_ret
      exact ⟨_, rfl, .inr ⟨hno.out, ae, rfl⟩, HW0.out⟩
    · by_cases h2 : 4 < p.cells.length
      · clear hc
        go_wp2_with fail
        go_ret
        exact ⟨_, rfl, .inr ⟨hno.out, ae, rfl⟩, HW0.out⟩
      · by_cases h3 : p.threads.length < 1
        · clear hc
          go_wp2_with fail
          go_ret
          exact ⟨_, rfl, .inr ⟨hno.out, ae, rfl⟩, HW0.out⟩
        · have h4 : 4 < p.threads.length := by omega
          clear hc
          go_wp2_with fail
          go_ret
          exact ⟨_, rfl, .inr ⟨hno.out, ae, rfl⟩, HW0.out⟩
  case pos =>
  obtain ⟨c1, c4, d1, d4⟩ := hc
  go_enter Tryz.func18, Tryz.ntmps18
  go_wp2_with fail
  go_loopw [37] (fun si wr => ∃ k : Nat, si = .int .i64 k ∧ k ≤ p.cells.length ∧ (∀ n ∈ p.cells.take k, cellOk n = true) ∧ wr = w.alloc (.cells #[.slice Ac p.cells.length cc, .slice At p.threads.length ct] 25)) (fun si _ => 5 - (intOf si).toNat)
  case atStart => exact ⟨0, rfl, Nat.zero_le _, by simp, rfl⟩
  case round =>
    obtain ⟨k, rfl, hk, hok, rfl⟩ := hrel
    have HO := hid hok
    clear hok
    by_cases hlt : k < p.cells.length
    · obtain ⟨n, hn⟩ : ∃ n, p.cells[k]? = some n := ⟨p.cells[k], List.getElem?_eq_getElem hlt⟩
      obtain ⟨b, o, rfl, hcell, _, hcap⟩ := reads_at (HPC.out) (j := k) (u := .int .i64 n) (by simp [ints, hn])
      have lB := World.block_lt_of_cell? w _ hcell
      have HN := hid hn
      clear hn
      by_cases h1 : n < -1000000
      · have t1 : decide (n < -1000000) = true := by simpa using h1
        have hno := hid (show pgOk p = false by
          rw [← Bool.not_eq_true, pgOk_iff]
          intro h
          have := h.2.2.2.2.1 n (List.mem_of_getElem? HN.out)
          unfold cellOk at this
          simp at this
          omega)
        clear h1
        go_wp2_with fail
        go_ret
        exact ⟨_, rfl, .inr ⟨hno.out, ae, rfl⟩, HW0.out⟩
      · have t1 : decide (n < -1000000) = false := by simpa using h1
        by_cases h2 : 1000000 < n
        · have t2 : decide (1000000 < n) = true := by simpa using h2
          have hno := hid (show pgOk p = false by
            rw [← Bool.not_eq_true, pgOk_iff]
            intro h
            have := h.2.2.2.2.1 n (List.mem_of_getElem? HN.out)
            unfold cellOk at this
            simp at this
            omega)
          clear h1 h2
          go_wp2_with fail
          go_ret
          exact ⟨_, rfl, .inr ⟨hno.out, ae, rfl⟩, HW0.out⟩
        · have t2 : decide (1000000 < n) = false := by simpa using h2
          have hcn := hid (show cellOk n = true by unfold cellOk; simp; omega)
          clear h1 h2
          go_wp2_with fail
          go_roundw
          case rel =>
            refine ⟨k + 1, by go_num, by omega, fun m hm => ?_, trivial⟩
            rw [List.take_add_one, HN.out] at hm
            rcases List.mem_append.1 hm with hm | hm
            · exact HO.out m hm
            · obtain rfl : m = n := by simpa using hm
              exact hcn.out
          case measure => simp [intOf] <;> omega
    · obtain rfl : k = p.cells.length := by omega
      have HCO := hid (show ∀ n ∈ p.cells, cellOk n = true from fun n hn => HO.out n (by rwa [List.take_length]))
      have hae0 := (HW0.out.cell (p := ⟨1, 0, none⟩) lE).trans HAE.out
      have HPT0 := hid (ReadsH.below HPT.out HW0.out)
      have lE0 : 1 < (w.alloc (.cells #[.slice Ac p.cells.length cc, .slice At p.threads.length ct] 25)).heap.size := by simp; omega
      have HCL := hid (And.intro c1 (And.intro c4 (And.intro d1 d4)))
      clear HO hlt hk HPC HPT hae lE
      go_wp2_with fail
      generalize w.alloc (.cells #[.slice Ac p.cells.length cc, .slice At p.threads.length ct] 25) = w0 at *
      go_loopw [52] (fun si wr => ∃ k : Nat, si = .int .i64 k ∧ k ≤ p.threads.length ∧ (∀ t ∈ p.threads.take k, thrOk p.cells.length t = true) ∧ Below w0.heap.size w0 wr) (fun si _ => 5 - (intOf si).toNat)
      case atStart => exact ⟨0, rfl, Nat.zero_le _, by simp, Below.refl _ _⟩
      case round =>
        obtain ⟨k, rfl, hk, hok, hbr⟩ := hrel
        have HO := hid hok
        have HBR := hid hbr
        have HWX := hid (HW0.out.trans (hbr.mono HW0.out.size))
        have hEr := (hbr.cell (p := ⟨1, 0, none⟩) lE0).trans hae0
        have HBx := hid (HB0.out.below hbr HB0.out.lt)
        have lW := HBx.out.lt
        have x0 := HBx.out.cell 0
        have x1 := HBx.out.cell 1
        clear hok
        by_cases hlt : k < p.threads.length
        · obtain ⟨t, ht⟩ : ∃ t, p.threads[k]? = some t := ⟨p.threads[k], List.getElem?_eq_getElem hlt⟩
          obtain ⟨b1, o1, u1, rfl, hcell, hR, _, hcap⟩ := HPT0.out.at ht
          obtain ⟨A1, cp1, rfl⟩ := hR.shape
          have hcr := (hbr.cell (p := ⟨b1, o1 + k, none⟩) (World.block_lt_of_cell? w0 _ hcell)).trans hcell
          have HT := hid ht
          have HR1 := hid hR
          clear ht hR hcell hbr
          by_cases h3 : 3 < t.length
          · have hno := hid (show pgOk p = false by
              rw [← Bool.not_eq_true, pgOk_iff]
              intro h
              have := (thrOk_iff _ _).1 (h.2.2.2.2.2 t (List.mem_of_getElem? HT.out))
              omega)
            go_wp2_with fail
            go_ret
            exact ⟨_, rfl, .inr ⟨hno.out, ae, rfl⟩, HWX.out⟩
          · obtain ⟨wo, rfl⟩ : ∃ wo : World, wo = wr := ⟨_, rfl⟩
            go_wp2_with fail
            go_loopw [62] (fun si wr => ∃ j : Nat, si = .int .i64 j ∧ j ≤ t.length ∧ (∀ l ∈ t.take j, txOk p.cells.length l = true) ∧ Below w0.heap.size w0 wr) (fun si _ => 5 - (intOf si).toNat)
            case atStart => exact ⟨0, rfl, Nat.zero_le _, by simp, HBR.out⟩
            case round =>
              obtain ⟨j, rfl, hj, hok2, hbr2⟩ := hrel
              have HO2 := hid hok2
              have HBR2 := hid hbr2
              clear HWX hEr HBx lW x0 x1 hcr
              have HWX := hid (HW0.out.trans (hbr2.mono HW0.out.size))
              have hEr := (hbr2.cell (p := ⟨1, 0, none⟩) lE0).trans hae0
              have HBx := hid (HB0.out.below hbr2 HB0.out.lt)
              have lW := HBx.out.lt
              have x0 := HBx.out.cell 0
              have x1 := HBx.out.cell 1
              clear hok2
              by_cases hlt2 : j < t.length
              · obtain ⟨l, hl⟩ : ∃ l, t[j]? = some l := ⟨t[j], List.getElem?_eq_getElem hlt2⟩
                obtain ⟨b2, o2, u2, rfl, hcell, hR, _, hcap2⟩ := HR1.out.at hl
                obtain ⟨A2, cp2, rfl⟩ := hR.shape
                have hcr := (hbr2.cell (p := ⟨b2, o2 + j, none⟩) (World.block_lt_of_cell? w0 _ hcell)).trans hcell
                have HLL := hid hl
                have HR2 := hid hR
                clear hl hR hcell hbr2
                by_cases h1 : l.length < 1
                · have hno := hid (show pgOk p = false by
                    rw [← Bool.not_eq_true, pgOk_iff]
                    intro h
                    have := (txOk_iff _ _).1 (((thrOk_iff _ _).1 (h.2.2.2.2.2 t (List.mem_of_getElem? HT.out))).2 l (List.mem_of_getElem? HLL.out))
                    omega)
                  go_wp2_with fail
                  go_ret
                  exact ⟨_, rfl, .inr ⟨hno.out, ae, rfl⟩, HWX.out⟩
                · by_cases h6 : 6 < l.length
                  · have hno := hid (show pgOk p = false by
                      rw [← Bool.not_eq_true, pgOk_iff]
                      intro h
                      have := (txOk_iff _ _).1 (((thrOk_iff _ _).1 (h.2.2.2.2.2 t (List.mem_of_getElem? HT.out))).2 l (List.mem_of_getElem? HLL.out))
                      omega)
                    go_wp2_with fail
                    go_ret
                    exact ⟨_, rfl, .inr ⟨hno.out, ae, rfl⟩, HWX.out⟩
                  · obtain ⟨wq, rfl⟩ : ∃ wq : World, wq = wr := ⟨_, rfl⟩
                    go_wp2_with fail
                    go_loopw [77] (fun si wr => ∃ m : Nat, si = .int .i64 m ∧ m ≤ l.length ∧ (∀ q a, q < m → l[q]? = some a → actOk a p.cells.length (decide (q + 1 = l.length)) = true) ∧ Below w0.heap.size w0 wr) (fun si _ => 8 - (intOf si).toNat)
                    case atStart => exact ⟨0, rfl, Nat.zero_le _, by simp, HBR2.out⟩
                    case round =>
                      obtain ⟨m, rfl, hm, hok3, hbr3⟩ := hrel
                      have HO3 := hid hok3
                      have HBR3 := hid hbr3
                      clear HWX hEr HBx lW x0 x1 hcr
                      have HWX := hid (HW0.out.trans (hbr3.mono HW0.out.size))
                      have hEr := (hbr3.cell (p := ⟨1, 0, none⟩) lE0).trans hae0
                      have lEr := World.block_lt_of_cell? wr _ hEr
                      have HBx := hid (HB0.out.below hbr3 HB0.out.lt)
                      have lW := HBx.out.lt
                      have x0 := HBx.out.cell 0
                      have x1 := HBx.out.cell 1
                      clear hok3
                      by_cases hlt3 : m < l.length
                      · obtain ⟨a, ha⟩ : ∃ a, l[m]? = some a := ⟨l[m], List.getElem?_eq_getElem hlt3⟩
                        obtain ⟨b3, o3, rfl, e0, e1, e2, _, hcap3⟩ := HR2.out.at ha
                        have y0 := (hbr3.cell (p := ⟨b3, o3 + m * 3, none⟩) (World.block_lt_of_cell? w0 _ e0)).trans e0
                        have y1 := (hbr3.cell (p := ⟨b3, o3 + m * 3 + 1, none⟩) (World.block_lt_of_cell? w0 _ e1)).trans e1
                        have y2 := (hbr3.cell (p := ⟨b3, o3 + m * 3 + 2, none⟩) (World.block_lt_of_cell? w0 _ e2)).trans e2
                        obtain ⟨lb, hlb⟩ : ∃ lb : Bool, decide (m + 1 = l.length) = lb := ⟨_, rfl⟩
                        have tl : ((m : Int) == (l.length : Int) - 1) = lb := by
                          rw [← hlb]
                          by_cases h : m + 1 = l.length
                          · have : (m : Int) = (l.length : Int) - 1 := by omega
                            simp [h, this]
                          · have : ¬ (m : Int) = (l.length : Int) - 1 := by omega
                            simp [h, this]
                        have HAC := hid (fun W => actCall a p.cells.length lb W)
                        have HA := hid ha
                        have HLB := hid hlb
                        unfold actArr at HAC
                        clear ha e0 e1 e2 hlb hbr3
                        go_wp2_with fail
                        refine (HAC.out _).mono ?_
                        rintro e wy ⟨rfl, hby⟩
                        have HWY := hid (below_al HWX.out HWX.out.size hby)
                        have HBY := hid (below_al HBR3.out HBR3.out.size hby)
                        cases hak : actOk a p.cells.length lb with
                        | false =>
                          have hno := hid (show pgOk p = false by
                            rw [← Bool.not_eq_true, pgOk_iff]
                            intro h
                            have h2 := (txOk_iff _ _).1 (((thrOk_iff _ _).1 (h.2.2.2.2.2 t (List.mem_of_getElem? HT.out))).2 l (List.mem_of_getElem? HLL.out))
                            have h3 := (actsOk_iff _ _).1 h2.2.2 m a HA.out
                            rw [HLB.out, hak] at h3
                            cases h3)
                          have hEy := (HBY.out.cell (p := ⟨1, 0, none⟩) lE0).trans hae0
                          clear hak hby
                          go_wp2_with fail
                          go_ret
                          exact ⟨_, rfl, .inr ⟨hno.out, ae, rfl⟩, HWY.out⟩
                        | true =>
                          have HAK := hid hak
                          clear hak hby
                          go_wp2_with fail
                          go_roundw
                          case rel =>
                            refine ⟨m + 1, by go_num, by omega, fun q a2 hq ha2 => ?_, HBY.out⟩
                            by_cases hqm : q = m
                            · subst hqm
                              rw [HA.out] at ha2
                              injection ha2 with ha2
                              rw [← ha2, HLB.out]
                              exact HAK.out
                            · exact HO3.out q a2 (by omega) ha2
                          case measure => simp [intOf] <;> omega
                      · obtain rfl : m = l.length := by omega
                        have HTX := hid (show txOk p.cells.length l = true from (txOk_iff _ _).2 ⟨by omega, by omega, (actsOk_iff _ _).2 (fun q a hq => HO3.out q a (List.getElem?_eq_some_iff.1 hq).1 hq)⟩)
                        clear hlt3 hm hbr3
                        go_wp2_with fail
                        go_roundw
                        case rel =>
                          refine ⟨j + 1, by go_num, by omega, fun x hx => ?_, HBR3.out⟩
                          rw [List.take_add_one, HLL.out] at hx
                          rcases List.mem_append.1 hx with hx | hx
                          · exact HO2.out x hx
                          · obtain rfl : x = l := by simpa using hx
                            exact HTX.out
                        case measure => simp [intOf] <;> omega
              · obtain rfl : j = t.length := by omega
                have HTO := hid (show thrOk p.cells.length t = true from (thrOk_iff _ _).2 ⟨by omega, fun l hl => HO2.out l (by rwa [List.take_length])⟩)
                clear hlt2 hj hbr2
                go_wp2_with fail
                go_roundw
                case rel =>
                  refine ⟨k + 1, by go_num, by omega, fun x hx => ?_, HBR2.out⟩
                  rw [List.take_add_one, HT.out] at hx
                  rcases List.mem_append.1 hx with hx | hx
                  · exact HO.out x hx
                  · obtain rfl : x = t := by simpa using hx
                    exact HTO.out
                case measure => simp [intOf] <;> omega
        · obtain rfl : k = p.threads.length := by omega
          have hyes := hid (show pgOk p = true from (pgOk_iff p).2 ⟨HCL.out.1, HCL.out.2.1, HCL.out.2.2.1, HCL.out.2.2.2, HCO.out, fun t ht => HO.out t (by rwa [List.take_length])⟩)
          clear hlt hk hbr
          go_wp2_with fail
          go_ret
          exact ⟨_, rfl, .inl ⟨hyes.out, rfl⟩, HWX.out⟩
end Go.Proofs.YtgfmlaflochffaaGreatDoor
