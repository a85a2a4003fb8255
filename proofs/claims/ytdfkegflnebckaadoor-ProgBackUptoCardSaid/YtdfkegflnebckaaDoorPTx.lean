/-
  prog.kindOf, prog.alone, prog.transaction: what the words behind tx say. Of at most 10^9 words, each of at most 10^9 bytes.
-/
import Derived.Test.YtdfkegflnebckaaDoorPValid
import Derived.Test.YtdfkegflnebckaaDoorOne
import Derived.Deep.QuietTactic
import Derived.BigQuiet
import Derived.RegionTactic
import Derived.Deep.AppendLies
namespace Go.Proofs.YtdfkegflnebckaaDoor
open Go.RowKit Go.Maps W
attribute [local go_sem ↓] Go.wp_at_zero Go.wp_at_succ

set_option maxHeartbeats 1000000 in
theorem kindOfCall (x : List UInt8) (w : World) (hL : LaidP w) : Calls Tryd.prog 54 #[.string ⟨x.toArray⟩] w fun e w' => e = .returned (.int .i64 (kindOf x : Int)) ∧ w = w' := by
  have HA := hid hL.acts
  have HHit : Hid (∀ k, actTab[k]? = some x → kindOf x = k + 1) := hid (fun k hk => by
    have hlt : k < 4 := (List.getElem?_eq_some_iff.1 hk).1
    rcases (show k = 0 ∨ k = 1 ∨ k = 2 ∨ k = 3 by omega) with rfl | rfl | rfl | rfl
    all_goals
      have := Option.some.inj hk
      rw [← this]
      decide)
  have HMiss : Hid ((∀ j, j < 4 → actTab[j]? ≠ some x) → kindOf x = 0) := hid (fun h => by
    have h0 : x ≠ wRead := fun e => h 0 (by omega) (by rw [e]; rfl)
    have h1 : x ≠ wWrite := fun e => h 1 (by omega) (by rw [e]; rfl)
    have h2 : x ≠ wAdd := fun e => h 2 (by omega) (by rw [e]; rfl)
    have h3 : x ≠ wCancel := fun e => h 3 (by omega) (by rw [e]; rfl)
    unfold kindOf
    rw [if_neg h0, if_neg h1, if_neg h2, if_neg h3])
  obtain ⟨kk, hkk⟩ : ∃ kk, kindOf x = kk := ⟨_, rfl⟩
  rw [hkk] at HHit HMiss ⊢
  clear hL hkk
  go_enter Tryd.func54, Tryd.ntmps54
  go_wp2
  go_loop [4] (fun i => ∃ k : Nat, i = .int .i64 k ∧ k ≤ 4 ∧ ∀ j, j < k → actTab[j]? ≠ some x) (fun i => 4 - (intOf i).toNat)
  case atStart => exact ⟨0, rfl, Nat.zero_le _, by omega⟩
  case round =>
    obtain ⟨k, rfl, hk, hj⟩ := hrel
    have HJ := hid hj
    clear hj
    by_cases hlt : k < 4
    · obtain ⟨y, hy⟩ : ∃ y, actTab[k]? = some y := ⟨actTab[k]'(show k < 4 from hlt), List.getElem?_eq_getElem _⟩
      have hc := HA.out k y hy
      have HY := hid hy
      unfold str at hc
      clear hy
      by_cases hxy : y = x
      · subst hxy
        have hh := hid (HHit.out k HY.out)
        go_wp2
        go_ret
        exact ⟨by rw [hh.out]; rfl, rfl⟩
      · have t1 : (y == x) = false := by simpa using hxy
        have HN := hid (show ∀ j, j < k + 1 → actTab[j]? ≠ some x from fun j hj e => by
          rcases Nat.lt_or_ge j k with h | h
          · exact HJ.out j h e
          · obtain rfl : j = k := by omega
            rw [HY.out] at e
            injection e with e
            exact hxy e)
        clear hxy
        go_wp2
        go_round
        case rel => exact ⟨k + 1, by go_num, by omega, HN.out⟩
        case measure => simp [intOf] <;> omega
    · have hm := hid (HMiss.out (fun j hj => HJ.out j (by omega)))
      go_wp2
      go_ret
      exact ⟨by rw [hm.out]; rfl, rfl⟩

/-- Acts as cells. -/
def flatA (l : List PAct) : List Value := l.flatMap fun a => (actArr a).toList
theorem actArr_one (a : PAct) : ∀ u ∈ (actArr a).toList, u.oneCell' = true := by
  intro u hu
  simp only [actArr, List.mem_cons, List.not_mem_nil, or_false] at hu
  rcases hu with rfl | rfl | rfl <;> rfl
theorem news_act (w : World) (a : PAct) : ∀ (j : Nat) u, (actArr a).toList[j]? = some u → (w.alloc (.cells (actArr a) 57)).cell? ((⟨w.heap.size, 0, none⟩ : Addr).add j) = some u :=
  World.news_of_block (heap_alloc_new w (.cells (actArr a) 57))
theorem flatA_snoc (l : List PAct) (a : PAct) : flatA (l ++ [a]) = flatA l ++ (actArr a).toList := by simp [flatA]
theorem flatA_at : ∀ (l : List PAct) (k : Nat) (a : PAct), l[k]? = some a → ∀ r, r < 3 → (flatA l)[k * 3 + r]? = (actArr a)[r]?
  | [], k, a, h, _, _ => by simp at h
  | g :: l, 0, a, h, r, hr => by
    obtain rfl : g = a := by simpa using h
    unfold flatA
    rw [List.flatMap_cons, List.getElem?_append_left (by simp [actArr]; omega)]
    simp
  | g :: l, k + 1, a, h, r, hr => by
    have h2 := flatA_at l k a (by simpa using h) r hr
    unfold flatA at h2 ⊢
    rw [List.flatMap_cons, List.getElem?_append_right (by simp [actArr]; omega)]
    rw [← h2]
    congr 1
    simp [actArr]
    omega
theorem infoAct : (Tryd.prog.info? 57).map (fun i => (i.zero, i.size, i.bytes)) = some (some (.agg #[.int .i64 0, .int .i64 0, .int .i64 0]), 3, 24) := by kernel_rfl
/-- What is read behind an act's word, q numbers having been read. -/
def readMore (nn : Nat) : Nat → Nat → PAct → List (List UInt8) → Option (List PAct)
  | 0, _, a, rest => (readActs rest).map (a :: ·)
  | f + 1, q, a, rest => match rest with
    | [] => none
    | c :: r => match number c with
      | none => none
      | some n => readMore nn f (q + 1) (if q = 0 then { a with cell := n } else { a with val := n }) r
theorem readActs_more (x : List UInt8) (r : List (List UInt8)) : readActs (x :: r) = if kindOf x = 0 then none else readMore (numsOf (kindOf x)) (numsOf (kindOf x)) 0 ⟨kindOf x, 0, 0⟩ r := by
  rw [readActs.eq_def]
  simp only
  by_cases h0 : kindOf x = 0
  · rw [if_pos h0, if_pos h0]
  · rw [if_neg h0, if_neg h0]
    rcases nums_cases (kindOf x : Int) with ⟨h, _⟩ | ⟨h, _⟩ | ⟨h, _⟩
    · rw [h, if_pos rfl]; rfl
    · rw [h]
      simp only [Nat.one_ne_zero, if_false, if_true]
      cases r with
      | nil => rfl
      | cons c r =>
        simp only [readMore]
        cases number c <;> rfl
    · rw [h]
      simp only [show ¬ (2 : Nat) = 0 by omega, show ¬ (2 : Nat) = 1 by omega, if_false]
      cases r with
      | nil => rfl
      | cons c r =>
        simp only [readMore]
        cases number c with
        | none => rfl
        | some n =>
          simp only
          cases r with
          | nil => rfl
          | cons v r =>
            simp only
            cases number v <;> rfl
/-- The slice without its first element. -/
theorem reads_tail {w : World} {b o n c : Nat} {x : Value} {xs : List Value} (h : Reads w (.slice (some ⟨b, o, none⟩) n c) (x :: xs)) : Reads w (.slice (some ⟨b, o + 1, none⟩) (n - 1) (c - 1)) xs := by
  obtain ⟨A, c1, b1, o1, he, h2, h3, h4, h5⟩ := h
  injection he with e1 e2 e3
  subst e1 e3
  have h6 := h3 _ rfl (by simp)
  injection h6 with h7 h8
  subst h7 h8
  simp only [List.length_cons] at e2 h4
  refine ⟨some ⟨b, o + 1, none⟩, c - 1, b, o + 1, by rw [e2]; simp, by simp, fun a ha _ => by injection ha with ha; exact ha.symm, by omega, fun j u hj => ?_⟩
  have := h5 (j + 1) u (by simpa using hj)
  rwa [show o + 1 + j = o + (j + 1) by omega]
theorem reads_none {w : World} {A : Option Addr} {b o c : Nat} (hA : A = some ⟨b, o, none⟩) : Reads w (.slice A 0 c) [] := by
  subst hA
  exact ⟨some ⟨b, o, none⟩, c, b, o, rfl, by simp, fun a ha _ => by injection ha with ha; exact ha.symm, Nat.zero_le _, by simp⟩
/-- How long a slice is. -/
def sliceLen : Value → Nat
  | .slice _ n _ => n
  | _ => 0
/-- One of the errors. -/
def someErr (v : Value) : Prop := ∃ a, v = .iface 162 (.pointer (some a))
/-- What transaction tells. -/
def TxOut (w' : World) (B : Nat) (ws : List (List UInt8)) (x v : Value) : Prop :=
  (∃ l, ws ≠ [] ∧ readActs ws = some l ∧ v = .nilIface ∧ w'.ownsRow B 57 3 x l.length (flatA l)) ∨ ((ws = [] ∨ readActs ws = none) ∧ someErr v)

set_option maxHeartbeats 16000000 in
set_option maxRecDepth 100000 in
theorem txCall (lv : Value) (ws : List (List UInt8)) (w : World) (hv : Reads w lv (txs ws)) (hlen : ws.length ≤ 1000000000) (hws : ∀ x ∈ ws, x.length ≤ 1000000000) (hL : LaidP w) :
    Calls Tryd.prog 39 #[lv] w fun e w' => ∃ x v, e = .returned (.tuple #[x, v]) ∧ TxOut w' w.heap.size ws x v ∧ Below w.heap.size w w' := by
  obtain ⟨i0, hi, hz0, hz1, hz2⟩ := info_parts infoAct
  obtain ⟨A, c, rfl⟩ := hv.shape
  rw [txs_len] at hv ⊢
  have HL := hid hL
  have HV := hid hv
  have HWS := hid hws
  have hN := fun W a => neq_nil 162 a (.inr rfl) W
  clear hv hL hws
  cases ws with
  | nil =>
    obtain ⟨a, ha⟩ := HL.out.errs 5 (by simp)
    go_enter Tryd.func39, Tryd.ntmps39
    go_wp2_with fail
    go_quiet (fail)
    go_wp2_with fail
    go_ret2
    exact ⟨_, _, rfl, .inr ⟨.inl rfl, a, rfl⟩, ((Only.refl [] w).drewN _).below_of (Nat.le_refl _) (by simp)⟩
  | cons x0 r0 =>
    obtain ⟨ws, hws0⟩ : ∃ ws, x0 :: r0 = ws := ⟨_, rfl⟩
    rw [hws0] at HV HWS hlen ⊢
    have hpos : 0 < ws.length := by rw [← hws0]; simp
    have HNE := hid (show ws ≠ [] by rw [← hws0]; simp)
    have tz : ((ws.length : Int) == 0) = false := beq_eq_false_iff_ne.2 (by omega)
    clear hws0
    go_enter Tryd.func39, Tryd.ntmps39
    go_wp2_with fail
    go_loopw [0, 4] (fun sl so wr => ∃ (rest : List (List UInt8)) (pre : List PAct) (A : Option Addr) (c : Nat) (A' : Option Addr) (c' : Nat), sl = .slice A rest.length c ∧ Reads w (.slice A rest.length c) (txs rest) ∧ (∃ k, rest = ws.drop k) ∧ readActs ws = (readActs rest).map (pre ++ ·) ∧
      so = .slice A' pre.length c' ∧ wr.ownsRow w.heap.size 57 3 (.slice A' pre.length c') pre.length (flatA pre) ∧ pre.length + rest.length ≤ ws.length ∧ Below w.heap.size w wr) (fun sl _ _ => sliceLen sl)
    case atStart => exact ⟨ws, [], A, c, none, 0, rfl, HV.out, ⟨0, rfl⟩, by simp, rfl, World.ownsRow_nil _ _ _ _, by simp, Below.refl _ _⟩
    case round =>
      obtain ⟨rest, pre, A, c, A', c', rfl, hv, ⟨kd, hkd⟩, heq, rfl, hown, hpl, hbr⟩ := hrel
      have HVR := hid hv
      have HEQ := hid heq
      have HO := hid hown
      have HBR := hid hbr
      have HKD := hid hkd
      clear hv heq hown hkd
      cases rest with
      | nil =>
        have HR := hid (show readActs ws = some pre by rw [HEQ.out]; simp [readActs])
        clear hbr
        go_wp2_with fail
        go_ret2
        exact ⟨_, _, rfl, .inl ⟨pre, HNE.out, HR.out, rfl, HO.out⟩, HBR.out⟩
      | cons x r =>
        obtain ⟨b, o, rfl⟩ := HVR.out.addr (by simp [txs])
        have hx0 : wr.cell? ⟨b, o, none⟩ = some (str x) := by
          obtain ⟨b', o', e, h, _, _⟩ := reads_at HVR.out (j := 0) (u := str x) (by simp [txs])
          injection e with e
          injection e with e1 e2
          subst e1 e2
          exact (hbr.cell (p := ⟨b, o, none⟩) (World.block_lt_of_cell? w ⟨b, o, none⟩ h)).trans h
        have hcap := HVR.out.cap
        have hxl := HWS.out x (by
          have : x ∈ ws.drop kd := by rw [← HKD.out]; simp
          exact List.mem_of_mem_drop this)
        have HKC := hid (fun W (hW : Below w.heap.size w W) => kindOfCall x W (HL.out.below hW))
        unfold str at hx0
        by_cases hk0 : kindOf x = 0
        · have HR := hid (show readActs ws = none by rw [HEQ.out, readActs_more, if_pos hk0]; rfl)
          rw [hk0] at HKC
          obtain ⟨a, ha⟩ := (HL.out.below hbr).errs 4 (by simp)
          have lG := World.block_lt_of_cell? _ _ ha
          clear hk0 hbr
          go_wp2_with fail
          refine (HKC.out _ HBR.out).mono ?_
          rintro e w1 ⟨rfl, rfl⟩
          go_wp2_with fail
          go_quiet (fail)
          rename_i nq
          go_wp2_with fail
          go_ret2
          exact ⟨_, _, rfl, .inr ⟨.inr HR.out, a, rfl⟩, below_only (HBR.out.alloc HBR.out.size _) ((Only.refl [] _).drewN nq) (HBR.out.alloc HBR.out.size _).size (by simp)⟩
        · obtain ⟨wo, rfl⟩ : ∃ wo : World, wo = wr := ⟨_, rfl⟩
          obtain ⟨kk, hkk⟩ : ∃ kk, kindOf x = kk := ⟨_, rfl⟩
          have HRM := hid (show readActs ws = (readMore (numsOf (kk : Int)) (numsOf (kk : Int)) 0 ⟨kk, 0, 0⟩ r).map (pre ++ ·) by rw [HEQ.out, readActs_more, if_neg hk0, hkk])
          rw [hkk] at HKC hk0
          have t0 : ((kk : Int) == 0) = false := by simp; omega
          have HNS := hid (fun W => numsCall (kk : Int) W)
          have hn2 : numsOf (kk : Int) ≤ 2 := by rcases nums_cases (kk : Int) with ⟨h, _⟩ | ⟨h, _⟩ | ⟨h, _⟩ <;> omega
          obtain ⟨nn, hnn⟩ : ∃ nn, numsOf (kk : Int) = nn := ⟨_, rfl⟩
          rw [hnn] at HRM HNS hn2
          have HX := hid (HBR.out.alloc HBR.out.size (.cells (actArr ⟨kk, 0, 0⟩) 57))
          have HBX := hid (Blk.new wo 57 (actArr ⟨kk, 0, 0⟩))
          have HOX := hid (HO.out.alloc (.cells (actArr ⟨kk, 0, 0⟩) 57))
          have HAP := hid (show (Value.slice A' pre.length c').ownBlock ≠ some wo.heap.size from fun e => by have := (row_own HO.out e).2; omega)
          have HRX := hid HVR.out
          have hrl : r.length + 1 ≤ c := by simpa using hcap
          clear hkk hnn hbr hcap
          go_wp2_with fail
          refine (HKC.out _ HBR.out).mono ?_
          rintro e w1 ⟨rfl, rfl⟩
          go_upto_region 8 with fail
          go_cut [0] from 25 to 26 (fun s0 wx => ∃ A c, s0 = .slice A r.length c ∧ Reads w (.slice A r.length c) (txs r) ∧ wx = wo.alloc (.cells (actArr ⟨kk, 0, 0⟩) 57))
          case first =>
            by_cases hc1 : 1 < c
            · have HT : Hid (Reads w (.slice (some ⟨b, o + 1, none⟩) r.length (c - 1)) (txs r)) := hid (by simpa using reads_tail (x := str x) (xs := txs r) HRX.out)
              go_wp2_with fail
              go_meet
              exact ⟨_, _, rfl, HT.out, rfl⟩
            · obtain rfl : r = [] := List.eq_nil_of_length_eq_zero (by omega)
              go_wp2_with fail
              go_meet
              exact ⟨_, _, rfl, reads_none rfl, rfl⟩
          case rest =>
          obtain ⟨A2, c2, rfl, hr2, rfl⟩ := hcut
          have HR2 := hid hr2
          clear hr2 HRX HVR hx0 hrl
          unfold actArr at HR2 HX HBX HOX
          unfold actArr
          go_wp2_with fail
          refine (HNS.out _).mono ?_
          rintro e w2 ⟨rfl, rfl⟩
          go_wp2_with fail
          go_loopw [0, 30] (fun sl si wr => ∃ (q : Nat) (a : PAct) (rest : List (List UInt8)) (A : Option Addr) (c : Nat), sl = .slice A rest.length c ∧ si = .int .i64 q ∧ q ≤ nn ∧ Reads w (.slice A rest.length c) (txs rest) ∧ (∃ k, rest = ws.drop k) ∧
            readMore nn nn 0 ⟨kk, 0, 0⟩ r = readMore nn (nn - q) q a rest ∧ Blk wr wo.heap.size 57 (actArr a) ∧ wr.ownsRow w.heap.size 57 3 (.slice A' pre.length c') pre.length (flatA pre) ∧ rest.length ≤ r.length ∧ Below w.heap.size w wr) (fun _ si _ => 3 - (intOf si).toNat)
          case atStart => exact ⟨0, ⟨kk, 0, 0⟩, r, A2, c2, rfl, rfl, Nat.zero_le _, HR2.out, ⟨kd + 1, by rw [← List.drop_drop, ← HKD.out]; rfl⟩, rfl, HBX.out, HOX.out, Nat.le_refl _, HX.out⟩
          case round =>
            obtain ⟨q, a, rest, A3, c3, rfl, rfl, hq, hrd, ⟨kd3, hkd3⟩, hrm, hba, hob, hrl, hbr⟩ := hrel
            have HRD := hid hrd
            have HKD3 := hid hkd3
            have HRM3 := hid hrm
            have HBA := hid hba
            have HO3 := hid hob
            have HB3 := hid hbr
            have g0 := hba.cell 0
            have g1 := hba.cell 1
            have g2 := hba.cell 2
            have f1 := hba.frozen 1
            have f2 := hba.frozen 2
            have lg := hba.lt
            simp only [actArr] at g0 g1 g2
            clear hrd hkd3 hrm hba hob
            by_cases hlt : q < nn
            · cases rest with
              | nil =>
                have HR := hid (show readActs ws = none by rw [HRM.out, HRM3.out, show nn - q = (nn - q - 1) + 1 by omega]; rfl)
                obtain ⟨ae, ha⟩ := (HL.out.below hbr).errs 5 (by simp)
                clear hbr
                go_wp2_with fail
                go_quiet (fail)
                rename_i nq
                go_wp2_with fail
                go_ret2
                exact ⟨_, _, rfl, .inr ⟨.inr HR.out, ae, rfl⟩, below_only HB3.out ((Only.refl [] _).drewN nq) HB3.out.size (by simp)⟩
              | cons y r2 =>
                obtain ⟨b3, o3, rfl⟩ := HRD.out.addr (by simp [txs])
                have hy0 : wr.cell? ⟨b3, o3, none⟩ = some (str y) := by
                  obtain ⟨b', o', e, h, _, _⟩ := reads_at HRD.out (j := 0) (u := str y) (by simp [txs])
                  injection e with e
                  injection e with e1 e2
                  subst e1 e2
                  exact (hbr.cell (p := ⟨b3, o3, none⟩) (World.block_lt_of_cell? w ⟨b3, o3, none⟩ h)).trans h
                have hcap3 : r2.length + 1 ≤ c3 := by simpa using HRD.out.cap
                have hyl := HWS.out y (by
                  have : y ∈ ws.drop kd3 := by rw [← HKD3.out]; simp
                  exact List.mem_of_mem_drop this)
                unfold str at hy0
                cases hnum : number y with
                | none =>
                  have HR := hid (show readActs ws = none by rw [HRM.out, HRM3.out, show nn - q = (nn - q - 1) + 1 by omega, readMore, hnum]; rfl)
                  have HNB := hid (number_bad y hyl hnum wr (HL.out.below hbr).word)
                  clear hbr hnum
                  go_wp2_with fail
                  refine HNB.out.mono ?_
                  rintro e w3 ⟨ae, rfl, hb3⟩
                  have HB4 := hid (HB3.out.trans (hb3.mono HB3.out.size))
                  clear hb3
                  go_wp2_with fail
                  go_ret2
                  exact ⟨_, _, rfl, .inr ⟨.inr HR.out, ae, rfl⟩, HB4.out⟩
                | some num =>
                  have HNO := hid (number_ok y hyl num hnum wr (HL.out.below hbr).word)
                  have HRM4 := hid (show readMore nn nn 0 ⟨kk, 0, 0⟩ r = readMore nn (nn - (q + 1)) (q + 1) (if q = 0 then { a with cell := num } else { a with val := num }) r2 by rw [HRM3.out, show nn - q = (nn - (q + 1)) + 1 by omega, readMore, hnum])
                  have HLT := hid hlt
                  clear hbr hnum
                  go_wp2_with fail
                  refine HNO.out.mono ?_
                  rintro e w3 ⟨rfl, hb3⟩
                  have HB4 := hid (HB3.out.trans (hb3.mono HB3.out.size))
                  have HBA4 := hid (HBA.out.below hb3 lg)
                  have HO4 := hid (row_call HO3.out hb3)
                  clear hb3 g0 g1 g2 f1 f2 lg hy0
                  have g0 := HBA4.out.cell 0
                  have g1 := HBA4.out.cell 1
                  have g2 := HBA4.out.cell 2
                  have f1 := HBA4.out.frozen 1
                  have f2 := HBA4.out.frozen 2
                  have lg := HBA4.out.lt
                  have HRL : Hid (r2.length ≤ r.length) := hid (by simp at hrl; omega)
                  simp only [actArr] at g0 g1 g2
                  rcases Nat.eq_zero_or_pos q with rfl | hq0
                  · simp only [if_true] at HRM4
                    have HBZ := hid (HBA4.out.put 1 (.int .i64 num))
                    have HOZ := hid (row_far (p := ⟨wo.heap.size, 1, none⟩) HO4.out HAP.out (.int .i64 num))
                    have HWZ := hid (HB4.out.setCell (p := ⟨wo.heap.size, 1, none⟩) (by have := HBR.out.size; simpa using this) (.int .i64 num))
                    by_cases hc1 : 1 < c3
                    · have HT : Hid (Reads w (.slice (some ⟨b3, o3 + 1, none⟩) r2.length (c3 - 1)) (txs r2)) := hid (by simpa using reads_tail (x := str y) (xs := txs r2) HRD.out)
                      go_wp2_with fail
                      go_roundw
                      case rel => exact ⟨0 + 1, { a with cell := num }, r2, _, _, rfl, by go_num, HLT.out, HT.out, ⟨kd3 + 1, by rw [← List.drop_drop, ← HKD3.out]; rfl⟩, HRM4.out, HBZ.out, HOZ.out, HRL.out, HWZ.out⟩
                      case measure => simp [intOf] <;> omega
                    · obtain rfl : r2 = [] := List.eq_nil_of_length_eq_zero (by omega)
                      go_wp2_with fail
                      go_roundw
                      case rel => exact ⟨0 + 1, { a with cell := num }, [], _, _, rfl, by go_num, HLT.out, reads_none rfl, ⟨kd3 + 1, by rw [← List.drop_drop, ← HKD3.out]; rfl⟩, HRM4.out, HBZ.out, HOZ.out, HRL.out, HWZ.out⟩
                      case measure => simp [intOf] <;> omega
                  · have t6 : ((q : Int) == 0) = false := by simp; omega
                    rw [if_neg (by omega)] at HRM4
                    have HBZ := hid (HBA4.out.put 2 (.int .i64 num))
                    have HOZ := hid (row_far (p := ⟨wo.heap.size, 2, none⟩) HO4.out HAP.out (.int .i64 num))
                    have HWZ := hid (HB4.out.setCell (p := ⟨wo.heap.size, 2, none⟩) (by have := HBR.out.size; simpa using this) (.int .i64 num))
                    by_cases hc1 : 1 < c3
                    · have HT : Hid (Reads w (.slice (some ⟨b3, o3 + 1, none⟩) r2.length (c3 - 1)) (txs r2)) := hid (by simpa using reads_tail (x := str y) (xs := txs r2) HRD.out)
                      go_wp2_with fail
                      go_roundw
                      case rel => exact ⟨q + 1, { a with val := num }, r2, _, _, rfl, by go_num, HLT.out, HT.out, ⟨kd3 + 1, by rw [← List.drop_drop, ← HKD3.out]; rfl⟩, HRM4.out, HBZ.out, HOZ.out, HRL.out, HWZ.out⟩
                      case measure => simp [intOf] <;> omega
                    · obtain rfl : r2 = [] := List.eq_nil_of_length_eq_zero (by omega)
                      go_wp2_with fail
                      go_roundw
                      case rel => exact ⟨q + 1, { a with val := num }, [], _, _, rfl, by go_num, HLT.out, reads_none rfl, ⟨kd3 + 1, by rw [← List.drop_drop, ← HKD3.out]; rfl⟩, HRM4.out, HBZ.out, HOZ.out, HRL.out, HWZ.out⟩
                      case measure => simp [intOf] <;> omega
            · obtain rfl : q = nn := by omega
              have HEN := hid (show readActs ws = (readActs rest).map ((pre ++ [a]) ++ ·) by
                rw [HRM.out, HRM3.out, Nat.sub_self, readMore, Option.map_map]
                congr 1
                funext l
                simp)
              have HPL := hid (show (pre ++ [a]).length + rest.length ≤ ws.length by simp at hpl ⊢; omega)
              have hpl2 : pre.length + 1 ≤ 1000000000 := by simp at hpl; omega
              clear hlt hq hbr hpl
              go_wp2_with (at_builtin; refine wpList_append_own _ rfl (.tmp 56) (.tmp 58) 52 rfl w.heap.size 57 i0 (.agg #[.int .i64 0, .int .i64 0, .int .i64 0]) 3 24 Tryd.underlying52 hi hz0 hz1 hz2 rfl (by decide) _ pre.length _ rfl (HO3.out.alloc _) ⟨wr.heap.size, 0, none⟩ 1 1 (actArr a).toList rfl rfl (news_act wr a) (actArr_one a) (by unfold maxLen; omega) (by omega) (by have := HB3.out.size; simp; omega) ?_; intro v6 w6 hown6 hgrow6 _)
              have HBZ := hid ((HB3.out.alloc HB3.out.size (.cells (actArr a) 57)).grown hgrow6 (by have := HB3.out.size; simp; omega) (fun z hz => (row_own HO3.out hz).1))
              have HOZ := hid (show w6.ownsRow w.heap.size 57 3 v6 (pre ++ [a]).length (flatA (pre ++ [a])) by rw [flatA_snoc, List.length_append]; exact hown6)
              obtain ⟨A9, c9, rfl⟩ := row_shape HOZ.out
              clear hown6 hgrow6
              go_roundw
              case rel => exact ⟨rest, pre ++ [a], A3, c3, A9, c9, rfl, HRD.out, ⟨kd3, HKD3.out⟩, HEN.out, rfl, HOZ.out, HPL.out, HBZ.out⟩
              case measure => simp [sliceLen] at hrl ⊢ <;> omega
end Go.Proofs.YtdfkegflnebckaaDoor
