/-
  From a walk to a row: what every law's row of this seat asks beside its walk. 'law_post': a call that answers true and turns nothing that was there meets the row; 'sent_of_laid': what the row's list gives; the witness' world; a slice of structs, opened to its cells. No condition.
-/
import Derived.Test.YthdapdmpbbabcaaDoorCards
import Derived.Test.YthdapdmpbbabcaaDoorTie
import Derived.Test.YthdapdmpbbabcaaDoorFirst
import Derived.ProofKit
import Derived.OpenShut
import Derived.Deep.DeepHandedRow
import Derived.Deep.DeepWitnessRowRef
import Derived.Deep.Slices
import Derived.Deep.Fields
import Derived.ChangeSame
import Derived.Stop.LaidErr
import Derived.SevenTiedAt
namespace Go.Proofs.YthdapdmpbbabcaaDoor
open Go.ChangeShapes Go.WideShapes Go.ChangeAt Go.RowKit

theorem own : ownKnob Tryd.prog.godebug = none := by kernel_rfl
theorem laidOut : laidOutB Tryd.prog = true := by kernel_rfl

section
variable {H : Type} {enc : TypeId × Value → H}
/-- The arguments read behind the call as they read before it. -/
theorem all_stays {W W' : World} (hb : Below W.heap.size W W') (ts : List TypeId) : ∀ (vs : List Value) (ds : List (DataW H)) (ps : List MemPlace),
    (ts.all fun t => Tryd.prog.readableRec t && decide (t < Tryd.prog.types.size)) = true → DataW.TrodAll enc Tryd.prog W 0 (fun _ => true) true ts vs ds ps → (∀ x ∈ ps, x.block < W.heap.size) →
    DataW.TrodAll enc Tryd.prog W' 0 (fun b => decide (b < W.heap.size)) true ts vs ds ps := by
  induction ts with
  | nil =>
    intro vs ds ps _ h _
    obtain ⟨rfl, rfl, rfl⟩ := trodAll_nil h
    exact trodAll_mk0
  | cons t ts ih =>
    intro vs ds ps hr h hlt
    obtain ⟨v, vs', d, ds', p, q, rfl, rfl, rfl, h1, h2⟩ := trodAll_cons h
    rw [List.all_cons, Bool.and_eq_true, Bool.and_eq_true, decide_eq_true_eq] at hr
    exact trodAll_cons_mk (Below.trod laidOut hr.1.1 hr.1.2 h1 hb (fun x hx => hlt x (List.mem_append.2 (.inl hx)))) (ih vs' ds' q hr.2 h2 (fun x hx => hlt x (List.mem_append.2 (.inr hx))))

/-- A law's row: the call has answered true, and nothing that was there has turned. -/
theorem law_post {s : ChangeSpec} {f : Func} {W W' : World} {args : Array Value} {ds gs : List (DataW H)} {before : List MemPlace} (hres : f.resultTypes = #[4]) (hv : s.vars = [])
    (hr : (f.params.toList.all fun t => Tryd.prog.readableRec t && decide (t < Tryd.prog.types.size)) = true)
    (hW : DataW.Whole enc Tryd.prog f.params.toList s.vars false W args.toList ds gs before) (hs : ∀ es : List (DataW H), es.length = f.params.size → s.fn H (es ++ []) = { results := [.lit (.bool true)], args := es })
    (hb : Below W.heap.size W W') : s.post enc Tryd.prog f false true false false W args (.bool true) W' := by
  have hW' := hW
  obtain ⟨p, q, hA, hV, rfl, hfz, hnd⟩ := hW
  rw [hv] at hV
  obtain ⟨rfl, rfl⟩ := trodVars_none hV
  have hlen : ds.length = f.params.size := by
    have h : ∀ (ts : List TypeId) (vs : List Value) (ds : List (DataW H)) (ps : List MemPlace), DataW.TrodAll enc Tryd.prog W 0 (fun _ => true) true ts vs ds ps → ds.length = ts.length := by
      intro ts
      induction ts with
      | nil => intro vs ds ps h; obtain ⟨rfl, rfl, rfl⟩ := trodAll_nil h; rfl
      | cons t ts ih =>
        intro vs ds ps h
        obtain ⟨v, vs', d, ds', p, q, rfl, rfl, rfl, h1, h2⟩ := trodAll_cons h
        simp [ih _ _ _ h2]
    simpa using h _ _ _ _ hA
  have e := hs ds hlen
  refine ⟨ds, [], p ++ [], [], p, [], hW', ?_, ?_, ?_, hb.frame _, fun h => by cases h⟩
  · rw [e, hres]
    exact trodAll_mk1 (shut_bool Tryd.underlying4 true)
  · rw [e]
    refine all_stays hb _ _ _ _ hr hA (fun x hx => ?_)
    have := hW'.lt x (by simpa using hx)
    simpa using this
  · rw [e, hv]
    rfl
end

theorem gBudget : Tryd.prog.globalNamed "umpire/api.ErrBudget" = some 0 := by kernel_rfl
theorem gBudgetType : (Tryd.prog.globals[0]?).map (·.type) = some 46 := by kernel_rfl
theorem cells94 : Tryd.prog.cellsOf 94 = 1 := by kernel_rfl
theorem cells9 : Tryd.prog.cellsOf 9 = 1 := by kernel_rfl
theorem star : "*" ++ "errors.errorString" = "*errors.errorString" := by decide
theorem row77 (u : TypeId) (h : Tryd.prog.typeName? 3 u = some "*errors.errorString") : u = 77 :=
  typeName_ptr_named (nm := "errors.errorString") (by rw [star]; kernel_rfl) (by kernel_rfl) (by decide) u (by rw [star]; exact h)

def laid1 : List (String × DataW Unit) := [("umpire/api.ErrBudget", Rows.laid_umpire_api_ErrBudget)]

/-- What the row's list gives: the sentinel's variable holds a pointer. -/
theorem sent_of_laid {W : World} (h : laidMetH Tryd.prog laid1 W) : Sent W := by
  rw [MakeChecks.laidMetH_plain _ _ _ (by kernel_rfl)] at h
  obtain ⟨a, s, hv, _⟩ := laid_sentinel h gBudget gBudgetType Tryd.underlying46 row77 Tryd.underlying77 Tryd.underlying94 rfl rfl Tryd.underlying9 cells94 cells9
  exact ⟨a, by simpa using World.var?_cell gBudget hv 0⟩

def budgetText : ByteArray := ⟨#[116, 104, 101, 32, 115, 101, 97, 114, 99, 104, 32, 104, 97, 115, 32, 115, 101, 101, 110, 32, 116, 111, 111, 32, 109, 117, 99, 104]⟩

/-- A world for the witness: the settled one, a block for the sentinel's text, its variable pointing there. -/
noncomputable def laidWorld (os : Os) : World :=
  let w0 := World.holding Tryd.prog os ⟨#[.cells #[.string budgetText] 94], #[], []⟩
  { w0 with heap := w0.heap.modify 0 fun
      | .cells _ t frozen => .cells #[.iface 77 (.pointer (some ⟨(World.settled Tryd.prog os).heap.size, 0, none⟩))] t frozen
      | o => o }
theorem laid_met (os : Os) (args : Array Value) : laidMet Tryd.prog laid1 ((laidWorld os).forCall (fun _ _ => 0) ⟨#[], args, []⟩).memory :=
  laidMet_of_run' 8 (by kernel_rfl) (by kernel_rfl)

section
variable {H : Type} {enc : TypeId × Value → H} {P : Program} {w : World} {base : Nat} {spare : Nat → Bool} {held : Bool}
/-- A slice of structs whose fields are one cell each: its cells. -/
theorem slice_cells {t e : TypeId} {fs : Array Field} {v : Value} {d : DataW H} {ps : List MemPlace} (ht : P.underlying t = some (.slice e)) (he : P.underlying e = some (.struct fs))
    (hone : Deep.oneCellFields P fs = true) (hC : P.cellsOf e = fs.size) (hv : ∃ a n c, v = .slice a n c) (h : DataW.Trod enc P w base spare held t v d ps) :
    ∃ (A : Option Addr) (n c b off : Nat), v = .slice A n c ∧ n ≤ maxLen ∧ (0 < n → 0 < fs.size → A = some ⟨b, off, none⟩) ∧ ∀ i, i < n → ∀ (j : Nat) (f : Field), fs[j]? = some f →
      ∃ (u : Value) (m : Nat) (y : DataW H × List MemPlace), w.cell? ⟨b, off + (i * fs.size + j), none⟩ = some u ∧ DataW.trod enc P w base spare held m f.type [u] = some y := by
  obtain ⟨a0, n0, c0, rfl⟩ := hv
  obtain ⟨fuel, h⟩ := h
  rcases Deep.open_slice ht h with ⟨h0, _⟩ | ⟨a, len, cap, m, n, D, Pl, hcs, hb, hl, hm, hmm, hx, hi⟩
  · simp [Value.cells] at h0
    obtain ⟨rfl, rfl, rfl⟩ := h0
    exact ⟨none, 0, 0, 0, 0, rfl, Nat.zero_le _, fun h => absurd h (Nat.lt_irrefl 0), fun i hi => absurd hi (Nat.not_lt_zero i)⟩
  · simp [Value.cells] at hcs
    obtain ⟨rfl, rfl, rfl⟩ := hcs
    have key : ∀ i, i < n0 → ∀ (j : Nat) (f : Field), fs[j]? = some f → ∃ (u : Value) (m : Nat) (y : DataW H × List MemPlace), w.cell? (a.add (i * fs.size + j)) = some u ∧ DataW.trod enc P w base spare held m f.type [u] = some y := by
      intro i hin j f hj
      have him : i < m := by rw [hmm]; split <;> omega
      obtain ⟨cs', hc, ht'⟩ := hi i him
      rw [hC] at hc
      obtain ⟨ys, n', hn', hy, hlen, hyl, hf⟩ := DataW.trod_struct he ht'
      obtain ⟨_, hcl, hat⟩ := World.cells?_some hc
      obtain ⟨ho, hk⟩ := Deep.hone_of hone j f hj
      have hjl : j < fs.size := (Array.getElem?_eq_some_iff.1 hj).1
      have hcell := hat j hjl
      have hv : cs'[j]? = some (cs'[j]'(by omega)) := List.getElem?_eq_getElem (by omega)
      have h1 := hf j f hj
      rw [ho, hk] at h1
      have hone' : (cs'.drop j).take 1 = [cs'[j]'(by omega)] := by
        rw [List.drop_eq_getElem_cons (by omega)]
        rfl
      rw [hone'] at h1
      have hys : ys[j]? = some (ys[j]'(by omega)) := List.getElem?_eq_getElem (by omega)
      exact ⟨_, _, _, by rw [← Go.Deep.add_add, hcell, hv], h1.trans hys⟩
    have plain : 0 < n0 → 0 < fs.size → ∃ b off, a = ⟨b, off, none⟩ := by
      intro hn0 hf0
      obtain ⟨u, _, _, hu, _⟩ := key 0 hn0 0 fs[0] (Array.getElem?_eq_getElem hf0)
      obtain ⟨b, off, spot⟩ := a
      have hspot : spot = none := by simpa [Addr.add] using World.cell?_spot hu
      subst hspot
      exact ⟨b, off, rfl⟩
    refine ⟨some a, n0, c0, a.block, a.off, rfl, by omega, fun hn0 hf0 => ?_, fun i hin j f hj => ?_⟩
    · obtain ⟨b, off, rfl⟩ := plain hn0 hf0
      rfl
    · obtain ⟨b, off, rfl⟩ := plain (by omega) (by have := (Array.getElem?_eq_some_iff.1 hj).1; omega)
      obtain ⟨u, m, y, hu, hy⟩ := key i hin j f hj
      rw [Go.WideShapes.add_plain] at hu
      exact ⟨u, m, y, hu, hy⟩

/-- The calls that a law is handed: each one's three numbers. -/
theorem calls_open {W : World} {v : Value} {d : DataW H} {ps : List MemPlace} (hv : ∃ a n c, v = .slice a n c) (h : DataW.Trod enc Tryd.prog W base spare held 22 v d ps) :
    ∃ (A : Option Addr) (n c b off : Nat) (K X Y : Nat → Int), v = .slice A n c ∧ n ≤ maxLen ∧ (0 < n → A = some ⟨b, off, none⟩) ∧ ∀ j, j < n →
      W.cell? ⟨b, off + j * 3, none⟩ = some (.int .i64 (K j)) ∧ W.cell? ⟨b, off + j * 3 + 1, none⟩ = some (.int .i64 (X j)) ∧ W.cell? ⟨b, off + j * 3 + 2, none⟩ = some (.int .i64 (Y j)) ∧
      (Lit.int .i64 (X j)).wf = true ∧ (Lit.int .i64 (Y j)).wf = true := by
  obtain ⟨A, n, c, b, off, rfl, hn, hA, hc⟩ := slice_cells Tryd.underlying22 Tryd.underlying28 (by kernel_rfl) (by kernel_rfl) hv h
  have one : ∀ i, i < n → ∀ (j : Nat), j < 3 → ∃ x, W.cell? ⟨b, off + (i * 3 + j), none⟩ = some (.int .i64 x) ∧ (Lit.int .i64 x).wf = true := by
    intro i hi j hj
    match j, hj with
    | 0, _ =>
      obtain ⟨u, m, y, hu, hy⟩ := hc i hi 0 _ rfl
      obtain ⟨x, e, _, hw⟩ := DataW.trod_int Tryd.underlying3 hy
      obtain rfl : u = .int .i64 x := by simpa using e
      exact ⟨x, hu, hw⟩
    | 1, _ =>
      obtain ⟨u, m, y, hu, hy⟩ := hc i hi 1 _ rfl
      obtain ⟨x, e, _, hw⟩ := DataW.trod_int Tryd.underlying3 hy
      obtain rfl : u = .int .i64 x := by simpa using e
      exact ⟨x, hu, hw⟩
    | 2, _ =>
      obtain ⟨u, m, y, hu, hy⟩ := hc i hi 2 _ rfl
      obtain ⟨x, e, _, hw⟩ := DataW.trod_int Tryd.underlying3 hy
      obtain rfl : u = .int .i64 x := by simpa using e
      exact ⟨x, hu, hw⟩
  have val : ∀ (f i j : Nat), i < n → j < 3 → f = i * 3 + j → W.cell? ⟨b, off + f, none⟩ = some (.int .i64 (intOf ((W.cell? ⟨b, off + f, none⟩).getD undef))) ∧ (Lit.int .i64 (intOf ((W.cell? ⟨b, off + f, none⟩).getD undef))).wf = true := by
    intro f i j hi hj hf
    obtain ⟨x, hx, hw⟩ := one i hi j hj
    rw [← hf] at hx
    rw [hx]
    exact ⟨rfl, hw⟩
  refine ⟨A, n, c, b, off, fun j => intOf ((W.cell? ⟨b, off + j * 3, none⟩).getD undef), fun j => intOf ((W.cell? ⟨b, off + (j * 3 + 1), none⟩).getD undef), fun j => intOf ((W.cell? ⟨b, off + (j * 3 + 2), none⟩).getD undef), rfl, hn, fun h => hA h (by decide), fun j hj => ?_⟩
  have h0 := val (j * 3) j 0 hj (by decide) rfl
  have h1 := val (j * 3 + 1) j 1 hj (by decide) rfl
  have h2 := val (j * 3 + 2) j 2 hj (by decide) rfl
  exact ⟨h0.1, h1.1, h2.1, h1.2, h2.2⟩

/-- A slice of numbers that a law is handed. -/
theorem ints_open {W : World} {v : Value} {d : DataW H} {ps : List MemPlace} (hv : ∃ a n c, v = .slice a n c) (h : DataW.Trod enc Tryd.prog W base spare held 24 v d ps) :
    ∃ (A : Option Addr) (n c b off : Nat) (Z : Nat → Int), v = .slice A n c ∧ n ≤ maxLen ∧ (0 < n → A = some ⟨b, off, none⟩) ∧ ∀ j, j < n → W.cell? ⟨b, off + j, none⟩ = some (.int .i64 (Z j)) ∧ (Lit.int .i64 (Z j)).wf = true := by
  obtain ⟨a0, n0, c0, rfl⟩ := hv
  obtain ⟨fuel, h⟩ := h
  rcases open_ints Tryd.underlying24 Tryd.underlying3 (by kernel_rfl) h with ⟨h0, _⟩ | ⟨a, len, cap, zs, hcs, _, hl, hm, hz, _, hcell, hw⟩
  · simp [Value.cells] at h0
    obtain ⟨rfl, rfl, rfl⟩ := h0
    exact ⟨none, 0, 0, 0, 0, fun _ => 0, rfl, Nat.zero_le _, fun h => absurd h (Nat.lt_irrefl 0), fun j hj => absurd hj (Nat.not_lt_zero j)⟩
  · simp [Value.cells] at hcs
    obtain ⟨rfl, rfl, rfl⟩ := hcs
    have hnz : n0 ≤ zs.length := by rw [hz]; split <;> omega
    rcases Nat.eq_zero_or_pos n0 with h0 | h0
    · subst h0
      exact ⟨some a, 0, c0, 0, 0, fun _ => 0, rfl, Nat.zero_le _, fun h => absurd h (Nat.lt_irrefl 0), fun j hj => absurd hj (Nat.not_lt_zero j)⟩
    · obtain ⟨b, off, rfl, hc⟩ := ints_at hcell (by omega)
      refine ⟨_, n0, c0, b, off, fun j => zs.getD j 0, rfl, by omega, fun _ => rfl, fun j hj => ⟨hc j (by omega), ?_⟩⟩
      have hjl : j < zs.length := by omega
      have e : zs.getD j 0 = zs[j] := by simp [List.getD, hjl]
      show (Lit.int .i64 (zs.getD j 0)).wf = true
      rw [e]
      exact hw _ (List.getElem_mem hjl)
end
end Go.Proofs.YthdapdmpbbabcaaDoor
