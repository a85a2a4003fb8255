/-
  The fields of package event: what each is, where it leads; the function that a list of fields makes.
-/
import Derived.Test.YtgfmlaflochffaaGreatDoorCodeZ
import Derived.Test.YtgfmlaflochffaaGreatDoorEvAZ
import Derived.Laws.EntriesVeiled
import Derived.Deep.Cut
import Derived.Deep.CutRange
import Derived.Deep.RegionWith
import Derived.Deep.DrawnRows
namespace Go.Proofs.YtgfmlaflochffaaGreatDoor
open Go.RowKit Go.Maps W
attribute [local go_sem ↓] Go.wp_at_zero Go.wp_at_succ

/-- The function that leads to a field. -/
def fid : Fld → Nat
  | .T => 90
  | .H => 91
  | .O => 92
  | .P => 93
  | .K => 94
  | .V => 95
  | .R => 96
/-- The function that tells of a field. -/
def mkf : Fld → Nat
  | .T => 66
  | .H => 67
  | .O => 69
  | .P => 70
  | .K => 72
  | .V => 74
  | .R => 76
def fcells (f : Fld) : Array Value := #[.func (.func (fid f)) #[] #[], .int .i64 (f.tab : Int), .int .i64 f.lo, .int .i64 f.hi]

theorem fld_T (w : World) : Calls Tryz.prog 66 #[] w fun e w' => e = .returned (.agg (fcells .T)) ∧ Below w.heap.size w w' := by
  go_enter Tryz.func66, Tryz.ntmps66
  go_wp2
  exact bodyPost_ret (v := .agg (fcells .T)) (by simp [results, Tryz.f66, go_sem]; rfl) rfl ⟨rfl, (Below.refl _ _).alloc (Nat.le_refl _) _⟩
theorem to_T (g : Nat) (w : World) : Calls Tryz.prog 90 #[.pointer (some ⟨g, 0, none⟩)] w fun e w' => e = .returned (.pointer (some ⟨g, (Fld.T).off, none⟩)) ∧ w = w' := by
  go_enter Tryz.func90, Tryz.ntmps90
  go_wp2
  go_ret
  exact ⟨rfl, rfl⟩

theorem fld_H (w : World) : Calls Tryz.prog 67 #[] w fun e w' => e = .returned (.agg (fcells .H)) ∧ Below w.heap.size w w' := by
  go_enter Tryz.func67, Tryz.ntmps67
  go_wp2
  exact bodyPost_ret (v := .agg (fcells .H)) (by simp [results, Tryz.f67, go_sem]; rfl) rfl ⟨rfl, (Below.refl _ _).alloc (Nat.le_refl _) _⟩
theorem to_H (g : Nat) (w : World) : Calls Tryz.prog 91 #[.pointer (some ⟨g, 0, none⟩)] w fun e w' => e = .returned (.pointer (some ⟨g, (Fld.H).off, none⟩)) ∧ w = w' := by
  go_enter Tryz.func91, Tryz.ntmps91
  go_wp2
  go_ret
  exact ⟨rfl, rfl⟩

theorem fld_O (w : World) : Calls Tryz.prog 69 #[] w fun e w' => e = .returned (.agg (fcells .O)) ∧ Below w.heap.size w w' := by
  go_enter Tryz.func69, Tryz.ntmps69
  go_wp2
  exact bodyPost_ret (v := .agg (fcells .O)) (by simp [results, Tryz.f69, go_sem]; rfl) rfl ⟨rfl, (Below.refl _ _).alloc (Nat.le_refl _) _⟩
theorem to_O (g : Nat) (w : World) : Calls Tryz.prog 92 #[.pointer (some ⟨g, 0, none⟩)] w fun e w' => e = .returned (.pointer (some ⟨g, (Fld.O).off, none⟩)) ∧ w = w' := by
  go_enter Tryz.func92, Tryz.ntmps92
  go_wp2
  go_ret
  exact ⟨rfl, rfl⟩

theorem fld_P (w : World) : Calls Tryz.prog 70 #[] w fun e w' => e = .returned (.agg (fcells .P)) ∧ Below w.heap.size w w' := by
  go_enter Tryz.func70, Tryz.ntmps70
  go_wp2
  exact bodyPost_ret (v := .agg (fcells .P)) (by simp [results, Tryz.f70, go_sem]; rfl) rfl ⟨rfl, (Below.refl _ _).alloc (Nat.le_refl _) _⟩
theorem to_P (g : Nat) (w : World) : Calls Tryz.prog 93 #[.pointer (some ⟨g, 0, none⟩)] w fun e w' => e = .returned (.pointer (some ⟨g, (Fld.P).off, none⟩)) ∧ w = w' := by
  go_enter Tryz.func93, Tryz.ntmps93
  go_wp2
  go_ret
  exact ⟨rfl, rfl⟩

theorem fld_K (w : World) : Calls Tryz.prog 72 #[] w fun e w' => e = .returned (.agg (fcells .K)) ∧ Below w.heap.size w w' := by
  go_enter Tryz.func72, Tryz.ntmps72
  go_wp2
  exact bodyPost_ret (v := .agg (fcells .K)) (by simp [results, Tryz.f72, go_sem]; rfl) rfl ⟨rfl, (Below.refl _ _).alloc (Nat.le_refl _) _⟩
theorem to_K (g : Nat) (w : World) : Calls Tryz.prog 94 #[.pointer (some ⟨g, 0, none⟩)] w fun e w' => e = .returned (.pointer (some ⟨g, (Fld.K).off, none⟩)) ∧ w = w' := by
  go_enter Tryz.func94, Tryz.ntmps94
  go_wp2
  go_ret
  exact ⟨rfl, rfl⟩

theorem fld_V (w : World) : Calls Tryz.prog 74 #[] w fun e w' => e = .returned (.agg (fcells .V)) ∧ Below w.heap.size w w' := by
  go_enter Tryz.func74, Tryz.ntmps74
  go_wp2
  exact bodyPost_ret (v := .agg (fcells .V)) (by simp [results, Tryz.f74, go_sem]; rfl) rfl ⟨rfl, (Below.refl _ _).alloc (Nat.le_refl _) _⟩
theorem to_V (g : Nat) (w : World) : Calls Tryz.prog 95 #[.pointer (some ⟨g, 0, none⟩)] w fun e w' => e = .returned (.pointer (some ⟨g, (Fld.V).off, none⟩)) ∧ w = w' := by
  go_enter Tryz.func95, Tryz.ntmps95
  go_wp2
  go_ret
  exact ⟨rfl, rfl⟩

theorem fld_R (w : World) : Calls Tryz.prog 76 #[] w fun e w' => e = .returned (.agg (fcells .R)) ∧ Below w.heap.size w w' := by
  go_enter Tryz.func76, Tryz.ntmps76
  go_wp2
  exact bodyPost_ret (v := .agg (fcells .R)) (by simp [results, Tryz.f76, go_sem]; rfl) rfl ⟨rfl, (Below.refl _ _).alloc (Nat.le_refl _) _⟩
theorem to_R (g : Nat) (w : World) : Calls Tryz.prog 96 #[.pointer (some ⟨g, 0, none⟩)] w fun e w' => e = .returned (.pointer (some ⟨g, (Fld.R).off, none⟩)) ∧ w = w' := by
  go_enter Tryz.func96, Tryz.ntmps96
  go_wp2
  go_ret
  exact ⟨rfl, rfl⟩

theorem toCall (f : Fld) (g : Nat) (w : World) : Calls Tryz.prog (fid f) #[.pointer (some ⟨g, 0, none⟩)] w fun e w' => e = .returned (.pointer (some ⟨g, f.off, none⟩)) ∧ w = w' := by
  cases f
  · exact to_T g w
  · exact to_H g w
  · exact to_O g w
  · exact to_P g w
  · exact to_K g w
  · exact to_V g w
  · exact to_R g w
theorem toEnters (f : Fld) (args : Array Value) (w : World) : (callFunc (fid f) args).run Tryz.prog w = .ok (.enter (fid f) args) w := by
  cases f
  · exact enters_of Tryz.func90 (by kernel_rfl) rfl _ w
  · exact enters_of Tryz.func91 (by kernel_rfl) rfl _ w
  · exact enters_of Tryz.func92 (by kernel_rfl) rfl _ w
  · exact enters_of Tryz.func93 (by kernel_rfl) rfl _ w
  · exact enters_of Tryz.func94 (by kernel_rfl) rfl _ w
  · exact enters_of Tryz.func95 (by kernel_rfl) rfl _ w
  · exact enters_of Tryz.func96 (by kernel_rfl) rfl _ w

/-- The cells of a list of fields. -/
def flat (fs : List Fld) : List Value := fs.flatMap fun f => (fcells f).toList
theorem flat_len (fs : List Fld) : (flat fs).length = fs.length * 4 := by
  unfold flat
  induction fs with
  | nil => rfl
  | cons f r ih => rw [List.flatMap_cons, List.length_append, ih, List.length_cons]; simp [fcells]; omega
theorem flat_at : ∀ (fs : List Fld) (k : Nat) (f : Fld), fs[k]? = some f → ∀ r, r < 4 → (flat fs)[k * 4 + r]? = (fcells f)[r]?
  | [], k, f, h, _, _ => by simp at h
  | g :: fs, 0, f, h, r, hr => by
    obtain rfl : g = f := by simpa using h
    unfold flat
    rw [List.flatMap_cons, List.getElem?_append_left (by simp [fcells]; omega)]
    simp
  | g :: fs, k + 1, f, h, r, hr => by
    have h2 := flat_at fs k f (by simpa using h) r hr
    unfold flat at h2 ⊢
    rw [List.flatMap_cons, List.getElem?_append_right (by simp [fcells]; omega)]
    rw [← h2]
    congr 1
    simp [fcells]
    omega
theorem flat_append (a b : List Fld) : flat (a ++ b) = flat a ++ flat b := by simp [flat]
theorem flat_one (l : List Fld) : ∀ u ∈ flat l, u.oneCell' = true := by
  intro u hu
  obtain ⟨f, _, hf⟩ := List.mem_flatMap.1 hu
  simp only [fcells, List.mem_cons, List.not_mem_nil, or_false] at hf
  rcases hf with rfl | rfl | rfl | rfl <;> rfl
def noField : Array Value := #[.nilFunc, .int .i64 0, .int .i64 0, .int .i64 0]
def fat (fs : List Fld) (i : Nat) : Array Value := match fs[i]? with
  | some f => fcells f
  | none => noField

set_option maxHeartbeats 1000000 in
theorem listCall (fs : List Fld) (v : Value) (bx B : Nat) (e : Ev) (i : Nat) (w : World) (hbx : w.cell? ⟨bx, 0, none⟩ = some v) (hown : w.ownsRow B 133 4 v fs.length (flat fs)) (_hlen : fs.length ≤ 5) :
    Calls Tryz.prog 65 #[.agg (evArr e), .int .i64 i, .pointer (some ⟨bx, 0, none⟩)] w fun r w' => r = .returned (.tuple #[.agg (fat fs i), .bool (decide (i < fs.length))]) ∧ Below w.heap.size w w' := by
  by_cases hi : i < fs.length
  · obtain ⟨f, hf⟩ : ∃ f, fs[i]? = some f := ⟨fs[i], List.getElem?_eq_getElem hi⟩
    have e1 : fat fs i = fcells f := by unfold fat; rw [hf]
    have e2 : decide (i < fs.length) = true := by simpa using hi
    rw [e1, e2]
    obtain ⟨g, cap, rfl, hcap⟩ : ∃ g cap, v = .slice (some ⟨g, 0, none⟩) fs.length cap ∧ fs.length ≤ cap := by
      rcases hown.2 with ⟨rfl, h0⟩ | ⟨g, cap, cur, rfl, _, _, h2, _⟩
      · omega
      · exact ⟨g, cap, rfl, h2⟩
    have c0 : w.cell? ⟨g, i * 4, none⟩ = some (.func (.func (fid f)) #[] #[]) := (hown.cellAt (i * 4) (by omega)).trans (flat_at fs i f hf 0 (by omega))
    have c1 : w.cell? ⟨g, i * 4 + 1, none⟩ = some (.int .i64 (f.tab : Int)) := (hown.cellAt (i * 4 + 1) (by omega)).trans (flat_at fs i f hf 1 (by omega))
    have c2 : w.cell? ⟨g, i * 4 + 2, none⟩ = some (.int .i64 f.lo) := (hown.cellAt (i * 4 + 2) (by omega)).trans (flat_at fs i f hf 2 (by omega))
    have c3 : w.cell? ⟨g, i * 4 + 3, none⟩ = some (.int .i64 f.hi) := (hown.cellAt (i * 4 + 3) (by omega)).trans (flat_at fs i f hf 3 (by omega))
    have lb := World.block_lt_of_cell? w _ hbx
    have lg := World.block_lt_of_cell? w _ c0
    unfold fcells
    generalize fid f = ff at *
    generalize f.tab = ft at *
    generalize f.lo = fl at *
    generalize f.hi = fh at *
    clear e1 e2 hf hown
    unfold evArr
    go_enter Tryz.func65, Tryz.ntmps65
    go_wp2
    exact bodyPost_ret (v := .tuple #[.agg #[.func (.func ff) #[] #[], .int .i64 (ft : Int), .int .i64 fl, .int .i64 fh], .bool true]) (by simp [results, Tryz.f65, go_sem]) rfl ⟨rfl, ((Below.refl _ _).alloc (Nat.le_refl _) _).alloc (by simp) _⟩
  · have e1 : fat fs i = noField := by unfold fat; rw [List.getElem?_eq_none (by omega)]
    have e2 : decide (i < fs.length) = false := by simpa using hi
    rw [e1, e2]
    obtain ⟨A, cap, rfl⟩ := row_shape hown
    have lb := World.block_lt_of_cell? w _ hbx
    clear e1 e2 hown
    unfold evArr
    go_enter Tryz.func65, Tryz.ntmps65
    go_wp2
    exact bodyPost_ret (v := .tuple #[.agg noField, .bool false]) (by simp [results, Tryz.f65, go_sem]; rfl) rfl ⟨rfl, ((Below.refl _ _).alloc (Nat.le_refl _) _).alloc (by simp) _⟩
end Go.Proofs.YtgfmlaflochffaaGreatDoor
