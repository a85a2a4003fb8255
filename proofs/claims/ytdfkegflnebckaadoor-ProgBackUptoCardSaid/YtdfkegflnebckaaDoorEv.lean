/-
  Events as plain data: which fields an event uses, when it may be, its bytes, what a reader has read so far. Plain Lean alone.
-/
import Derived.Test.YtdfkegflnebckaaDoorNum
namespace Go.Proofs.YtdfkegflnebckaaDoor.W

inductive Fld where
  | T | H | O | P | K | V | R
structure Ev where
  kind : Int
  tx : Int
  thr : Int
  obj : Int
  op : Int
  key : Int
  val : Int
  ret : Int
def Ev.zero : Ev := ⟨0, 0, 0, 0, 0, 0, 0, 0⟩
def Ev.get (e : Ev) : Fld → Int
  | .T => e.tx
  | .H => e.thr
  | .O => e.obj
  | .P => e.op
  | .K => e.key
  | .V => e.val
  | .R => e.ret
def Ev.put (e : Ev) : Fld → Int → Ev
  | .T, n => { e with tx := n }
  | .H, n => { e with thr := n }
  | .O, n => { e with obj := n }
  | .P, n => { e with op := n }
  | .K, n => { e with key := n }
  | .V, n => { e with val := n }
  | .R, n => { e with ret := n }
def Fld.off : Fld → Nat
  | .T => 1
  | .H => 2
  | .O => 3
  | .P => 4
  | .K => 5
  | .V => 6
  | .R => 7
def Fld.tab : Fld → Nat
  | .P => 3
  | .R => 4
  | _ => 0
def Fld.lo : Fld → Int
  | .T => 1
  | .P => 1
  | .R => 1
  | .V => -1000000000
  | _ => 0
def Fld.hi : Fld → Int
  | .T => 1000
  | .H => 7
  | .O => 7
  | .P => 9
  | .K => 1000
  | .V => 1000000000
  | .R => 3
def keyed (op : Int) : Bool := op == 7 || op == 8 || op == 9
def valued (op : Int) : Bool := op == 2 || op == 3 || op == 5 || op == 7
/-- The fields of a call: of its operation. -/
def callFl (op : Int) : List Fld := [.T, .O, .P] ++ (if keyed op then [.K] else []) ++ (if valued op then [.V] else [])
def retFl (ret : Int) : List Fld := [.T, .R] ++ (if ret = 3 then [.V] else [])
/-- The fields that an event uses, by its kind. -/
def flds (kind op ret : Int) : List Fld :=
  if kind = 1 then [.T, .H] else if kind = 2 then callFl op else if kind = 3 then retFl ret else [.T]
def Ev.fl (e : Ev) : List Fld := flds e.kind e.op e.ret
/-- The event without the fields that it uses. -/
def Ev.strip (e : Ev) (k : Nat) : Ev := (e.fl.take k).foldl (fun r f => r.put f 0) { e with kind := 0 }
def Ev.Coded (e : Ev) : Prop := 1 ≤ e.kind ∧ e.kind ≤ 7 ∧ (e.kind = 2 → 1 ≤ e.op ∧ e.op ≤ 9) ∧ (e.kind = 3 → 1 ≤ e.ret ∧ e.ret ≤ 3)
def Ev.In (e : Ev) (f : Fld) : Prop := f.lo ≤ e.get f ∧ e.get f ≤ f.hi
def Ev.Ok (e : Ev) : Prop := e.Coded ∧ (∀ f ∈ e.fl, e.In f) ∧ e.strip e.fl.length = .zero
def Ev.bytes (e : Ev) : List UInt8 := vb (zig e.kind) ++ e.fl.flatMap fun f => vb (zig (e.get f))

/-- A reader has read the kind and i fields; it stands at place 'at'. -/
structure FromAt (b : List UInt8) (e : Ev) (i pos : Nat) : Prop where
  le : i ≤ e.fl.length
  ple : pos ≤ b.length
  one : 1 ≤ pos
  text : b.take pos = vb (zig e.kind) ++ (e.fl.take i).flatMap fun f => vb (zig (e.get f))
  lo : 1 ≤ e.kind
  hi : e.kind ≤ 7
  op0 : e.kind = 2 → i ≤ 2 → e.op = 0
  ret0 : e.kind = 3 → i ≤ 1 → e.ret = 0

theorem Ev.put_get (e : Ev) (f : Fld) (n : Int) : (e.put f n).get f = n := by cases f <;> rfl
theorem Ev.put_other (e : Ev) (f g : Fld) (n : Int) (h : g ≠ f) : (e.put f n).get g = e.get g := by
  cases f <;> cases g <;> first | rfl | exact absurd rfl h
theorem Ev.put_kind (e : Ev) (f : Fld) (n : Int) : (e.put f n).kind = e.kind := by cases f <;> rfl
theorem fl_nodup (k op ret : Int) : (flds k op ret).Nodup := by
  unfold flds callFl retFl
  split
  · simp
  · split
    · cases keyed op <;> cases valued op <;> simp
    · split
      · split <;> simp
      · simp
theorem fl_len (k op ret : Int) : 1 ≤ (flds k op ret).length ∧ (flds k op ret).length ≤ 5 := by
  unfold flds callFl retFl
  split
  · simp
  · split
    · cases keyed op <;> cases valued op <;> simp
    · split
      · split <;> simp
      · simp

/-- What is put into the next field turns none of the fields that were read. -/
theorem fl_put (e : Ev) (i : Nat) (f : Fld) (n : Int) (h1 : 1 ≤ e.kind) (h7 : e.kind ≤ 7) (h2 : e.kind = 2 → i ≤ 2 → e.op = 0) (h3 : e.kind = 3 → i ≤ 1 → e.ret = 0) (hf : e.fl[i]? = some f) :
    (e.put f n).fl.take (i + 1) = e.fl.take i ++ [f] ∧ ((e.kind = 2 → i + 1 ≤ 2 → (e.put f n).op = 0) ∧ (e.kind = 3 → i + 1 ≤ 1 → (e.put f n).ret = 0)) ∧ i + 1 ≤ (e.put f n).fl.length := by
  have hi : i < e.fl.length := (List.getElem?_eq_some_iff.1 hf).1
  have hi5 : i < 5 := Nat.lt_of_lt_of_le hi (fl_len _ _ _).2
  obtain ⟨k, tx, thr, obj, op, key, val, ret⟩ := e
  unfold Ev.fl at *
  simp only at *
  have hk : k = 1 ∨ k = 2 ∨ k = 3 ∨ (k ≠ 1 ∧ k ≠ 2 ∧ k ≠ 3) := by omega
  have hi' : i = 0 ∨ i = 1 ∨ i = 2 ∨ i = 3 ∨ i = 4 := by omega
  rcases hk with rfl | rfl | rfl | ⟨k1, k2, k3⟩
  · rcases hi' with rfl | rfl | rfl | rfl | rfl <;> simp [flds] at hf <;> subst hf <;> simp [flds, Ev.put]
  · rcases hi' with rfl | rfl | rfl | rfl | rfl
    · simp [flds, callFl] at hf; subst hf; simp [flds, callFl, Ev.put]; exact h2 rfl (by omega)
    · simp [flds, callFl] at hf; subst hf; simp [flds, callFl, Ev.put]; exact h2 rfl (by omega)
    · simp [flds, callFl] at hf; subst hf; simp [flds, callFl, Ev.put]
    · have := h2
      cases hk : keyed op <;> cases hv : valued op <;> simp [flds, callFl, hk, hv] at hf <;> subst hf <;> simp [flds, callFl, Ev.put, hk, hv]
    · cases hk : keyed op <;> cases hv : valued op <;> simp [flds, callFl, hk, hv] at hf <;> subst hf <;> simp [flds, callFl, Ev.put, hk, hv]
  · rcases hi' with rfl | rfl | rfl | rfl | rfl
    · simp [flds, retFl] at hf; subst hf; simp [flds, retFl, Ev.put]; exact h3 rfl (by omega)
    · simp [flds, retFl] at hf; subst hf; simp [flds, retFl, Ev.put]
    · by_cases hr : ret = 3 <;> simp [flds, retFl, hr] at hf <;> subst hf <;> simp [flds, retFl, Ev.put, hr]
    · by_cases hr : ret = 3 <;> simp [flds, retFl, hr] at hf
    · by_cases hr : ret = 3 <;> simp [flds, retFl, hr] at hf
  · rcases hi' with rfl | rfl | rfl | rfl | rfl <;> simp [flds, k1, k2, k3] at hf <;> subst hf <;> simp [flds, Ev.put, k1, k2, k3]

theorem from_start {b : List UInt8} {u k : Nat} (h : vget b = .ok u k) (h1 : 1 ≤ zag u) (h7 : zag u ≤ 7) : FromAt b { Ev.zero with kind := zag u } 0 k := by
  obtain ⟨e1, e2, e3, _⟩ := vget_ok h
  have hp : 1 ≤ k := by rw [e2]; exact vb_pos u
  exact ⟨by simp, e3, hp, by simp [zig_zag, e1], h1, h7, fun _ _ => rfl, fun _ _ => rfl⟩
theorem from_step {b : List UInt8} {e : Ev} {i pos u k : Nat} {f : Fld} (h : FromAt b e i pos) (hf : e.fl[i]? = some f) (hg : vget (b.drop pos) = .ok u k) : FromAt b (e.put f (zag u)) (i + 1) (pos + k) := by
  obtain ⟨e1, e2, e3, _⟩ := vget_ok hg
  obtain ⟨p1, ⟨p2, p3⟩, p4⟩ := fl_put e i f (zag u) h.lo h.hi h.op0 h.ret0 hf
  rw [List.length_drop] at e3
  have hp := h.ple
  have hi : i < e.fl.length := (List.getElem?_eq_some_iff.1 hf).1
  have hnd : e.fl.Nodup := fl_nodup _ _ _
  have hne : ∀ g ∈ e.fl.take i, g ≠ f := by
    intro g hg e
    subst e
    obtain ⟨j, hj, hj2⟩ := List.getElem_of_mem hg
    rw [List.length_take] at hj
    rw [List.getElem_take] at hj2
    rw [List.getElem?_eq_getElem hi] at hf
    injection hf with hf
    have := (List.getElem_inj hnd).1 (hj2.trans hf.symm)
    omega
  have hm : (e.fl.take i).flatMap (fun g => vb (zig ((e.put f (zag u)).get g))) = (e.fl.take i).flatMap (fun g => vb (zig (e.get g))) := by
    rw [List.flatMap_def, List.flatMap_def]
    congr 1
    exact List.map_congr_left fun g hg => by rw [Ev.put_other _ _ _ _ (hne g hg)]
  refine ⟨p4, by omega, by have := h.one; omega, ?_, by rw [Ev.put_kind]; exact h.lo, by rw [Ev.put_kind]; exact h.hi, by rw [Ev.put_kind]; exact p2, by rw [Ev.put_kind]; exact p3⟩
  rw [p1, List.flatMap_append, hm, Ev.put_kind, ← List.append_assoc, ← h.text, List.flatMap_cons, List.flatMap_nil, List.append_nil, Ev.put_get, zig_zag, e1, List.take_add]
theorem from_end {b : List UInt8} {e : Ev} {i pos : Nat} (h : FromAt b e i pos) (hf : e.fl[i]? = none) : b.take pos = e.bytes ∧ pos ≤ b.length ∧ 1 ≤ pos := by
  have hi := List.getElem?_eq_none_iff.1 hf
  refine ⟨?_, h.ple, h.one⟩
  rw [h.text, List.take_of_length_le hi]
  rfl
end Go.Proofs.YtdfkegflnebckaaDoor.W
