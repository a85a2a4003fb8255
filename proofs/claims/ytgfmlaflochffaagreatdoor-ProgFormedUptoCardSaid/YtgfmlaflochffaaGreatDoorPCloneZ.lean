/-
  prog.Clone: a program's clone reads as it.
-/
import Derived.Test.YtgfmlaflochffaaGreatDoorPSetZ
import Derived.Deep.Cut
import Derived.Deep.CutRange
import Derived.Deep.AppendLies
import Derived.Deep.DrawnRows
import Derived.Deep.RegionLaw
namespace Go.Proofs.YtgfmlaflochffaaGreatDoor
open Go.RowKit Go.Maps W
attribute [local go_sem ↓] Go.wp_at_zero Go.wp_at_succ

/-- One thread more, with what it holds. -/
theorem Pp.pushThread {F : List Nat} {B pb : Nat} {W W2 : World} {vc vt v' : Value} {p : Pg} {us : List Value} {u0 : Value} {t0 : List (List PAct)} (h : Pp F B pb W vc vt p) (hrow : W.ownsRow B tH 1 vt us.length us) (hlen : us.length = p.threads.length)
    (hus : (∀ (i : Nat) u t, us[i]? = some u → p.threads[i]? = some t → TxAt W B u t) ∧ (∀ (i j : Nat) u v g, i ≠ j → us[i]? = some u → us[j]? = some v → u.ownBlock = some g → v.ownBlock ≠ some g) ∧ ∀ g ∈ F, vt.ownBlock ≠ some g ∧ ∀ u ∈ us, u.ownBlock ≠ some g)
    (h0 : TxAt W B u0 t0) (h0u : ∀ (i : Nat) u g, us[i]? = some u → u.ownBlock = some g → u0.ownBlock ≠ some g) (h0F : ∀ g ∈ F, u0.ownBlock ≠ some g)
    (hown : W2.ownsRow B tH 1 v' (us.length + 1) (us ++ [u0])) (hg : W.grownBy W2 vt.ownBlock) (hat : v'.ownBlock = vt.ownBlock ∨ v'.ownBlock = some W.heap.size) (hB : B ≤ W.heap.size) :
    Pp F B pb (W2.setCell ⟨pb, 1, none⟩ v') vc v' { p with threads := p.threads ++ [t0] } ∧ KeptF F W (W2.setCell ⟨pb, 1, none⟩ v') ∧ Below B W (W2.setCell ⟨pb, 1, none⟩ v') := by
  have hbx := h.box
  obtain ⟨u1, u2, u3⟩ := hus
  have hpv : vt.ownBlock ≠ some pb := Blk.apartRow h.box hrow (by decide)
  have hpv' : v'.ownBlock ≠ some pb := by
    rcases hat with e | e
    · rw [e]; exact hpv
    · rw [e]; intro e2; injection e2 with e2; have := hbx.lt; omega
  have keep : ∀ (g : Nat) (cs : Array Value) (t : TypeId), t ≠ tH → t ≠ tP → W.heap[g]? = some (.cells cs t (0, 0)) → (W2.setCell ⟨pb, 1, none⟩ v').heap[g]? = W.heap[g]? := by
    intro g cs t h1 h2 hgt
    have e1 : g ≠ pb := type_ne hgt hbx h2
    have e2 : some g ≠ vt.ownBlock := by
      intro e
      obtain ⟨cs', hc⟩ := row_type hrow e.symm
      exact type_ne hgt hc h1 rfl
    exact (Below.heap_setCell W2 ⟨pb, 1, none⟩ v' g e1).trans (hg.block g (lt_of_at hgt) e2)
  refine ⟨⟨?_, h.le, row_keep h.cells (fun g cs _ hh => keep g cs tI (by decide) (by decide) hh), ⟨us ++ [u0], ?_, by simp [hlen], ?_, ?_, ?_⟩, ?_⟩, ?_, ?_⟩
  · exact (hbx.grown hg (fun e => hpv e.symm)).put 1 v'
  · have e : (us ++ [u0]).length = us.length + 1 := by simp
    rw [e]
    exact row_far hown hpv' v'
  · intro i u t hu ht
    by_cases hi : i < us.length
    · rw [List.getElem?_append_left hi] at hu
      rw [List.getElem?_append_left (by omega)] at ht
      exact (u1 i u t hu ht).keep (fun g cs _ hh => keep g cs tT (by decide) (by decide) hh) (fun g cs hh => keep g cs tA (by decide) (by decide) hh)
    · have hi2 := (List.getElem?_eq_some_iff.1 hu).1
      simp at hi2
      obtain rfl : i = us.length := by omega
      obtain rfl : u = u0 := by simpa using hu.symm
      obtain rfl : t = t0 := by rw [hlen] at ht; simpa using ht.symm
      exact h0.keep (fun g cs _ hh => keep g cs tT (by decide) (by decide) hh) (fun g cs hh => keep g cs tA (by decide) (by decide) hh)
  · intro i j u v g hij hu hv hgu hgv
    by_cases hi : i < us.length
    · rw [List.getElem?_append_left hi] at hu
      by_cases hj : j < us.length
      · rw [List.getElem?_append_left hj] at hv
        exact u2 i j u v g hij hu hv hgu hgv
      · have hj2 := (List.getElem?_eq_some_iff.1 hv).1
        simp at hj2
        obtain rfl : j = us.length := by omega
        obtain rfl : v = u0 := by simpa using hv.symm
        exact h0u i u g hu hgu hgv
    · have hi2 := (List.getElem?_eq_some_iff.1 hu).1
      simp at hi2
      obtain rfl : i = us.length := by omega
      obtain rfl : u = u0 := by simpa using hu.symm
      by_cases hj : j < us.length
      · rw [List.getElem?_append_left hj] at hv
        exact h0u j v g hv hgv hgu
      · have hj2 := (List.getElem?_eq_some_iff.1 hv).1
        simp at hj2
        omega
  · intro g hgF
    refine ⟨?_, fun u hu => ?_⟩
    · rcases hat with e | e
      · rw [e]; exact (u3 g hgF).1
      · rw [e]; intro e2; injection e2 with e2; have := (h.frn g hgF).1; omega
    · rcases List.mem_append.1 hu with hu | hu
      · exact (u3 g hgF).2 u hu
      · obtain rfl : u = u0 := by simpa using hu
        exact h0F g hgF
  · intro g hgF
    obtain ⟨f1, f2, f3⟩ := h.frn g hgF
    exact ⟨by have := hg.size; simp [World.setCell]; omega, f2, f3⟩
  · intro g hgF
    obtain ⟨f1, f2, _⟩ := h.frn g hgF
    exact (Below.heap_setCell W2 ⟨pb, 1, none⟩ v' g f2).trans (hg.block g f1 (fun e => (u3 g hgF).1 e.symm))
  · exact ((Below.refl B W).grown hg hB (fun x hx => (row_own hrow hx).1)).setCell (p := ⟨pb, 1, none⟩) h.le v'

/-- The clone under way: its boxes. -/
structure Cl (w : World) (va vb : Value) (pb : Nat) (v vt : Value) (q : Pg) (W : World) : Prop where
  pp : Pp [] w.heap.size pb W v vt q
  a : Blk W w.heap.size tP #[va, vb]
  r : Blk W (w.heap.size + 1) tP #[.slice none 0 0, .slice none 0 0]
  ne : w.heap.size + 1 < pb
  below : Below w.heap.size w W
theorem below_grow {w W w5 : World} {g n c : Nat} (h : Below w.heap.size w W) (hg : W.grownBy w5 (Value.slice (some ⟨g, 0, none⟩) n c).ownBlock) (hS : w.heap.size ≤ g) : Below w.heap.size w w5 :=
  below_only h ((Only.refl [g] W).grown hg (fun k e => .inl (by have e2 : g = k := Option.some.inj e; simp [e2]))) h.size (fun x hx => by have := List.mem_singleton.1 hx; omega)
theorem pp_start {w W : World} {pb : Nat} {v : Value} {cs : List Int} (hq : Blk W pb tP #[v, .slice none 0 0]) (hown : W.ownsRow w.heap.size tI 1 v cs.length (ints cs)) (hpb : w.heap.size + 1 < pb) : Pp [] w.heap.size pb W v (.slice none 0 0) ⟨cs, []⟩ :=
  ⟨hq, by omega, hown, ⟨[], World.ownsRow_nil _ _ _ _, rfl, fun i u t hu => by simp at hu, fun i j u v g _ hu => by simp at hu, fun g hg => by simp at hg⟩, fun g hg => by simp at hg⟩
theorem cl_new {w w5 : World} {va vb v : Value} {cs : List Int} (ha : Blk w5 w.heap.size tP #[va, vb]) (hr : Blk w5 (w.heap.size + 1) tP #[.slice none 0 0, .slice none 0 0]) (hb : Below w.heap.size w w5) (hown : w5.ownsRow w.heap.size tI 1 v cs.length (ints cs)) : Cl w va vb w5.heap.size v (.slice none 0 0) ⟨cs, []⟩ (w5.alloc (.cells #[v, .slice none 0 0] tP)) :=
  ⟨pp_start (Blk.new w5 tP _) (hown.alloc _) hr.lt, ha.alloc _, hr.alloc _, hr.lt, hb.alloc hb.size _⟩
theorem cl_put {w w5 : World} {va vb v : Value} {pb : Nat} {cs : List Int} (ha : Blk w5 w.heap.size tP #[va, vb]) (hr : Blk w5 (w.heap.size + 1) tP #[.slice none 0 0, .slice none 0 0]) (hb : Below w.heap.size w w5) (hown : w5.ownsRow w.heap.size tI 1 v cs.length (ints cs)) (hq : Blk w5 pb tP #[.slice none 0 0, .slice none 0 0]) (hpb : w.heap.size + 1 < pb) : Cl w va vb pb v (.slice none 0 0) ⟨cs, []⟩ ((w5.setCell ⟨pb, 0, none⟩ v).setCell ⟨pb, 1, none⟩ (.slice none 0 0)) := by
  have hq1 := hq.put 0 v
  have o1 := row_keep hown (W' := w5.setCell ⟨pb, 0, none⟩ v) (fun g cs _ hh => Below.heap_setCell w5 ⟨pb, 0, none⟩ _ g (type_ne hh hq (by decide)))
  have o2 := row_keep o1 (W' := (w5.setCell ⟨pb, 0, none⟩ v).setCell ⟨pb, 1, none⟩ (.slice none 0 0)) (fun g cs _ hh => Below.heap_setCell _ ⟨pb, 1, none⟩ _ g (type_ne hh hq1 (by decide)))
  exact ⟨pp_start (by simpa using hq1.put 1 (.slice none 0 0)) o2 hpb, (ha.far (p := ⟨pb, 0, none⟩) (by simp; omega) v).far (p := ⟨pb, 1, none⟩) (by simp; omega) _, (hr.far (p := ⟨pb, 0, none⟩) (by simp; omega) v).far (p := ⟨pb, 1, none⟩) (by simp; omega) _, hpb, (hb.setCell (p := ⟨pb, 0, none⟩) (by simp; omega) _).setCell (p := ⟨pb, 1, none⟩) (by simp; omega) _⟩

theorem flatA_len (l : List PAct) : (flatA l).length = l.length * 3 := by
  induction l with
  | nil => rfl
  | cons a r ih =>
    have e : flatA (a :: r) = (actArr a).toList ++ flatA r := by simp [flatA]
    rw [e, List.length_append, ih]
    simp [actArr]
    omega
theorem flatA_one (l : List PAct) : ∀ u ∈ flatA l, u.oneCell' = true := by
  intro u hu
  obtain ⟨a, _, h⟩ := List.mem_flatMap.1 hu
  exact actArr_one a u h
/-- A program in rows of one's own. -/
def PgOwn (W : World) (B : Nat) (vc vt : Value) (p : Pg) : Prop := W.ownsRow B tI 1 vc p.cells.length (ints p.cells) ∧ ThrAt [] W B vt p.threads
theorem PgOwn.pgAt {W : World} {B : Nat} {vc vt : Value} {p : Pg} (h : PgOwn W B vc vt p) : PgAt W vc vt p := by
  obtain ⟨h0, us, k1, k2, k3, k4, k5⟩ := h
  refine ⟨reads_of_row (by simpa [ints_len] using h0), us, reads_of_row k1, k2, fun i u t hu ht => ?_⟩
  obtain ⟨vs, r1, r2, r3⟩ := k3 i u t hu ht
  refine ⟨vs, reads_of_row r1, r2, fun j v l hv hl => ?_⟩
  exact reads_acts (r3 j v l hv hl)
theorem TxAt.call {W W' : World} {B : Nat} {u : Value} {t : List (List PAct)} (h : TxAt W B u t) (hb : Below W.heap.size W W') : TxAt W' B u t :=
  h.keep (fun g _ _ hg => hb.block g (lt_of_at hg)) (fun g _ hg => hb.block g (lt_of_at hg))
theorem TxAt.base {W : World} {B B' : Nat} {u : Value} {t : List (List PAct)} (h : TxAt W B' u t) (hB : B ≤ B') : TxAt W B u t := by
  obtain ⟨vs, k1, k2, k3⟩ := h
  exact ⟨vs, row_base k1 hB, k2, fun j v l hv hl => row_base (k3 j v l hv hl) hB⟩
theorem Cl.call {w W W' : World} {va vb v vt : Value} {pb : Nat} {q : Pg} (h : Cl w va vb pb v vt q W) (hb : Below W.heap.size W W') : Cl w va vb pb v vt q W' :=
  ⟨h.pp.call hb, h.a.below hb h.a.lt, h.r.below hb h.r.lt, h.ne, h.below.trans (hb.mono h.below.size)⟩
/-- One transaction more in a thread that is being made. -/
theorem tx_more {wo wr w0 w1 w2 : World} {u v2 av : Value} {vs : List Value} {t : List (List PAct)} {l : List PAct} {o : Obj} (k1 : wr.ownsRow wo.heap.size tT 1 u vs.length vs) (k2 : vs.length = t.length) (k3 : ∀ (j : Nat) v l, vs[j]? = some v → t[j]? = some l → wr.ownsRow wo.heap.size tA 3 v l.length (flatA l))
    (hb : Below wo.heap.size wo wr) (hg0 : wr.grownBy w0 none) (hg1 : w0.grownBy w1 (some wr.heap.size)) (hav : w1.ownsRow wo.heap.size tA 3 av l.length (flatA l)) (hown : w2.ownsRow wo.heap.size tT 1 v2 (vs.length + 1) (vs ++ [av])) (hg2 : (w1.alloc o).grownBy w2 u.ownBlock) :
    TxAt w2 wo.heap.size v2 (t ++ [l]) ∧ Below wo.heap.size wo w2 := by
  have e1 : ∀ g, g < wr.heap.size → w1.heap[g]? = wr.heap[g]? := fun g hg => (hg1.block g (by have := hg0.size; omega) (fun e => by injection e with e; omega)).trans (hg0.block g hg (by simp))
  have hsz : wr.heap.size ≤ w1.heap.size := by have := hg0.size; have := hg1.size; omega
  have u1 : w1.ownsRow wo.heap.size tT 1 u vs.length vs := row_keep k1 (fun g cs _ hh => e1 g (lt_of_at hh))
  have e2 : ∀ (g : Nat) (cs : Array Value), w1.heap[g]? = some (.cells cs tA (0, 0)) → w2.heap[g]? = w1.heap[g]? := by
    intro g cs hh
    have hlt := lt_of_at hh
    refine (hg2.block g (by simp; omega) (fun e => ?_)).trans (Below.heap_alloc w1 o g hlt)
    obtain ⟨cs', hc⟩ := row_type u1 e.symm
    exact type_ne hh hc (by decide) rfl
  refine ⟨⟨vs ++ [av], by simpa using hown, by simp [k2], fun j v l' hv hl => ?_⟩, ?_⟩
  · by_cases hj : j < vs.length
    · rw [List.getElem?_append_left hj] at hv
      rw [List.getElem?_append_left (by omega)] at hl
      exact row_keep (row_keep (k3 j v l' hv hl) (fun g cs _ hh => e1 g (lt_of_at hh))) (fun g cs _ hh => e2 g cs hh)
    · have hj2 := (List.getElem?_eq_some_iff.1 hv).1
      simp at hj2
      obtain rfl : j = vs.length := by omega
      obtain rfl : v = av := by simpa using hv.symm
      obtain rfl : l' = l := by rw [k2] at hl; simpa using hl.symm
      exact row_keep hav (fun g cs _ hh => e2 g cs hh)
  · have hs := hb.size
    have b1 : Below wo.heap.size wo w1 := (hb.grown hg0 hs (fun k e => by cases e)).grown hg1 (by have := hg0.size; omega) (fun k e => by injection e with e; omega)
    exact (b1.alloc (by omega) o).grown hg2 (by simp; omega) (fun x hx => (row_own k1 hx).1)
/-- What the last append of a thread's round gives. -/
theorem push_prep {w wo wr : World} {va vb v vt u : Value} {pb : Nat} {q : Pg} {t : List (List PAct)} (hc : Cl w va vb pb v vt q wo) (hT : TxAt wr wo.heap.size u t) (hb : Below wo.heap.size wo wr) :
    ∃ us : List Value, wr.ownsRow w.heap.size tH 1 vt us.length us ∧ us.length = q.threads.length ∧ ∀ (v' : Value) (w2 : World) (o : Obj), w2.ownsRow w.heap.size tH 1 v' (us.length + 1) (us ++ [u]) → (wr.alloc o).grownBy w2 vt.ownBlock → (v'.ownBlock = vt.ownBlock ∨ v'.ownBlock = some (wr.alloc o).heap.size) →
      Cl w va vb pb v v' ⟨q.cells, q.threads ++ [t]⟩ (w2.setCell ⟨pb, 1, none⟩ v') := by
  have hcr := hc.call hb
  obtain ⟨us, k1, k2, k3, k4, k5⟩ := hc.pp.thr
  have k1r := row_call k1 hb
  refine ⟨us, k1r, k2, fun v' w2 o hown hg hat => ?_⟩
  have hs := hb.size
  have hS := hc.below.size
  have ba : Below wr.heap.size wr (wr.alloc o) := (Below.refl _ _).alloc (Nat.le_refl _) o
  have hp2 := hcr.pp.alloc o
  have key := Pp.pushThread (u0 := u) (t0 := t) hp2 (row_call k1r ba) k2 ⟨fun i x y hx hy => ((k3 i x y hx hy).call hb).call ba, k4, k5⟩ ((hT.base hS).call ba) (fun i x g hx hgx e => by
    have hil := (List.getElem?_eq_some_iff.1 hx).1
    obtain ⟨vs, r1, _⟩ := k3 i x q.threads[i] hx (List.getElem?_eq_getElem _)
    have h1 := (row_own r1 hgx).2
    obtain ⟨ws, s1, _⟩ := hT
    have h2 := (row_own s1 e).1
    omega) (fun g hg => by simp at hg) hown hg hat (by simp; omega)
  have hvt : ∀ g (t' : TypeId) cs, Blk wr g t' cs → tH ≠ t' → some g ≠ vt.ownBlock := fun g t' cs hh ht e => hh.apartRow k1r ht e.symm
  have pa : w.heap.size ≠ pb := by have := hcr.ne; omega
  have pr : w.heap.size + 1 ≠ pb := by have := hcr.ne; omega
  exact ⟨key.1, ((hcr.a.alloc o).grown hg (hvt _ _ _ hcr.a (by decide))).far (p := ⟨pb, 1, none⟩) pa v', ((hcr.r.alloc o).grown hg (hvt _ _ _ hcr.r (by decide))).far (p := ⟨pb, 1, none⟩) pr v', hcr.ne, (hcr.below.alloc hcr.below.size o).trans key.2.2⟩
theorem resC (tmps : Array Value) (W : World) (g : Nat) (v0 v1 : Value) (h2 : tmps.getD 2 undef = .pointer (some ⟨g, 0, none⟩)) (c0 : W.cell? ⟨g, 0, none⟩ = some v0) (c1 : W.cell? ⟨g, 1, none⟩ = some v1) :
    (results Tryz.f19 tmps).run Tryz.prog W = .ok (.agg #[v0, v1]) W := by
  have h2' : tmps[2]?.getD undef = .pointer (some ⟨g, 0, none⟩) := by simpa using h2
  simp [results, Tryz.f19, h2', go_sem, c0, c1]
theorem Cl.done {w W : World} {va vb v vt : Value} {pb : Nat} {q : Pg} (h : Cl w va vb pb v vt q W) :
    PgOwn ((W.setCell ⟨w.heap.size + 1, 0, none⟩ v).setCell ⟨w.heap.size + 1, 1, none⟩ vt) w.heap.size v vt q ∧ Below w.heap.size w ((W.setCell ⟨w.heap.size + 1, 0, none⟩ v).setCell ⟨w.heap.size + 1, 1, none⟩ vt) ∧
    ((W.setCell ⟨w.heap.size + 1, 0, none⟩ v).setCell ⟨w.heap.size + 1, 1, none⟩ vt).cell? ⟨w.heap.size + 1, 0, none⟩ = some v ∧ ((W.setCell ⟨w.heap.size + 1, 0, none⟩ v).setCell ⟨w.heap.size + 1, 1, none⟩ vt).cell? ⟨w.heap.size + 1, 1, none⟩ = some vt := by
  have pr : w.heap.size + 1 ≠ pb := by have := h.ne; omega
  have r1 := h.r.put 0 v
  have p1 := h.pp.set (j := 0) v h.r pr (h.r.apartRow h.pp.cells (by decide)) (by decide) (by decide) (by decide)
  have p2 := p1.set (j := 1) vt r1 pr (h.r.apartRow h.pp.cells (by decide)) (by decide) (by decide) (by decide)
  have r2 := r1.put 1 vt
  exact ⟨⟨p2.cells, p2.thr⟩, (h.below.setCell (p := ⟨w.heap.size + 1, 0, none⟩) (by simp) _).setCell (p := ⟨w.heap.size + 1, 1, none⟩) (by simp) _, by simpa using r2.cell 0, by simpa using r2.cell 1⟩

set_option maxHeartbeats 16000000 in
set_option maxRecDepth 100000 in
theorem cloneCall (vc vt : Value) (p : Pg) (w : World) (hp : PgAt w vc vt p) (hok : pgOk p = true) :
    Calls Tryz.prog 19 #[.agg #[vc, vt]] w fun e w' => ∃ vc' vt', e = .returned (.agg #[vc', vt']) ∧ PgOwn w' w.heap.size vc' vt' p ∧ Below w.heap.size w w' := by
  obtain ⟨i0, hi, hz0, hz1, hz2⟩ := info_parts infoI
  obtain ⟨hc1, hc4, ht1, ht4, hcs, hts⟩ := pgOk_parts hok
  have HTS := hid hts
  obtain ⟨hpc, hpt⟩ := hp
  obtain ⟨Ac, cc, rfl⟩ := hpc.shape
  obtain ⟨At, ct, rfl⟩ := hpt.shape
  rw [ints_len] at hpc ⊢
  obtain ⟨bc, oc, rfl⟩ := hpc.addr (by rw [ints_len]; omega)
  have hmk : ∀ W : World, (Instr.makeSlice 22 (.int .i64 0) (.int .i64 (p.cells.length : Int))).run Tryz.prog W = .ok (.slice (some ⟨W.heap.size, 0, none⟩) 0 p.cells.length) (W.alloc (.cells (madeCells (Value.int .i64 0).cells p.cells.length) tI)) := fun W => by
    have h := run_make (P := Tryz.prog) W 22 3 i0 (.int .i64 0) Tryz.underlying22 hi hz0 .i64 .i64 0 p.cells.length (Int.le_refl _) (by omega) (by rw [hz2]; omega) (by omega)
    simpa [hz1] using h
  have HPC := hid hpc
  have HPT := hid hpt
  clear hpc hpt hcs hts hok
  have HO1 : Hid ((((w.alloc (.cells #[.slice (some ⟨bc, oc, none⟩) p.cells.length cc, .slice At p.threads.length ct] tP)).alloc (.cells #[.slice none 0 0, .slice none 0 0] tP)).alloc (.cells (madeCells #[Value.int .i64 0] p.cells.length) tI)).drew.ownsRow w.heap.size tI 1 (.slice (some ⟨w.heap.size + 1 + 1, 0, none⟩) 0 p.cells.length) 0 []) := hid ((by have h := World.ownsRow_made (base := w.heap.size) (e := tI) (size := 1) ((w.alloc (.cells #[.slice (some ⟨bc, oc, none⟩) p.cells.length cc, .slice At p.threads.length ct] tP)).alloc (.cells #[.slice none 0 0, .slice none 0 0] tP)) (madeCells #[Value.int .i64 0] p.cells.length) p.cells.length (by simp; omega) (by unfold maxLen; omega) (by simp [size_madeCells]); simpa using h : (((w.alloc (.cells #[.slice (some ⟨bc, oc, none⟩) p.cells.length cc, .slice At p.threads.length ct] tP)).alloc (.cells #[.slice none 0 0, .slice none 0 0] tP)).alloc (.cells (madeCells #[Value.int .i64 0] p.cells.length) tI)).ownsRow w.heap.size tI 1 (.slice (some ⟨w.heap.size + 1 + 1, 0, none⟩) 0 p.cells.length) 0 []))
  have HB1 : Hid (Below w.heap.size w (((w.alloc (.cells #[.slice (some ⟨bc, oc, none⟩) p.cells.length cc, .slice At p.threads.length ct] tP)).alloc (.cells #[.slice none 0 0, .slice none 0 0] tP)).alloc (.cells (madeCells #[Value.int .i64 0] p.cells.length) tI)).drew) := hid ((((Below.refl w.heap.size w).alloc (Nat.le_refl _) _).alloc (by simp) _).alloc (by simp; omega) _).drew
  have HO2 : Hid (((((w.alloc (.cells #[.slice (some ⟨bc, oc, none⟩) p.cells.length cc, .slice At p.threads.length ct] tP)).alloc (.cells #[.slice none 0 0, .slice none 0 0] tP)).alloc (.cells (madeCells #[Value.int .i64 0] p.cells.length) tI)).alloc (.cells #[.slice none 0 0, .slice none 0 0] tP)).drew.ownsRow w.heap.size tI 1 (.slice (some ⟨w.heap.size + 1 + 1, 0, none⟩) 0 p.cells.length) 0 []) := hid ((by have h := World.ownsRow_made (base := w.heap.size) (e := tI) (size := 1) ((w.alloc (.cells #[.slice (some ⟨bc, oc, none⟩) p.cells.length cc, .slice At p.threads.length ct] tP)).alloc (.cells #[.slice none 0 0, .slice none 0 0] tP)) (madeCells #[Value.int .i64 0] p.cells.length) p.cells.length (by simp; omega) (by unfold maxLen; omega) (by simp [size_madeCells]); simpa using h : (((w.alloc (.cells #[.slice (some ⟨bc, oc, none⟩) p.cells.length cc, .slice At p.threads.length ct] tP)).alloc (.cells #[.slice none 0 0, .slice none 0 0] tP)).alloc (.cells (madeCells #[Value.int .i64 0] p.cells.length) tI)).ownsRow w.heap.size tI 1 (.slice (some ⟨w.heap.size + 1 + 1, 0, none⟩) 0 p.cells.length) 0 []).alloc _)
  have HB2 : Hid (Below w.heap.size w ((((w.alloc (.cells #[.slice (some ⟨bc, oc, none⟩) p.cells.length cc, .slice At p.threads.length ct] tP)).alloc (.cells #[.slice none 0 0, .slice none 0 0] tP)).alloc (.cells (madeCells #[Value.int .i64 0] p.cells.length) tI)).alloc (.cells #[.slice none 0 0, .slice none 0 0] tP)).drew) := hid (((((Below.refl w.heap.size w).alloc (Nat.le_refl _) _).alloc (by simp) _).alloc (by simp; omega) _).alloc (by simp; omega) _).drew
  have HO3 : Hid (((((w.alloc (.cells #[.slice (some ⟨bc, oc, none⟩) p.cells.length cc, .slice At p.threads.length ct] tP)).alloc (.cells #[.slice none 0 0, .slice none 0 0] tP)).alloc (.cells #[.slice none 0 0, .slice none 0 0] tP)).alloc (.cells (madeCells #[Value.int .i64 0] p.cells.length) tI)).drew.ownsRow w.heap.size tI 1 (.slice (some ⟨w.heap.size + 1 + 1 + 1, 0, none⟩) 0 p.cells.length) 0 []) := hid ((by have h := World.ownsRow_made (base := w.heap.size) (e := tI) (size := 1) (((w.alloc (.cells #[.slice (some ⟨bc, oc, none⟩) p.cells.length cc, .slice At p.threads.length ct] tP)).alloc (.cells #[.slice none 0 0, .slice none 0 0] tP)).alloc (.cells #[.slice none 0 0, .slice none 0 0] tP)) (madeCells #[Value.int .i64 0] p.cells.length) p.cells.length (by simp; omega) (by unfold maxLen; omega) (by simp [size_madeCells]); simpa using h : ((((w.alloc (.cells #[.slice (some ⟨bc, oc, none⟩) p.cells.length cc, .slice At p.threads.length ct] tP)).alloc (.cells #[.slice none 0 0, .slice none 0 0] tP)).alloc (.cells #[.slice none 0 0, .slice none 0 0] tP)).alloc (.cells (madeCells #[Value.int .i64 0] p.cells.length) tI)).ownsRow w.heap.size tI 1 (.slice (some ⟨w.heap.size + 1 + 1 + 1, 0, none⟩) 0 p.cells.length) 0 []))
  have HB3 : Hid (Below w.heap.size w ((((w.alloc (.cells #[.slice (some ⟨bc, oc, none⟩) p.cells.length cc, .slice At p.threads.length ct] tP)).alloc (.cells #[.slice none 0 0, .slice none 0 0] tP)).alloc (.cells #[.slice none 0 0, .slice none 0 0] tP)).alloc (.cells (madeCells #[Value.int .i64 0] p.cells.length) tI)).drew) := hid (((((Below.refl w.heap.size w).alloc (Nat.le_refl _) _).alloc (by simp) _).alloc (by simp; omega) _).alloc (by simp; omega) _).drew
  have HN2 : Hid (Blk ((((w.alloc (.cells #[.slice (some ⟨bc, oc, none⟩) p.cells.length cc, .slice At p.threads.length ct] tP)).alloc (.cells #[.slice none 0 0, .slice none 0 0] tP)).alloc (.cells (madeCells #[Value.int .i64 0] p.cells.length) tI)).alloc (.cells #[.slice none 0 0, .slice none 0 0] tP)).drew (w.heap.size + 1 + 1 + 1) tP #[.slice none 0 0, .slice none 0 0]) := hid (by have h := Blk.new (((w.alloc (.cells #[.slice (some ⟨bc, oc, none⟩) p.cells.length cc, .slice At p.threads.length ct] tP)).alloc (.cells #[.slice none 0 0, .slice none 0 0] tP)).alloc (.cells (madeCells #[Value.int .i64 0] p.cells.length) tI)) tP #[.slice none 0 0, .slice none 0 0]; simpa using h.drew)
  have HN3 : Hid (Blk ((((w.alloc (.cells #[.slice (some ⟨bc, oc, none⟩) p.cells.length cc, .slice At p.threads.length ct] tP)).alloc (.cells #[.slice none 0 0, .slice none 0 0] tP)).alloc (.cells #[.slice none 0 0, .slice none 0 0] tP)).alloc (.cells (madeCells #[Value.int .i64 0] p.cells.length) tI)).drew (w.heap.size + 1 + 1) tP #[.slice none 0 0, .slice none 0 0]) := hid (by have h := (Blk.new ((w.alloc (.cells #[.slice (some ⟨bc, oc, none⟩) p.cells.length cc, .slice At p.threads.length ct] tP)).alloc (.cells #[.slice none 0 0, .slice none 0 0] tP)) tP #[.slice none 0 0, .slice none 0 0]).alloc (.cells (madeCells #[Value.int .i64 0] p.cells.length) tI); simpa using h.drew)
  have HX1 : Hid (Blk (((w.alloc (.cells #[.slice (some ⟨bc, oc, none⟩) p.cells.length cc, .slice At p.threads.length ct] tP)).alloc (.cells #[.slice none 0 0, .slice none 0 0] tP)).alloc (.cells (madeCells #[Value.int .i64 0] p.cells.length) tI)).drew w.heap.size tP #[.slice (some ⟨bc, oc, none⟩) p.cells.length cc, .slice At p.threads.length ct] ∧ Blk (((w.alloc (.cells #[.slice (some ⟨bc, oc, none⟩) p.cells.length cc, .slice At p.threads.length ct] tP)).alloc (.cells #[.slice none 0 0, .slice none 0 0] tP)).alloc (.cells (madeCells #[Value.int .i64 0] p.cells.length) tI)).drew (w.heap.size + 1) tP #[.slice none 0 0, .slice none 0 0]) := hid ⟨(((Blk.new w tP _).alloc _).alloc _).drew, (by have h := (Blk.new (w.alloc (.cells #[.slice (some ⟨bc, oc, none⟩) p.cells.length cc, .slice At p.threads.length ct] tP)) tP #[.slice none 0 0, .slice none 0 0]).alloc (.cells (madeCells #[Value.int .i64 0] p.cells.length) tI); simpa using h.drew)⟩
  have HX2 : Hid (Blk ((((w.alloc (.cells #[.slice (some ⟨bc, oc, none⟩) p.cells.length cc, .slice At p.threads.length ct] tP)).alloc (.cells #[.slice none 0 0, .slice none 0 0] tP)).alloc (.cells (madeCells #[Value.int .i64 0] p.cells.length) tI)).alloc (.cells #[.slice none 0 0, .slice none 0 0] tP)).drew w.heap.size tP #[.slice (some ⟨bc, oc, none⟩) p.cells.length cc, .slice At p.threads.length ct] ∧ Blk ((((w.alloc (.cells #[.slice (some ⟨bc, oc, none⟩) p.cells.length cc, .slice At p.threads.length ct] tP)).alloc (.cells #[.slice none 0 0, .slice none 0 0] tP)).alloc (.cells (madeCells #[Value.int .i64 0] p.cells.length) tI)).alloc (.cells #[.slice none 0 0, .slice none 0 0] tP)).drew (w.heap.size + 1) tP #[.slice none 0 0, .slice none 0 0]) := hid ⟨((((Blk.new w tP _).alloc _).alloc _).alloc _).drew, (by have h := ((Blk.new (w.alloc (.cells #[.slice (some ⟨bc, oc, none⟩) p.cells.length cc, .slice At p.threads.length ct] tP)) tP #[.slice none 0 0, .slice none 0 0]).alloc (.cells (madeCells #[Value.int .i64 0] p.cells.length) tI)).alloc (.cells #[.slice none 0 0, .slice none 0 0] tP); simpa using h.drew)⟩
  have HX3 : Hid (Blk ((((w.alloc (.cells #[.slice (some ⟨bc, oc, none⟩) p.cells.length cc, .slice At p.threads.length ct] tP)).alloc (.cells #[.slice none 0 0, .slice none 0 0] tP)).alloc (.cells #[.slice none 0 0, .slice none 0 0] tP)).alloc (.cells (madeCells #[Value.int .i64 0] p.cells.length) tI)).drew w.heap.size tP #[.slice (some ⟨bc, oc, none⟩) p.cells.length cc, .slice At p.threads.length ct] ∧ Blk ((((w.alloc (.cells #[.slice (some ⟨bc, oc, none⟩) p.cells.length cc, .slice At p.threads.length ct] tP)).alloc (.cells #[.slice none 0 0, .slice none 0 0] tP)).alloc (.cells #[.slice none 0 0, .slice none 0 0] tP)).alloc (.cells (madeCells #[Value.int .i64 0] p.cells.length) tI)).drew (w.heap.size + 1) tP #[.slice none 0 0, .slice none 0 0]) := hid ⟨((((Blk.new w tP _).alloc _).alloc _).alloc _).drew, (by have h := ((Blk.new (w.alloc (.cells #[.slice (some ⟨bc, oc, none⟩) p.cells.length cc, .slice At p.threads.length ct] tP)) tP #[.slice none 0 0, .slice none 0 0]).alloc (.cells #[.slice none 0 0, .slice none 0 0] tP)).alloc (.cells (madeCells #[Value.int .i64 0] p.cells.length) tI); simpa using h.drew)⟩
  go_enter Tryz.func19, Tryz.ntmps19
  have hnews := hid (fun (W : World) (hb : Below w.heap.size w W) (j : Nat) (u : Value) (hu : (ints p.cells)[j]? = some u) => (by
    obtain ⟨A', c', b', o', he, _, hA2, _, hcells⟩ := HPC.out.below hb (Nat.le_refl _)
    injection he with e1 e2 e3
    subst e1
    have e4 := hA2 _ rfl (by rw [ints_len]; omega)
    rw [e4]
    have hadd : (⟨b', o', none⟩ : Addr).add j = ⟨b', o' + j, none⟩ := by unfold Addr.add; split <;> simp_all
    rw [hadd]
    exact hcells j u hu : W.cell? ((⟨bc, oc, none⟩ : Addr).add j) = some u))
  go_upto_region 1 with fail
  go_cut [3] from 9 to 16 (fun s3 wx => ∃ pb v, s3 = .pointer (some ⟨pb, 0, none⟩) ∧ Cl w (.slice (some ⟨bc, oc, none⟩) p.cells.length cc) (.slice At p.threads.length ct) pb v (.slice none 0 0) ⟨p.cells, []⟩ wx)
  case first =>
    -- DEV<
    go_region_law (first
      | (refine step_append_lies _ (by rfl) (.tmp 12) (.tmp 14) 22 (by rfl) w.heap.size 3 i0 (.int .i64 0) 1 8 Tryz.underlying22 hi hz0 hz1 hz2 rfl (by omega) (.slice (some ⟨w.heap.size + 1 + 1, 0, none⟩) 0 p.cells.length) 0 [] (by rfl) HO1.out ⟨bc, oc, none⟩ p.cells.length cc (ints p.cells) (by rfl) (by rw [ints_len]; omega) (hnews.out _ HB1.out) (by simp [ints, Value.oneCell']) (by omega) (by unfold maxLen; omega) (by omega) (by simp; omega) _ rfl ?_; intro gg cap w5 hown5 hgrow5 hat5 hlt5; have hA5 := HX1.out.1.grown hgrow5 (by simp [Value.ownBlock]; try omega); have hR5 := HX1.out.2.grown hgrow5 (by simp [Value.ownBlock]; try omega); have hB5 := below_grow HB1.out hgrow5 (by omega))
      | (refine step_append_lies _ (by rfl) (.tmp 12) (.tmp 14) 22 (by rfl) w.heap.size 3 i0 (.int .i64 0) 1 8 Tryz.underlying22 hi hz0 hz1 hz2 rfl (by omega) (.slice (some ⟨w.heap.size + 1 + 1, 0, none⟩) 0 p.cells.length) 0 [] (by rfl) HO2.out ⟨bc, oc, none⟩ p.cells.length cc (ints p.cells) (by rfl) (by rw [ints_len]; omega) (hnews.out _ HB2.out) (by simp [ints, Value.oneCell']) (by omega) (by unfold maxLen; omega) (by omega) (by simp; omega) _ rfl ?_; intro gg cap w5 hown5 hgrow5 hat5 hlt5; have hA5 := HX2.out.1.grown hgrow5 (by simp [Value.ownBlock]; try omega); have hR5 := HX2.out.2.grown hgrow5 (by simp [Value.ownBlock]; try omega); have hB5 := below_grow HB2.out hgrow5 (by omega); have hQ := HN2.out.grown hgrow5 (by simp [Value.ownBlock]); have q0 := hQ.cell 0; have q1 := hQ.cell 1; have f0 := hQ.frozen 0; have f1 := hQ.frozen 1; have lq := hQ.lt)
      | (refine step_append_lies _ (by rfl) (.tmp 12) (.tmp 14) 22 (by rfl) w.heap.size 3 i0 (.int .i64 0) 1 8 Tryz.underlying22 hi hz0 hz1 hz2 rfl (by omega) (.slice (some ⟨w.heap.size + 1 + 1 + 1, 0, none⟩) 0 p.cells.length) 0 [] (by rfl) HO3.out ⟨bc, oc, none⟩ p.cells.length cc (ints p.cells) (by rfl) (by rw [ints_len]; omega) (hnews.out _ HB3.out) (by simp [ints, Value.oneCell']) (by omega) (by unfold maxLen; omega) (by omega) (by simp; omega) _ rfl ?_; intro gg cap w5 hown5 hgrow5 hat5 hlt5; have hA5 := HX3.out.1.grown hgrow5 (by simp [Value.ownBlock]; try omega); have hR5 := HX3.out.2.grown hgrow5 (by simp [Value.ownBlock]; try omega); have hB5 := below_grow HB3.out hgrow5 (by omega); have hQ := HN3.out.grown hgrow5 (by simp [Value.ownBlock]); have q0 := hQ.cell 0; have q1 := hQ.cell 1; have f0 := hQ.frozen 0; have f1 := hQ.frozen 1; have lq := hQ.lt))
    all_goals (go_wp2_with fail; go_meet)
    all_goals (first
      | exact ⟨_, _, rfl, cl_new hA5 hR5 hB5 (by simpa using hown5)⟩
      | exact ⟨_, _, rfl, cl_put hA5 hR5 hB5 (by simpa using hown5) hQ (by omega)⟩)
    -- DEV>
  case rest =>
  obtain ⟨pb, v, rfl, hcl⟩ := hcut
  obtain ⟨wb, rfl⟩ : ∃ wb : World, wb = wc := ⟨_, rfl⟩
  obtain ⟨j0, ji, jz0, jz1, jz2⟩ := info_parts infoT
  obtain ⟨q0, qi, qz0, qz1, qz2⟩ := info_parts infoAct
  obtain ⟨m0, mi, mz0, mz1, mz2⟩ := info_parts infoH
  have HCL := hid hcl
  have a1 := hcl.a.cell 1
  have la := hcl.a.lt
  clear hcl HO1 HO2 HO3 HB1 HB2 HB3 HN2 HN3 HX1 HX2 HX3 hnews hmk hi hz0 hz1 hz2
  go_wp2_with fail
  go_loopw [20] (fun si wr => ∃ (k : Nat) (vt' : Value), si = .int .i64 k ∧ k ≤ p.threads.length ∧ Cl w (.slice (some ⟨bc, oc, none⟩) p.cells.length cc) (.slice At p.threads.length ct) pb v vt' ⟨p.cells, p.threads.take k⟩ wr) (fun si _ => 5 - (intOf si).toNat)
  case atStart => exact ⟨0, _, rfl, Nat.zero_le _, HCL.out⟩
  case round =>
    obtain ⟨k, vt', rfl, hk, hcl⟩ := hrel
    have HCR := hid hcl
    by_cases hlt : k < p.threads.length
    · obtain ⟨t, ht⟩ : ∃ t, p.threads[k]? = some t := ⟨p.threads[k], List.getElem?_eq_getElem hlt⟩
      obtain ⟨b1, o1, u1, rfl, hcell, hR, _, hcap⟩ := HPT.out.at ht
      obtain ⟨A1, cp1, rfl⟩ := hR.shape
      have hcr := (hcl.below.cell (p := ⟨b1, o1 + k, none⟩) (World.block_lt_of_cell? w _ hcell)).trans hcell
      have HTO := hid (thrOk_parts (HTS.out t (List.mem_of_getElem? ht)))
      have ht3 := HTO.out.1
      have HTK : Hid (p.threads.take (k + 1) = p.threads.take k ++ [t]) := hid (by rw [List.take_succ_eq_append_getElem hlt]; rw [List.getElem?_eq_getElem hlt] at ht; injection ht with ht; rw [ht])
      have HR := hid hR
      have HBW := hid hcl.below
      have hsW := hcl.below.size
      clear ht hR hcell hcl
      go_wp2_with (at_make; refine wpList_make_own _ rfl _ _ 57 rfl wr.heap.size 56 j0 (.slice none 0 0) 1 Tryz.underlying57 ji jz0 jz1 .i64 .i64 _ t.length rfl rfl rfl (by rw [jz2]; omega) (by unfold maxLen; omega) (Nat.le_refl _) ?_; intro w3 hown3 hgrow3)
      have HT0 := hid (show TxAt w3 wr.heap.size (.slice (some ⟨wr.heap.size, 0, none⟩) 0 t.length) [] from ⟨[], hown3, rfl, fun j v l hv => by simp at hv⟩)
      have HB0 := hid ((Below.refl wr.heap.size wr).grown hgrow3 (Nat.le_refl _) (fun k e => by cases e))
      clear hown3 hgrow3 hcr
      obtain ⟨wo, rfl⟩ : ∃ wo : World, wo = wr := ⟨_, rfl⟩
      go_loopw [6, 29] (fun su si wr => ∃ j : Nat, si = .int .i64 j ∧ j ≤ t.length ∧ TxAt wr wo.heap.size su (t.take j) ∧ Below wo.heap.size wo wr) (fun _ si _ => 5 - (intOf si).toNat)
      case atStart => exact ⟨0, rfl, Nat.zero_le _, HT0.out, HB0.out⟩
      case round =>
        obtain ⟨j, rfl, hj, htx, hbr⟩ := hrel
        clear HT0 HB0
        have HBR := hid hbr
        have hsR := hbr.size
        obtain ⟨wt, rfl⟩ : ∃ wt : World, wt = wr := ⟨_, rfl⟩
        by_cases hlt2 : j < t.length
        · obtain ⟨l, hl⟩ : ∃ l, t[j]? = some l := ⟨t[j], List.getElem?_eq_getElem hlt2⟩
          obtain ⟨b2, o2, u2, rfl, hcell, hR2, _, hcap2⟩ := HR.out.at hl
          have hbw := HBW.out.trans (hbr.mono hsW)
          have hR3 := hR2.below hbw
          obtain ⟨A2, cp2, b3, o3, rfl, hA2, hA3, hcap3, hacts⟩ := hR3
          have hcr := (hbw.cell (p := ⟨b2, o2 + j, none⟩) (World.block_lt_of_cell? w _ hcell)).trans hcell
          have HLO := hid (txOk_parts (HTO.out.2 l (List.mem_of_getElem? hl)))
          have hl6 := HLO.out.2.1
          have HTJ : Hid (t.take (j + 1) = t.take j ++ [l]) := hid (by rw [List.take_succ_eq_append_getElem hlt2]; rw [List.getElem?_eq_getElem hlt2] at hl; injection hl with hl; rw [hl])
          have HNW : Hid (∀ w0, wt.grownBy w0 none → ∀ ad, A2 = some ad → ∀ j u, (flatA l)[j]? = some u → w0.cell? (ad.add j) = some u) := hid (by
            intro w0 hg ad had j u hu
            have hfl : (flatA l).length = l.length * 3 := flatA_len l
            have hjl := (List.getElem?_eq_some_iff.1 hu).1
            obtain ⟨x, hx⟩ : ∃ x, l[j / 3]? = some x := ⟨l[j / 3]'(by omega), List.getElem?_eq_getElem _⟩
            have hf := flatA_at l (j / 3) x hx (j % 3) (by omega)
            rw [show j / 3 * 3 + j % 3 = j by omega, hu] at hf
            obtain ⟨e0, e1, e2⟩ := hacts (j / 3) x hx
            rw [hA3 ad had (by omega), Addr.add_lit]
            refine hg.cell ?_ (by simp)
            rcases (show j % 3 = 0 ∨ j % 3 = 1 ∨ j % 3 = 2 by omega) with h | h | h
            · rw [h] at hf; rw [show o3 + j = o3 + j / 3 * 3 by omega, e0, hf]; rfl
            · rw [h] at hf; rw [show o3 + j = o3 + j / 3 * 3 + 1 by omega, e1, hf]; rfl
            · rw [h] at hf; rw [show o3 + j = o3 + j / 3 * 3 + 2 by omega, e2, hf]; rfl)
          have HAN := hid hA2
          obtain ⟨vs, k1, k2, k3⟩ := htx
          have hvl : vs.length = j := by rw [k2, List.length_take]; omega
          obtain ⟨Au, cu, rfl⟩ := row_shape k1
          have HK1 := hid k1
          have HK2 := hid k2
          have HK3 := hid k3
          have hv3 : vs.length ≤ 3 := by omega
          have HVL := hid hvl
          clear hl hcell hR2 hbr hbw hA2 hA3 hacts k1 k2 k3 hvl
          go_wp2_with (first
            | (at_make; refine wpList_make_own _ rfl _ _ 56 rfl wo.heap.size 80 q0 _ 3 Tryz.underlying56 qi qz0 qz1 .i64 .i64 _ l.length rfl rfl rfl (by rw [qz2]; omega) (by unfold maxLen; omega) (by omega) ?_; intro w4 hown4 hgrow4)
            | (at_builtin; refine wpList_append_fits_any _ rfl (.tmp 36) (.tmp 37) 56 rfl wo.heap.size 80 q0 3 Tryz.underlying56 qi qz1 wt.heap.size 0 l.length _ rfl hown4 A2 l.length cp2 (flatA l) rfl (flatA_len l) HAN.out (HNW.out w4 hgrow4) (flatA_one l) (by omega) ?_; intro w5 hown5 hgrow5; have HU := hid (row_keep HK1.out (fun g cs _ hh => (hgrow5.block g (by have := hgrow4.size; have := lt_of_at hh; omega) (fun e => by injection e with e; have := lt_of_at hh; omega)).trans (hgrow4.block g (lt_of_at hh) (by simp)))); have hs5 : wo.heap.size ≤ w5.heap.size := by have := hgrow4.size; have := hgrow5.size; omega)
            | (at_builtin; refine wpList_append_own_at _ rfl (.tmp 33) (.tmp 39) 57 rfl wo.heap.size 56 j0 (.slice none 0 0) 1 24 Tryz.underlying57 ji jz0 jz1 jz2 rfl (by decide) (.slice Au vs.length cu) vs.length vs rfl (HU.out.alloc _) ⟨w5.heap.size, 0, none⟩ 1 1 [.slice (some ⟨wt.heap.size, 0, none⟩) l.length l.length] rfl rfl (cell_one_new _ _ _) (by simp [Value.oneCell']) (by unfold maxLen; omega) (by omega) (by simp; omega) ?_; intro v6 w6 hown6 hgrow6 _ hat6))
          have HX := hid (tx_more (t := t.take j) (l := l) HK1.out HK2.out HK3.out HBR.out hgrow4 hgrow5 (by simpa using hown5) hown6 hgrow6)
          clear hown4 hgrow4 hown5 hgrow5 hown6 hgrow6 hat6
          go_roundw
          case rel => exact ⟨j + 1, by go_num, by omega, by rw [HTJ.out]; exact HX.out.1, HX.out.2⟩
          case measure => simp [intOf] <;> omega
        · obtain rfl : j = t.length := by omega
          rw [List.take_length] at htx
          obtain ⟨us, r1, r2, r3⟩ := push_prep HCR.out htx hbr
          have hcw := HCR.out.call hbr
          obtain ⟨At2, ct2, rfl⟩ := row_shape r1
          obtain ⟨vs, k1, k2, k3⟩ := htx
          obtain ⟨Au, cu, rfl⟩ := row_shape k1
          clear k2 k3
          have hul : us.length ≤ 4 := by rw [r2]; simp; omega
          have e1 := hcw.pp.box.cell 1
          have l1 := hcw.pp.box.lt
          have HBX := hid hcw.pp.box
          have HR1 := hid r1
          have HR3 := hid r3
          have hsS := hcw.below.size
          clear r1 r2 r3 hcw k1 hbr HBR
          go_wp2_with (at_builtin; refine wpList_append_own_at _ rfl (.tmp 43) (.tmp 45) 23 rfl w.heap.size 57 m0 (.slice none 0 0) 1 24 Tryz.underlying23 mi mz0 mz1 mz2 rfl (by decide) (.slice At2 us.length ct2) us.length us rfl (HR1.out.alloc _) ⟨wt.heap.size, 0, none⟩ 1 1 [.slice Au vs.length cu] rfl rfl (cell_one_new _ _ _) (by simp [Value.oneCell']) (by unfold maxLen; omega) (by omega) (by simp; omega) ?_; intro v7 w7 hown7 hgrow7 _ hat7; obtain ⟨A7, c7, rfl⟩ := row_shape hown7; have hP := (Blk.alloc HBX.out (.cells #[.slice Au vs.length cu] tH)).grown hgrow7 (fun e => Blk.apartRow HBX.out HR1.out (by decide) e.symm); have x1 := hP.cell 1; have f1 := hP.frozen 1; have l7 := hP.lt; have HC7 := hid (HR3.out _ w7 _ hown7 hgrow7 (by simpa using hat7)); clear hown7 hgrow7 hat7 hP)
          go_roundw
          case rel => exact ⟨k + 1, _, by go_num, by omega, by rw [HTK.out]; exact HC7.out⟩
          case measure => simp [intOf] <;> omega
    · obtain rfl : k = p.threads.length := by omega
      have hHX : p.threads.take p.threads.length = p.threads := List.take_length
      rw [hHX] at hcl
      have e0 := hcl.pp.box.cell 0
      have e1 := hcl.pp.box.cell 1
      have l0 := hcl.r.lt
      have r0 := hcl.r.cell 0
      have r1 := hcl.r.cell 1
      have f0 := hcl.r.frozen 0
      have f1 := hcl.r.frozen 1
      obtain ⟨Av, cv, rfl⟩ := row_shape hcl.pp.cells
      obtain ⟨At2, ct2, rfl⟩ : ∃ A c, vt' = .slice A p.threads.length c := by
        obtain ⟨us, r1, r2, _⟩ := hcl.pp.thr
        rw [← r2]
        exact row_shape r1
      have HD := hid hcl.done
      clear hcl HCR hHX HCL
      go_wp2_with fail
      exact bodyPost_ret (resC _ _ _ _ _ rfl HD.out.2.2.1 HD.out.2.2.2) rfl ⟨_, _, rfl, HD.out.1, HD.out.2.1⟩
end Go.Proofs.YtgfmlaflochffaaGreatDoor
