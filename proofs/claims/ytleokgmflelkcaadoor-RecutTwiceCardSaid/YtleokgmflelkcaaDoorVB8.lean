/- The law's known: true. -/
import Derived.Test.YtleokgmflelkcaaDoorVB7
import Derived.Deep.RegionHeld3
import Derived.BigGuard
set_option linter.unusedSimpArgs false
set_option linter.unusedVariables false
namespace Go.Proofs.YtleokgmflelkcaaDoor
open Go Go.RowKit

def RK (w : World) (e : Ending) (w' : World) : Prop :=
  ∃ (g o c : Nat) (x0 x1 x2 : Fp), e = .returned (.tuple #[.slice (some ⟨g, o, none⟩) 3 c, .int .i64 0]) ∧ PkS w' ⟨some ⟨g, o, none⟩, 3, c⟩ [x0, x1, x2] ∧ K3 x0 x1 x2 ∧ Below w.heap.size w w'
theorem Fp.k {x : Fp} {w : World} {more : Bool} {off : Int} {ds : List Int} (hp : PkIn w x.p x.os x.ds) (h : x.mp = ⟨plain0.bare, more, off, [], ds⟩) : Kx x more off ds := by
  simp only [Fp.mp, Pk.mp, Mp.mk.injEq] at h
  obtain ⟨h1, h2, h3, h4, h5⟩ := h
  exact ⟨h1, h2, h3, h4, h5, by rw [← hp.o.len, h4]; rfl, by rw [← hp.d.len, h5]⟩
theorem recut_known (s1 s2 : Sl) (w : World) (hp : PkIn w { plain0 with o := s1, d := s2 } [] (upto 100)) (hS : Sh w) : Calls Tryd.prog 11 #[.agg (pkA { plain0 with o := s1, d := s2 }), .int .i64 68] w (RK w) := by
  have h1 : s1.n = 0 := hp.o.len.symm
  have h2 : s2.n = 100 := hp.d.len.symm
  refine (recut_any { plain0 with o := s1, d := s2 } [] (upto 100) [] 68 w hp hS (fun _ _ _ _ => ⟨Nat.le_refl _, valid_nil, fun W hW hb => carry0_any s1 W hb hW⟩)).mono ?_
  rintro e w' ⟨v, n, rfl, hrow, hb⟩
  rw [recutR_plain s1 s2 h1 h2] at hrow ⊢
  obtain ⟨⟨sa, sn, sc⟩, xs, rfl, hsn, hps, hmp⟩ := hrow.reads (by
    intro m hm
    simp only [List.mem_cons, List.not_mem_nil, or_false] at hm
    rcases hm with rfl | rfl | rfl <;> decide)
  simp only at hsn
  obtain ⟨x0, x1, x2, rfl⟩ : ∃ x0 x1 x2, xs = [x0, x1, x2] := by
    have h3 : xs.length = 3 := by simpa using congrArg List.length hmp
    cases xs with
    | nil => simp at h3
    | cons x0 xs =>
      cases xs with
      | nil => simp at h3
      | cons x1 xs =>
        cases xs with
        | nil => simp at h3
        | cons x2 xs =>
          cases xs with
          | nil => exact ⟨x0, x1, x2, rfl⟩
          | cons x3 xs => simp at h3
  have h3 : sn = 3 := hps.len.symm
  subst h3
  simp only [List.map_cons, List.map_nil, List.cons.injEq, and_true] at hmp
  obtain ⟨m0, m1, m2⟩ := hmp
  have hk : K3 x0 x1 x2 := ⟨Fp.k (hps.pk x0 (by simp)) m0, Fp.k (hps.pk x1 (by simp)) m1, Fp.k (hps.pk x2 (by simp)) m2⟩
  rcases hps.at_ with ⟨_, h0, _⟩ | ⟨g, o, h0, _⟩
  · cases h0
  · simp only at h0
    subst h0
    exact ⟨g, o, sc, x0, x1, x2, rfl, hps, hk, hb⟩
theorem PkS.cell {w : World} {b o n c : Nat} {l : List Fp} (h : PkS w ⟨some ⟨b, o, none⟩, n, c⟩ l) {i : Nat} {x : Fp} (hx : l[i]? = some x) {W : World} (hb : Below w.heap.size w W) (j : Nat) (hj : j < 46) :
    W.cell? ⟨b, o + i * 46 + j, none⟩ = (pkA x.p)[j]? := by
  rcases h.at_ with ⟨h0, _⟩ | ⟨b', o', h1, h2, h3⟩
  · cases h0
  · cases h1
    exact (h3 i x hx).below hb h2 j (by rw [pkA_size]; exact hj)
theorem build_pk3 (a b c : Pk) (w : World) : (Instr.buildSlice 29 3 #[(0, .agg (pkA a)), (1, .agg (pkA b)), (2, .agg (pkA c))]).run Tryd.prog w = .ok (.slice (some ⟨w.heap.size, 0, none⟩) 3 3) (w.alloc (.cells (pkA a ++ (pkA b ++ pkA c)) 28)) := by
  unfold pkA
  kernel_rfl
def buildX (x y z : Value) : Sem Next := do pure (.value (← Instr.buildSlice 29 3 #[(0, x), (1, y), (2, z)]))
@[local go_sem ↓] theorem execOp_build3 (ev : Operand → Value) (d : Option Tmp) (x y z : Operand) (t : TypeId) (s : String) (af : Array Edge) (gd : Option (Nat × Bool)) : execOp ev { dst := d, op := .buildSlice 29 3 #[(0, x), (1, y), (2, z)], type := t, pos := s, after := af, guard := gd } = buildX (ev x) (ev y) (ev z) := by
  simp [execOp, buildX]
@[local go_sem] theorem run_buildX (a b c : Pk) (w : World) : (buildX (.agg (pkA a)) (.agg (pkA b)) (.agg (pkA c))).run Tryd.prog w = .ok (.value (.slice (some ⟨w.heap.size, 0, none⟩) 3 3)) (w.alloc (.cells (pkA a ++ (pkA b ++ pkA c)) 28)) := by
  unfold buildX
  rw [Sem.run_bind, build_pk3]
  rfl
/-- A box of a packet's size. -/
def isBox (W : World) (b : Nat) : Bool := match W.heap[b]? with | some (.cells c 28 (0, 0)) => c.size == 46 | _ => false
theorem isBox_iff {W : World} {b : Nat} (h : isBox W b = true) : ∃ c, W.heap[b]? = some (.cells c 28 (0, 0)) ∧ c.size = 46 := by
  unfold isBox at h
  split at h
  · rename_i c hc
    exact ⟨c, hc, by simpa using h⟩
  · cases h
theorem isBox_of {W : World} {b : Nat} {c : Array Value} (h : W.heap[b]? = some (.cells c 28 (0, 0))) (hc : c.size = 46) : isBox W b = true := by
  unfold isBox; rw [h]; simpa using hc
def storeP (a : Addr) (q : Pk) : Sem Unit := storeCells a (pkA q).toList
def storeR (P : Program) (W : World) (b : Nat) (q : Pk) : Result Unit := (storeP ⟨b, 0, none⟩ q).run P W
@[local go_sem ↓] theorem storeCells_pk (a : Addr) (q : Pk) : storeCells a (pkA q).toList = storeP a q := (rfl)
@[local go_sem] theorem run_storeP (P : Program) (W : World) (b : Nat) (q : Pk) : (storeP ⟨b, 0, none⟩ q).run P W = storeR P W b q := (rfl)
@[local go_sem] theorem storeR_ok {W : World} {b : Nat} {q : Pk} (h : isBox W b = true) : storeR Tryd.prog W b q = .ok () (W.setRow b (pkA q)) := by
  obtain ⟨c, hc, hs⟩ := isBox_iff h
  have := run_storeVar_row (P := Tryd.prog) W b 28 28 c (pkA q) hc (by rw [pkA_size]; exact i28) (by rw [hs, pkA_size]) (pkA_one q)
  unfold storeVar at this
  unfold storeR storeP
  have hsz : (sizeOf 28).run Tryd.prog W = .ok 46 W := by kernel_rfl
  simp only [Sem.run_bind, hsz, Result.andThen_ok, Value.cells, pkA_size, ne_eq, not_true_eq_false, if_false, Sem.run_pure] at this
  exact this
@[local go_sem] theorem isBox_new (w : World) (p : Pk) : isBox (w.alloc (.cells (pkA p) 28)) w.heap.size = true := isBox_of (heap_alloc_new _ _) (pkA_size p)
attribute [local go_sem] pkA_size
theorem isBox.below {W W' : World} {b : Nat} (h : isBox W b = true) (hb : Below W.heap.size W W') : isBox W' b = true := by
  obtain ⟨c, hc, hs⟩ := isBox_iff h
  exact isBox_of (by rw [hb.block b (Array.getElem?_eq_some_iff.1 hc).1]; exact hc) hs
theorem below_setRow {B b : Nat} {w W : World} {c : Array Value} (h : Below B w W) (hb : B ≤ b) : Below B w (W.setRow b c) := by
  refine ⟨h.os, h.tape, h.output, by rw [setRow_size]; exact h.size, fun k hk => ?_⟩
  rw [setRow_other _ _ _ _ (by omega)]
  exact h.block k hk
def RJK (x0 : Fp) (w3 W : World) (e : Ending) (w' : World) : Prop :=
  ∃ t1 t2 : Sl, e = .returned (.tuple #[.agg (pkA { joinW x0.p with o := t1, d := t2 }), .int .i64 0]) ∧ Own w3.heap.size w' t1 [] ∧ Own w3.heap.size w' t2 (upto 100) ∧ Below W.heap.size W w'
theorem pks_build {W : World} {G : Nat} {a b c : Fp} (hh : W.heap[G]? = some (.cells (pkA a.p ++ (pkA b.p ++ pkA c.p)) 28 (0, 0))) (ha : PkIn W a.p a.os a.ds) (hb : PkIn W b.p b.os b.ds) (hc : PkIn W c.p c.os c.ds) : PkS W ⟨some ⟨G, 0, none⟩, 3, 3⟩ [a, b, c] := by
  refine ⟨rfl, Nat.le_refl _, ?_, .inr ⟨G, 0, rfl, (Array.getElem?_eq_some_iff.1 hh).1, ?_⟩⟩
  · intro x hx
    simp only [List.mem_cons, List.not_mem_nil, or_false] at hx
    rcases hx with rfl | rfl | rfl <;> assumption
  · intro i x hx j hj
    rw [pkA_size] at hj
    rw [cell_of_row W G _ _ 28 (0, 0) hh]
    match i, hx with
    | 0, hx =>
      simp only [List.getElem?_cons_zero, Option.some.injEq] at hx; subst hx
      rw [Array.getElem?_append_left (by rw [pkA_size]; omega)]
      congr 1; omega
    | 1, hx =>
      simp only [List.getElem?_cons_succ, List.getElem?_cons_zero, Option.some.injEq] at hx; subst hx
      rw [Array.getElem?_append_right (by rw [pkA_size]; omega), Array.getElem?_append_left (by rw [pkA_size, pkA_size]; omega), pkA_size]
      congr 1; omega
    | 2, hx =>
      simp only [List.getElem?_cons_succ, List.getElem?_cons_zero, Option.some.injEq] at hx; subst hx
      rw [Array.getElem?_append_right (by rw [pkA_size]; omega), Array.getElem?_append_right (by rw [pkA_size, pkA_size]; omega), pkA_size, pkA_size]
      congr 1; omega
    | i + 3, hx => simp at hx
theorem joinK {w3 W : World} {s : Sl} {x0 x1 x2 : Fp} {G : Nat} (hps : PkS w3 s [x0, x1, x2]) (hk : K3 x0 x1 x2) (hS : Sh w3) (hb : Below w3.heap.size w3 W) (hh : W.heap[G]? = some (.cells (pkA x2.p ++ (pkA x0.p ++ pkA x1.p)) 28 (0, 0))) :
    Calls Tryd.prog 19 #[.slice (some ⟨G, 0, none⟩) 3 3] W (RJK x0 w3 W) := by
  have h := pks_build hh ((hps.pk x2 (by simp)).below hb) ((hps.pk x0 (by simp)).below hb) ((hps.pk x1 (by simp)).below hb)
  refine (join_any ⟨some ⟨G, 0, none⟩, 3, 3⟩ [x2, x0, x1] W h (by simp) (hS.below hb)).mono ?_
  rintro e w' ⟨σ, t1, t2, hp, hs, rfl, h1, h2, hb'⟩
  obtain rfl := three_sorted hk hp hs
  rw [join_plain hk] at h1 h2 ⊢
  exact ⟨t1, t2, rfl, h1.mono hb.size, h2.mono hb.size, hb'⟩
theorem two_old (w : World) (A B : Obj) : ((w.alloc A).alloc B).drew.heap[w.heap.size]? = some A := by
  show ((w.alloc A).alloc B).heap[w.heap.size]? = some A
  rw [Below.heap_alloc _ _ _ (by simp)]
  exact heap_alloc_new w A
theorem two_new (w : World) (A B : Obj) : ((w.alloc A).alloc B).drew.heap[w.heap.size + 1]? = some B := by
  have := heap_alloc_new (w.alloc A) B
  rw [World.size_alloc] at this
  exact this
theorem two_below (w : World) (A B : Obj) : Below w.heap.size w ((w.alloc A).alloc B).drew := (((Below.refl _ _).alloc (Nat.le_refl _) _).alloc (by simp) _).drew
/-- Behind the join: where the two packets lie. -/
structure Fin (w w3 : World) (b4 b1 : Nat) (q p : Pk) (t1 t2 : Sl) (W : World) : Prop where
  x : Bx w W [(b4, 28, pkA q), (b1, 28, pkA p)]
  o1 : Own w3.heap.size W t1 []
  o2 : Own w3.heap.size W t2 (upto 100)
  bel : Below w3.heap.size w3 W
theorem Fin.call {w w3 W W' : World} {b4 b1 : Nat} {q p : Pk} {t1 t2 : Sl} (h : Fin w w3 b4 b1 q p t1 t2 W) (hb : Below W.heap.size W W') : Fin w w3 b4 b1 q p t1 t2 W' :=
  ⟨h.x.call hb, h.o1.below hb, h.o2.below hb, h.bel.trans (hb.mono h.bel.size)⟩
theorem fin_set {w w3 W : World} {b4 b1 : Nat} {q p : Pk} {t1 t2 : Sl} {c : Array Value} (hX : Bx w w3 [(b1, 28, pkA p)]) (hb : Below w3.heap.size w3 W) (hc : W.heap[b4]? = some (.cells c 28 (0, 0))) (h4 : w3.heap.size ≤ b4) (h1 : Own w3.heap.size W t1 []) (h2 : Own w3.heap.size W t2 (upto 100)) :
    Fin w w3 b4 b1 q p t1 t2 (W.setRow b4 (pkA q)) := by
  have hl := hX.lt (b1, 28, pkA p) (by simp)
  simp only at hl
  have hs := below_setRow (c := pkA q) hb h4
  refine ⟨⟨hX.bel.trans (hs.mono hX.bel.size), ?_, ?_⟩, h1.box hc (by decide) (grownBy_setRow _ _ _), h2.box hc (by decide) (grownBy_setRow _ _ _), hs⟩
  · intro x hx
    simp only [List.mem_cons, List.not_mem_nil, or_false] at hx
    rcases hx with rfl | rfl
    · exact ⟨Nat.le_trans hX.bel.size h4, setRow_heap _ _ _ _ _ _ hc⟩
    · exact ⟨(hX.at_ _ (by simp)).1, by rw [hs.block _ hl]; exact hX.h0⟩
  · simp only [List.map_cons, List.map_nil, List.nodup_cons, List.mem_cons, List.not_mem_nil, or_false, not_false_eq_true, List.nodup_nil, and_true]
    omega
set_option maxRecDepth 100000 in
set_option maxHeartbeats 2000000 in
theorem known_any (w : World) (hS : Sh w) : Calls Tryd.prog 14 #[] w (RB (.bool true) w) := by
  have hX := Bx.start w
  go_enter Tryd.func14, Tryd.ntmps14
  go_wp2_with (first | (go_at_call 37; ((with_reducible refine (plain_any _).mono ?_); rintro e w1 ⟨s1, s2, rfl, hs1, hs2, hb⟩; have hX := hX.call hb; clear hb)) | (refine wpList_storeA_bx rfl 28 (.tmp 1) (.tmp 6) rfl _ _ rfl rfl (bs := []) (hX.alloc (pkA zPk) 28) (by rw [pkA_size]; exact i28) ((pkA_size _).trans (pkA_size _).symm) (pkA_one _) ?_; intro W2 hX2 hg; have hX2 : Bx w W2 [_] := hX2; have hs1 := (hs1.alloc _).box (heap_alloc_new _ _) (by decide) hg; have hs2 := (hs2.alloc _).box (heap_alloc_new _ _) (by decide) hg; obtain ⟨hr, hl, _, _⟩ := pk_at hX2.h0; clear hg; dsimp only [Act.put]) | (go_at_call 11; ((with_reducible refine (recut_known s1 s2 _ ⟨hs1.bs, hs2.bs, by rw [← hs1.bs.len]; decide, by rw [← hs2.bs.len]; decide⟩ (hS.below hX2.bel)).mono ?_); rintro e w3 ⟨g, o, c, x0, x1, x2, rfl, hps, hk, hb⟩; have hX3 := hX2.call hb; have hs1 := hs1.below hb; have hs2 := hs2.below hb; clear hb; obtain ⟨hr, hl, _, _⟩ := pk_at hX3.h0; have hr3 := Below.refl w3.heap.size w3; have c0 := hps.cell (i := 0) rfl hr3 45 (by decide); have c2 := hps.cell (i := 2) rfl hr3 45 (by decide); have c3 := hps.cell (i := 2) rfl hr3 43 (by decide); have c4 := hps.cell (i := 2) rfl hr3 41 (by decide); have c5 := hps.cell (i := 1) rfl hr3 41 (by decide); rw [pkA_45, hk.k0.dn] at c0; rw [pkA_45, hk.k2.dn] at c2; rw [pkA_43, hk.k2.o] at c3; rw [pkA_41, hk.k2.m] at c4; rw [pkA_41, hk.k1.m] at c5; have e48 : ((upto 100).take 48).length = 48 := rfl; have e4 : ((upto 100).drop 96).length = 4 := rfl; rw [e48] at c0; rw [e4] at c2; simp only [Nat.zero_mul, Nat.add_zero, Nat.one_mul, Nat.reduceMul, Nat.add_assoc, Nat.reduceAdd] at c0 c2 c3 c4 c5; replace hk := Lib.hid hk; clear e48; clear e4)))
  have hkeep := Lib.hid (fun (W : World) (hb : Below w3.heap.size w3 W) => (⟨hb, by simpa using hps.load (i := 2) rfl hb, by simpa using hps.load (i := 0) rfl hb, by simpa using hps.load (i := 1) rfl hb⟩ : Below w3.heap.size w3 W ∧ loadN Tryd.prog W ⟨g, o + 92, none⟩ 46 = .ok (pkA x2.p) W ∧ loadN Tryd.prog W ⟨g, o, none⟩ 46 = .ok (pkA x0.p) W ∧ loadN Tryd.prog W ⟨g, o + 46, none⟩ 46 = .ok (pkA x1.p) W))
  have hS3 := Lib.hid (hS.below hX3.bel)
  replace hps := Lib.hid hps
  clear hr hl c0 c2 c3 c4 c5
  go_region_held3 (fun W => Below w3.heap.size w3 W ∧ loadN Tryd.prog W ⟨g, o + 92, none⟩ 46 = .ok (pkA x2.p) W ∧ loadN Tryd.prog W ⟨g, o, none⟩ 46 = .ok (pkA x0.p) W ∧ loadN Tryd.prog W ⟨g, o + 46, none⟩ 46 = .ok (pkA x1.p) W) ((refine hkeep.out _ ?_; first | exact (Below.refl _ _).drew | exact ((Below.refl _ _).alloc (Nat.le_refl _) _).drew | exact (((Below.refl _ _).alloc (Nat.le_refl _) _).alloc (by simp) _).drew | assumption | exact hB4.alloc hB4.size _ | exact below_setRow hB4 (by simp) | exact below_setRow (hB4.alloc hB4.size _) hB4.size)) ((go_at_call 19; refine (joinK (w3 := w3) hps.out hk.out hS3.out ?_ ?_).mono ?_; (first | exact ((Below.refl _ _).alloc (Nat.le_refl _) _).drew | exact two_below _ _ _); (first | exact heap_alloc_new _ _ | exact two_old _ _ _ | exact two_new _ _ _); (rintro e w4 ⟨t1, t2, rfl, ho1, ho2, hb4⟩; (first | (have hB4 : Below w3.heap.size w3 w4 := (two_below _ _ _).trans (hb4.mono (two_below _ _ _).size)) | (have hB4 : Below w3.heap.size w3 w4 := (((Below.refl w3.heap.size w3).alloc (Nat.le_refl _) _).drew).trans (hb4.mono (by simp)))); (first | (have hbx : isBox w4 (w3.heap.size + 1) = true := isBox.below (isBox_of (two_new w3 _ _) (pkA_size zPk)) hb4) | (have hbx : isBox w4 w3.heap.size = true := isBox.below (isBox_of (two_old w3 _ _) (pkA_size zPk)) hb4) | skip); clear hb4)))
  all_goals
    first
      | (obtain ⟨c4, hc4, -⟩ := isBox_iff hbx
         have F : Fin w w3 _ _ { joinW x0.p with o := t1, d := t2 } { plain0 with o := s1, d := s2 } t1 t2 _ := fin_set hX3 hB4 hc4 (by omega) ho1 ho2)
      | (have F : Fin w w3 _ _ { joinW x0.p with o := t1, d := t2 } { plain0 with o := s1, d := s2 } t1 t2 _ := fin_set hX3 (hB4.alloc hB4.size _) (heap_alloc_new w4 (.cells (pkA zPk) 28)) hB4.size (ho1.alloc _) (ho2.alloc _))
    clear hB4 ho1 ho2
    try clear hbx
    try clear hc4
    generalize hWf : World.setRow _ _ _ = Wf at F ⊢
    clear hWf
    have hP := Lib.hid (fun (V : World) (h : Below w3.heap.size w3 V) => (⟨(hs1.below h).bs, (hs2.below h).bs, by rw [← hs1.bs.len]; decide, by rw [← hs2.bs.len]; decide⟩ : PkIn V { plain0 with o := s1, d := s2 } [] (upto 100)))
    have hSame := Lib.hid (fun (V : World) (h : Below w3.heap.size w3 V) (h1 : Own w3.heap.size V t1 []) (h2 : Own w3.heap.size V t2 (upto 100)) => same_plain hk.out.k0 s1 s2 t1 t2 ▸ Same_any { plain0 with o := s1, d := s2 } { joinW x0.p with o := t1, d := t2 } [] (upto 100) [] (upto 100) V (hP.out V h) ⟨h1.bs, h2.bs, by rw [← h1.bs.len]; decide, by rw [← h2.bs.len]; decide⟩)
    have hcar := Lib.hid (fun (W : World) (hW : Sh W) (hb : Bs W s1 []) => carry0_any s1 W hb hW)
    have hIs1 := Lib.hid (fun (V : World) (h : Below w3.heap.size w3 V) => is_plain s1 s2 hs1.bs.len.symm hs2.bs.len.symm hk.out ▸ is_any { plain0 with o := s1, d := s2 } [] (upto 100) [] 119 ⟨some ⟨g, o, none⟩, 3, c⟩ [x0, x1, x2] V (hP.out V h) (hS3.out.below h) (hps.out.below h) (by simp) (fun _ _ _ => hcar.out))
    have hIs0 := Lib.hid (fun (V : World) (h : Below w3.heap.size w3 V) => is_plain67 s1 s2 [x0, x1, x2] ▸ is_any { plain0 with o := s1, d := s2 } [] (upto 100) [] 67 ⟨some ⟨g, o, none⟩, 3, c⟩ [x0, x1, x2] V (hP.out V h) (hS3.out.below h) (hps.out.below h) (by simp) (fun _ _ _ => hcar.out))
    obtain ⟨hr4, hl4, _, _⟩ := pk_at F.x.h0
    obtain ⟨hr1, hl1, _, _⟩ := pk_at F.x.h1
    go_wp2_with (first | go_big_skip | (go_at_call 21; ((with_reducible refine (hSame.out _ F.bel F.o1 F.o2).mono ?_); rintro e w5 ⟨rfl, hb⟩; have F := F.call hb; obtain ⟨hr1, hl1, _, _⟩ := pk_at F.x.h1; clear hb)) | (go_at_call 16; ((with_reducible refine (hIs1.out _ F.bel).mono ?_); rintro e w6 ⟨rfl, hb⟩; have F := F.call hb; obtain ⟨hr1, hl1, _, _⟩ := pk_at F.x.h1; clear hb)) | (go_at_call 16; ((with_reducible refine (hIs0.out _ F.bel).mono ?_); rintro e w7 ⟨rfl, hb⟩; have F := F.call hb; clear hb)))
    go_ret
    exact RB.mk' rfl F.x.bel
end Go.Proofs.YtleokgmflelkcaaDoor
