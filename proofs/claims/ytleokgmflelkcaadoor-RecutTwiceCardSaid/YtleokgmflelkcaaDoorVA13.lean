/- Cuts of byte slices inside a region that draws its order: one step of the lexical walk. The program's own same. -/
import Derived.Test.YtleokgmflelkcaaDoorVA15
import Derived.Test.YtleokgmflelkcaaDoorVA12
set_option linter.unusedSimpArgs false
set_option linter.unusedVariables false
namespace Go.Proofs.YtleokgmflelkcaaDoor
open Go Go.RowKit

section
variable {ops : Array Oper} {rest : List Oper} {o : Oper} {a : Act} {C : World → Prop} {Q : Act → Prop}
theorem wpQuiet_run (hw : Region.wanted o (yielded ops a.tmps) = true) (v : Value) (hr : ∀ w, C w → (execOp a.eval o).run Tryd.prog w = .ok (.value v) w) (h : wpQuiet Tryd.prog ops C Q rest (a.put o.dst v)) : wpQuiet Tryd.prog ops C Q (o :: rest) a := by
  unfold wpQuiet
  rw [hw]
  simp only [if_true]
  refine ⟨v, fun w hc => ?_, h⟩
  unfold Oper.quietAt
  rw [hr w hc]
  exact ⟨rfl, rfl⟩
theorem wpQuiet_slice_l (hw : Region.wanted o (yielded ops a.tmps) = true) (x lo : Operand) (ho : o.op = .slice 26 x (some lo) none none) (s s' : Sl) (l : Int) (hx : a.eval x = .slice s.a s.n s.c) (hlo : a.eval lo = .int .i64 l)
    (he : sliced s.a l.toNat s.n s.c 1 = .slice s'.a s'.n s'.c) (h0 : 0 ≤ l) (h1 : l ≤ s.n) (h : wpQuiet Tryd.prog ops C Q rest (a.put o.dst (.slice s'.a s'.n s'.c))) : wpQuiet Tryd.prog ops C Q (o :: rest) a := by
  refine wpQuiet_run hw _ (fun W _ => ?_) h
  have hrun := run_slice_l (P := Tryd.prog) W 26 s.a s.n s.c (by kernel_rfl) .i64 l h0 h1
  have hel : Tryd.prog.elem 26 = 5 := by kernel_rfl
  have hsz : (sizeOf 5).run Tryd.prog W = .ok 1 W := by kernel_rfl
  rw [hel, hsz, Result.andThen_ok, he] at hrun
  have hat : (Instr.sliceAt 26 (.slice s.a s.n s.c) (some (.int .i64 l)) none none).run Tryd.prog W = .ok (.slice s'.a s'.n s'.c) W := by
    rw [run_sliceAt_slice W 26 _ _ _ _ (by kernel_rfl)]; exact hrun
  unfold execOp
  simp only [ho, hx, Option.map_some, Option.map_none, hlo, hat, Sem.run_bind, Result.andThen_ok]
  rfl
theorem wpQuiet_slice_lh (hw : Region.wanted o (yielded ops a.tmps) = true) (x lo hi : Operand) (ho : o.op = .slice 26 x (some lo) (some hi) none) (s s' : Sl) (l u : Int) (hx : a.eval x = .slice s.a s.n s.c) (hlo : a.eval lo = .int .i64 l) (hhi : a.eval hi = .int .i64 u)
    (he : sliced s.a l.toNat u.toNat s.c 1 = .slice s'.a s'.n s'.c) (h0 : 0 ≤ l) (h1 : l ≤ u) (h2 : u ≤ s.c) (h : wpQuiet Tryd.prog ops C Q rest (a.put o.dst (.slice s'.a s'.n s'.c))) : wpQuiet Tryd.prog ops C Q (o :: rest) a := by
  refine wpQuiet_run hw _ (fun W _ => ?_) h
  have hrun := run_slice_lh (P := Tryd.prog) W 26 s.a s.n s.c (by kernel_rfl) .i64 .i64 l u h0 h1 h2
  have hel : Tryd.prog.elem 26 = 5 := by kernel_rfl
  have hsz : (sizeOf 5).run Tryd.prog W = .ok 1 W := by kernel_rfl
  rw [hel, hsz, Result.andThen_ok, he] at hrun
  have hat : (Instr.sliceAt 26 (.slice s.a s.n s.c) (some (.int .i64 l)) (some (.int .i64 u)) none).run Tryd.prog W = .ok (.slice s'.a s'.n s'.c) W := by
    rw [run_sliceAt_slice W 26 _ _ _ _ (by kernel_rfl)]; exact hrun
  unfold execOp
  simp only [ho, hx, Option.map_some, Option.map_none, hlo, hhi, hat, Sem.run_bind, Result.andThen_ok]
  rfl
end
end Go.Proofs.YtleokgmflelkcaaDoor
namespace Go.Proofs.YtleokgmflelkcaaDoor
open Go Go.RowKit

set_option maxRecDepth 100000 in
set_option maxHeartbeats 1000000 in
theorem rsame_a (p q : Pk) (os ds os' ds' : List Int) (w : World) (hp : PkIn w p os ds) (hq : PkIn w q os' ds') (h1 : decide (p.bare = q.bare) = false) : Calls Tryd.prog 38 #[.agg (pkA p), .agg (pkA q)] w (RB (.bool false) w) := by
  have hX := ((Bx.start w).alloc (pkA p) 28).alloc (pkA q) 28
  simp only [World.size_alloc] at hX
  have hI := hX.drew
  have stab := Lib.hid (fun (W W' : World) (h : Bx w W [(w.heap.size + 1, 28, pkA q), (w.heap.size, 28, pkA p)]) (hb : Below W.heap.size W W') => h.call hb)
  have hQ : ∀ V : Wd (fun W => Bx w W [(w.heap.size + 1, 28, pkA q), (w.heap.size, 28, pkA p)]), Bx w V.w [(w.heap.size + 1, 28, pkA q), (w.heap.size, 28, pkA p)] := fun V => V.h
  have hr := fun V => (pk_at (hQ V).h1).1
  have hl := fun V => (pk_at (hQ V).h1).2.1
  have hr' := fun V => (pk_at (hQ V).h0).1
  have hl' := fun V => (pk_at (hQ V).h0).2.1
  replace hQ := Lib.hid hQ
  have hne : Nonempty (Wd (fun W => Bx w W [(w.heap.size + 1, 28, pkA q), (w.heap.size, 28, pkA p)])) := ⟨⟨_, hI⟩⟩
  go_enter Tryd.func38, Tryd.ntmps38
  go_wp2
  refine wp_region_in (fun W => Bx w W [(w.heap.size + 1, 28, pkA q), (w.heap.size, 28, pkA p)]) (by kernel_rfl) (by kernel_rfl) hI ?_
  repeat (any_goals (first | go_big_quiet_step ((first | (go_at_call 39; exact call_ins stab.out (fun V => fields_any _ _) _) | (go_at_call 40; exact call_ins stab.out (fun V => bytesEqual_any p.o q.o os os' V.w (hp.o.below V.h.bel) (hq.o.below V.h.bel)) _) | (go_at_call 40; exact call_ins stab.out (fun V => bytesEqual_any p.d q.d ds ds' V.w (hp.d.below V.h.bel) (hq.d.below V.h.bel)) _))) | quiet_step ((first | (go_at_call 39; exact call_ins stab.out (fun V => fields_any _ _) _) | (go_at_call 40; exact call_ins stab.out (fun V => bytesEqual_any p.o q.o os os' V.w (hp.o.below V.h.bel) (hq.o.below V.h.bel)) _) | (go_at_call 40; exact call_ins stab.out (fun V => bytesEqual_any p.d q.d ds ds' V.w (hp.d.below V.h.bel) (hq.d.below V.h.bel)) _)))))
  refine wpQuiet_nil ?_
  rintro _ ⟨V, rfl⟩
  have hF := V.h
  go_wp2
  go_ret
  exact RB.mk' rfl hF.bel

set_option maxRecDepth 100000 in
set_option maxHeartbeats 1000000 in
theorem rsame_b (p q : Pk) (os ds os' ds' : List Int) (w : World) (hp : PkIn w p os ds) (hq : PkIn w q os' ds') (h1 : decide (p.bare = q.bare) = true) (h2 : (p.more == q.more) = false) : Calls Tryd.prog 38 #[.agg (pkA p), .agg (pkA q)] w (RB (.bool false) w) := by
  have hX := ((Bx.start w).alloc (pkA p) 28).alloc (pkA q) 28
  simp only [World.size_alloc] at hX
  have hI := hX.drew
  have stab := Lib.hid (fun (W W' : World) (h : Bx w W [(w.heap.size + 1, 28, pkA q), (w.heap.size, 28, pkA p)]) (hb : Below W.heap.size W W') => h.call hb)
  have hQ : ∀ V : Wd (fun W => Bx w W [(w.heap.size + 1, 28, pkA q), (w.heap.size, 28, pkA p)]), Bx w V.w [(w.heap.size + 1, 28, pkA q), (w.heap.size, 28, pkA p)] := fun V => V.h
  have hr := fun V => (pk_at (hQ V).h1).1
  have hl := fun V => (pk_at (hQ V).h1).2.1
  have hr' := fun V => (pk_at (hQ V).h0).1
  have hl' := fun V => (pk_at (hQ V).h0).2.1
  replace hQ := Lib.hid hQ
  have hne : Nonempty (Wd (fun W => Bx w W [(w.heap.size + 1, 28, pkA q), (w.heap.size, 28, pkA p)])) := ⟨⟨_, hI⟩⟩
  go_enter Tryd.func38, Tryd.ntmps38
  go_wp2
  refine wp_region_in (fun W => Bx w W [(w.heap.size + 1, 28, pkA q), (w.heap.size, 28, pkA p)]) (by kernel_rfl) (by kernel_rfl) hI ?_
  repeat (any_goals (first | go_big_quiet_step ((first | (go_at_call 39; exact call_ins stab.out (fun V => fields_any _ _) _) | (go_at_call 40; exact call_ins stab.out (fun V => bytesEqual_any p.o q.o os os' V.w (hp.o.below V.h.bel) (hq.o.below V.h.bel)) _) | (go_at_call 40; exact call_ins stab.out (fun V => bytesEqual_any p.d q.d ds ds' V.w (hp.d.below V.h.bel) (hq.d.below V.h.bel)) _))) | quiet_step ((first | (go_at_call 39; exact call_ins stab.out (fun V => fields_any _ _) _) | (go_at_call 40; exact call_ins stab.out (fun V => bytesEqual_any p.o q.o os os' V.w (hp.o.below V.h.bel) (hq.o.below V.h.bel)) _) | (go_at_call 40; exact call_ins stab.out (fun V => bytesEqual_any p.d q.d ds ds' V.w (hp.d.below V.h.bel) (hq.d.below V.h.bel)) _)))))
  refine wpQuiet_nil ?_
  rintro _ ⟨V, rfl⟩
  have hF := V.h
  go_wp2
  go_ret
  exact RB.mk' rfl hF.bel

set_option maxRecDepth 100000 in
set_option maxHeartbeats 1000000 in
theorem rsame_c (p q : Pk) (os ds os' ds' : List Int) (w : World) (hp : PkIn w p os ds) (hq : PkIn w q os' ds') (h1 : decide (p.bare = q.bare) = true) (h2 : (p.more == q.more) = true) (h3 : (p.off == q.off) = false) : Calls Tryd.prog 38 #[.agg (pkA p), .agg (pkA q)] w (RB (.bool false) w) := by
  have hX := ((Bx.start w).alloc (pkA p) 28).alloc (pkA q) 28
  simp only [World.size_alloc] at hX
  have hI := hX.drew
  have stab := Lib.hid (fun (W W' : World) (h : Bx w W [(w.heap.size + 1, 28, pkA q), (w.heap.size, 28, pkA p)]) (hb : Below W.heap.size W W') => h.call hb)
  have hQ : ∀ V : Wd (fun W => Bx w W [(w.heap.size + 1, 28, pkA q), (w.heap.size, 28, pkA p)]), Bx w V.w [(w.heap.size + 1, 28, pkA q), (w.heap.size, 28, pkA p)] := fun V => V.h
  have hr := fun V => (pk_at (hQ V).h1).1
  have hl := fun V => (pk_at (hQ V).h1).2.1
  have hr' := fun V => (pk_at (hQ V).h0).1
  have hl' := fun V => (pk_at (hQ V).h0).2.1
  replace hQ := Lib.hid hQ
  have hne : Nonempty (Wd (fun W => Bx w W [(w.heap.size + 1, 28, pkA q), (w.heap.size, 28, pkA p)])) := ⟨⟨_, hI⟩⟩
  go_enter Tryd.func38, Tryd.ntmps38
  go_wp2
  refine wp_region_in (fun W => Bx w W [(w.heap.size + 1, 28, pkA q), (w.heap.size, 28, pkA p)]) (by kernel_rfl) (by kernel_rfl) hI ?_
  repeat (any_goals (first | go_big_quiet_step ((first | (go_at_call 39; exact call_ins stab.out (fun V => fields_any _ _) _) | (go_at_call 40; exact call_ins stab.out (fun V => bytesEqual_any p.o q.o os os' V.w (hp.o.below V.h.bel) (hq.o.below V.h.bel)) _) | (go_at_call 40; exact call_ins stab.out (fun V => bytesEqual_any p.d q.d ds ds' V.w (hp.d.below V.h.bel) (hq.d.below V.h.bel)) _))) | quiet_step ((first | (go_at_call 39; exact call_ins stab.out (fun V => fields_any _ _) _) | (go_at_call 40; exact call_ins stab.out (fun V => bytesEqual_any p.o q.o os os' V.w (hp.o.below V.h.bel) (hq.o.below V.h.bel)) _) | (go_at_call 40; exact call_ins stab.out (fun V => bytesEqual_any p.d q.d ds ds' V.w (hp.d.below V.h.bel) (hq.d.below V.h.bel)) _)))))
  refine wpQuiet_nil ?_
  rintro _ ⟨V, rfl⟩
  have hF := V.h
  go_wp2
  go_ret
  exact RB.mk' rfl hF.bel

set_option maxRecDepth 100000 in
set_option maxHeartbeats 1000000 in
theorem rsame_d (p q : Pk) (os ds os' ds' : List Int) (w : World) (hp : PkIn w p os ds) (hq : PkIn w q os' ds') (h1 : decide (p.bare = q.bare) = true) (h2 : (p.more == q.more) = true) (h3 : (p.off == q.off) = true) (h4 : decide (os = os') = false) : Calls Tryd.prog 38 #[.agg (pkA p), .agg (pkA q)] w (RB (.bool false) w) := by
  have hX := ((Bx.start w).alloc (pkA p) 28).alloc (pkA q) 28
  simp only [World.size_alloc] at hX
  have hI := hX.drew
  have stab := Lib.hid (fun (W W' : World) (h : Bx w W [(w.heap.size + 1, 28, pkA q), (w.heap.size, 28, pkA p)]) (hb : Below W.heap.size W W') => h.call hb)
  have hQ : ∀ V : Wd (fun W => Bx w W [(w.heap.size + 1, 28, pkA q), (w.heap.size, 28, pkA p)]), Bx w V.w [(w.heap.size + 1, 28, pkA q), (w.heap.size, 28, pkA p)] := fun V => V.h
  have hr := fun V => (pk_at (hQ V).h1).1
  have hl := fun V => (pk_at (hQ V).h1).2.1
  have hr' := fun V => (pk_at (hQ V).h0).1
  have hl' := fun V => (pk_at (hQ V).h0).2.1
  replace hQ := Lib.hid hQ
  have hne : Nonempty (Wd (fun W => Bx w W [(w.heap.size + 1, 28, pkA q), (w.heap.size, 28, pkA p)])) := ⟨⟨_, hI⟩⟩
  go_enter Tryd.func38, Tryd.ntmps38
  go_wp2
  refine wp_region_in (fun W => Bx w W [(w.heap.size + 1, 28, pkA q), (w.heap.size, 28, pkA p)]) (by kernel_rfl) (by kernel_rfl) hI ?_
  repeat (any_goals (first | go_big_quiet_step ((first | (go_at_call 39; exact call_ins stab.out (fun V => fields_any _ _) _) | (go_at_call 40; exact call_ins stab.out (fun V => bytesEqual_any p.o q.o os os' V.w (hp.o.below V.h.bel) (hq.o.below V.h.bel)) _) | (go_at_call 40; exact call_ins stab.out (fun V => bytesEqual_any p.d q.d ds ds' V.w (hp.d.below V.h.bel) (hq.d.below V.h.bel)) _))) | quiet_step ((first | (go_at_call 39; exact call_ins stab.out (fun V => fields_any _ _) _) | (go_at_call 40; exact call_ins stab.out (fun V => bytesEqual_any p.o q.o os os' V.w (hp.o.below V.h.bel) (hq.o.below V.h.bel)) _) | (go_at_call 40; exact call_ins stab.out (fun V => bytesEqual_any p.d q.d ds ds' V.w (hp.d.below V.h.bel) (hq.d.below V.h.bel)) _)))))
  refine wpQuiet_nil ?_
  rintro _ ⟨V, rfl⟩
  have hF := V.h
  go_wp2
  go_ret
  exact RB.mk' rfl hF.bel

set_option maxRecDepth 100000 in
set_option maxHeartbeats 1000000 in
theorem rsame_e (p q : Pk) (os ds os' ds' : List Int) (w : World) (hp : PkIn w p os ds) (hq : PkIn w q os' ds') (h1 : decide (p.bare = q.bare) = true) (h2 : (p.more == q.more) = true) (h3 : (p.off == q.off) = true) (h4 : decide (os = os') = true) : Calls Tryd.prog 38 #[.agg (pkA p), .agg (pkA q)] w (RB (.bool (decide (ds = ds'))) w) := by
  have hX := ((Bx.start w).alloc (pkA p) 28).alloc (pkA q) 28
  simp only [World.size_alloc] at hX
  have hI := hX.drew
  have stab := Lib.hid (fun (W W' : World) (h : Bx w W [(w.heap.size + 1, 28, pkA q), (w.heap.size, 28, pkA p)]) (hb : Below W.heap.size W W') => h.call hb)
  have hQ : ∀ V : Wd (fun W => Bx w W [(w.heap.size + 1, 28, pkA q), (w.heap.size, 28, pkA p)]), Bx w V.w [(w.heap.size + 1, 28, pkA q), (w.heap.size, 28, pkA p)] := fun V => V.h
  have hr := fun V => (pk_at (hQ V).h1).1
  have hl := fun V => (pk_at (hQ V).h1).2.1
  have hr' := fun V => (pk_at (hQ V).h0).1
  have hl' := fun V => (pk_at (hQ V).h0).2.1
  replace hQ := Lib.hid hQ
  have hne : Nonempty (Wd (fun W => Bx w W [(w.heap.size + 1, 28, pkA q), (w.heap.size, 28, pkA p)])) := ⟨⟨_, hI⟩⟩
  go_enter Tryd.func38, Tryd.ntmps38
  go_wp2
  refine wp_region_in (fun W => Bx w W [(w.heap.size + 1, 28, pkA q), (w.heap.size, 28, pkA p)]) (by kernel_rfl) (by kernel_rfl) hI ?_
  repeat (any_goals (first | go_big_quiet_step ((first | (go_at_call 39; exact call_ins stab.out (fun V => fields_any _ _) _) | (go_at_call 40; exact call_ins stab.out (fun V => bytesEqual_any p.o q.o os os' V.w (hp.o.below V.h.bel) (hq.o.below V.h.bel)) _) | (go_at_call 40; exact call_ins stab.out (fun V => bytesEqual_any p.d q.d ds ds' V.w (hp.d.below V.h.bel) (hq.d.below V.h.bel)) _))) | quiet_step ((first | (go_at_call 39; exact call_ins stab.out (fun V => fields_any _ _) _) | (go_at_call 40; exact call_ins stab.out (fun V => bytesEqual_any p.o q.o os os' V.w (hp.o.below V.h.bel) (hq.o.below V.h.bel)) _) | (go_at_call 40; exact call_ins stab.out (fun V => bytesEqual_any p.d q.d ds ds' V.w (hp.d.below V.h.bel) (hq.d.below V.h.bel)) _)))))
  refine wpQuiet_nil ?_
  rintro _ ⟨V, rfl⟩
  have hF := V.h
  go_wp2
  go_ret
  exact RB.mk' rfl hF.bel

theorem rsame_any (p q : Pk) (os ds os' ds' : List Int) (w : World) (hp : PkIn w p os ds) (hq : PkIn w q os' ds') : Calls Tryd.prog 38 #[.agg (pkA p), .agg (pkA q)] w (RB (.bool (sameP p q os ds os' ds')) w) := by
  have e3 : (p.off == q.off) = decide (p.off = q.off) := by rw [Bool.eq_iff_iff]; simp
  unfold sameP
  rw [← e3]
  cases h1 : decide (p.bare = q.bare)
  · simpa using rsame_a p q os ds os' ds' w hp hq h1
  cases h2 : (p.more == q.more)
  · simpa using rsame_b p q os ds os' ds' w hp hq h1 h2
  cases h3 : (p.off == q.off)
  · simpa using rsame_c p q os ds os' ds' w hp hq h1 h2 h3
  cases h4 : decide (os = os')
  · simpa using rsame_d p q os ds os' ds' w hp hq h1 h2 h3 h4
  simpa using rsame_e p q os ds os' ds' w hp hq h1 h2 h3 h4
end Go.Proofs.YtleokgmflelkcaaDoor
