/- Cuts of byte slices as one step of a walk; piece and own. The program's own copy of a packet. -/
import Derived.Test.YtleokgmflelkcaaDoorVA12
import Derived.Deep.RegionWith
set_option linter.unusedSimpArgs false
set_option linter.unusedVariables false
namespace Go.Proofs.YtleokgmflelkcaaDoor
open Go Go.RowKit

theorem sliced_bs {w : World} {s : Sl} {xs : List Int} (h : Bs w s xs) (l u : Nat) (h1 : l ≤ u) (h2 : u ≤ s.n) : ∃ s' : Sl, sliced s.a l u s.c 1 = .slice s'.a s'.n s'.c ∧ s'.n = u - l ∧ Bs w s' ((xs.drop l).take (u - l)) := by
  obtain ⟨hl, hle, hr, hat⟩ := h
  have hlen : ((xs.drop l).take (u - l)).length = u - l := by simp; omega
  have hr' : bytesR ((xs.drop l).take (u - l)) := fun x hx => hr x (List.mem_of_mem_drop (List.mem_of_mem_take hx))
  rcases hat with ⟨hn, hc⟩ | ⟨b, o, ha, hb, hcell⟩
  · obtain rfl : l = 0 := by omega
    refine ⟨⟨s.a, u - 0, s.c - 0⟩, by unfold sliced; cases s.a <;> simp [Addr.add_zero'], rfl, hlen, by simp only; omega, hr', .inl ⟨by simp only; omega, by simp only; omega⟩⟩
  · by_cases hcl : s.c = l
    · refine ⟨⟨some ⟨b, o, none⟩, u - l, s.c - l⟩, by simp [sliced, ha, hcl], rfl, hlen, by simp only; omega, hr', .inr ⟨b, o, rfl, hb, fun i hi => by simp only at hi; omega⟩⟩
    · have hadd : (⟨b, o, none⟩ : Addr).add l = ⟨b, o + l, none⟩ := by unfold Addr.add; split <;> simp_all
      refine ⟨⟨some ⟨b, o + l, none⟩, u - l, s.c - l⟩, by simp [sliced, ha, hcl, hadd], rfl, hlen, by simp only; omega, hr', .inr ⟨b, o + l, rfl, hb, fun i hi => ?_⟩⟩
      simp only at hi
      have := hcell (l + i) (by omega)
      rw [Nat.add_assoc, this]
      unfold bAt
      rw [List.getD_eq_getElem?_getD, List.getD_eq_getElem?_getD, List.getElem?_take, if_pos hi, List.getElem?_drop]

section
variable {ops : Array Oper} {rest : List Oper} {o : Oper} {a : Act} {W : World} {Q : Exit → Act → World → Prop}
theorem wpList_slice_lh (hgd : o.guard = none) (x lo hi : Operand) (ho : o.op = .slice 26 x (some lo) (some hi) none) (s : Sl) (xs : List Int) (l u : Int) (hx : a.eval x = .slice s.a s.n s.c) (hlo : a.eval lo = .int .i64 l) (hhi : a.eval hi = .int .i64 u)
    (hb : Bs W s xs) (h0 : 0 ≤ l) (h1 : l ≤ u) (h2 : u ≤ s.n)
    (h : ∀ s' : Sl, s'.n = u.toNat - l.toNat → Bs W s' ((xs.drop l.toNat).take (u.toNat - l.toNat)) → wpList Tryd.prog ops Q rest (a.put o.dst (.slice s'.a s'.n s'.c)) W) : wpList Tryd.prog ops Q (o :: rest) a W := by
  obtain ⟨s', e1, e2, e3⟩ := sliced_bs hb l.toNat u.toNat (by omega) (by omega)
  have hle := hb.le
  refine wpList_plain hgd fun K hK => ?_
  have hrun := run_slice_lh (P := Tryd.prog) W 26 s.a s.n s.c (by kernel_rfl) .i64 .i64 l u h0 h1 (by omega)
  have hel : Tryd.prog.elem 26 = 5 := by kernel_rfl
  have hsz : (sizeOf 5).run Tryd.prog W = .ok 1 W := by kernel_rfl
  rw [hel, hsz, Result.andThen_ok, e1] at hrun
  have hat : (Instr.sliceAt 26 (.slice s.a s.n s.c) (some (.int .i64 l)) (some (.int .i64 u)) none).run Tryd.prog W = .ok (.slice s'.a s'.n s'.c) W := by
    rw [run_sliceAt_slice W 26 _ _ _ _ (by kernel_rfl)]; exact hrun
  unfold Oper.wp execOp
  simp only [ho, hx, Option.map_some, Option.map_none, hlo, hhi, hat, Sem.run_bind, Result.andThen_ok]
  exact hK _ _ (h s' e2 e3)
theorem wpList_slice_l (hgd : o.guard = none) (x lo : Operand) (ho : o.op = .slice 26 x (some lo) none none) (s : Sl) (xs : List Int) (l : Int) (hx : a.eval x = .slice s.a s.n s.c) (hlo : a.eval lo = .int .i64 l)
    (hb : Bs W s xs) (h0 : 0 ≤ l) (h1 : l ≤ s.n)
    (h : ∀ s' : Sl, s'.n = s.n - l.toNat → Bs W s' (xs.drop l.toNat) → wpList Tryd.prog ops Q rest (a.put o.dst (.slice s'.a s'.n s'.c)) W) : wpList Tryd.prog ops Q (o :: rest) a W := by
  obtain ⟨s', e1, e2, e3⟩ := sliced_bs hb l.toNat s.n (by omega) (Nat.le_refl _)
  rw [List.take_of_length_le (by simp [hb.len])] at e3
  have hle := hb.le
  refine wpList_plain hgd fun K hK => ?_
  have hrun := run_slice_l (P := Tryd.prog) W 26 s.a s.n s.c (by kernel_rfl) .i64 l h0 h1
  have hel : Tryd.prog.elem 26 = 5 := by kernel_rfl
  have hsz : (sizeOf 5).run Tryd.prog W = .ok 1 W := by kernel_rfl
  rw [hel, hsz, Result.andThen_ok, e1] at hrun
  have hat : (Instr.sliceAt 26 (.slice s.a s.n s.c) (some (.int .i64 l)) none none).run Tryd.prog W = .ok (.slice s'.a s'.n s'.c) W := by
    rw [run_sliceAt_slice W 26 _ _ _ _ (by kernel_rfl)]; exact hrun
  unfold Oper.wp execOp
  simp only [ho, hx, Option.map_some, Option.map_none, hlo, hat, Sem.run_bind, Result.andThen_ok]
  exact hK _ _ (h s' e2 e3)
theorem wpList_slice_h (hgd : o.guard = none) (x hi : Operand) (ho : o.op = .slice 26 x none (some hi) none) (s : Sl) (xs : List Int) (u : Int) (hx : a.eval x = .slice s.a s.n s.c) (hhi : a.eval hi = .int .i64 u)
    (hb : Bs W s xs) (h0 : 0 ≤ u) (h1 : u ≤ s.n)
    (h : ∀ s' : Sl, s'.n = u.toNat → Bs W s' (xs.take u.toNat) → wpList Tryd.prog ops Q rest (a.put o.dst (.slice s'.a s'.n s'.c)) W) : wpList Tryd.prog ops Q (o :: rest) a W := by
  obtain ⟨s', e1, e2, e3⟩ := sliced_bs hb 0 u.toNat (by omega) (by omega)
  rw [List.drop_zero, Nat.sub_zero] at e3
  have hle := hb.le
  refine wpList_plain hgd fun K hK => ?_
  have hrun := run_slice_h (P := Tryd.prog) W 26 s.a s.n s.c (by kernel_rfl) .i64 u h0 (by omega)
  have hel : Tryd.prog.elem 26 = 5 := by kernel_rfl
  have hsz : (sizeOf 5).run Tryd.prog W = .ok 1 W := by kernel_rfl
  rw [hel, hsz, Result.andThen_ok, e1] at hrun
  have hat : (Instr.sliceAt 26 (.slice s.a s.n s.c) none (some (.int .i64 u)) none).run Tryd.prog W = .ok (.slice s'.a s'.n s'.c) W := by
    rw [run_sliceAt_slice W 26 _ _ _ _ (by kernel_rfl)]; exact hrun
  unfold Oper.wp execOp
  simp only [ho, hx, Option.map_some, Option.map_none, hhi, hat, Sem.run_bind, Result.andThen_ok]
  exact hK _ _ (h s' (by omega) e3)
end

theorem size3 (w : World) : (sizeOf 3).run Tryd.prog w = .ok 1 w := by kernel_rfl
theorem size4 (w : World) : (sizeOf 4).run Tryd.prog w = .ok 1 w := by kernel_rfl

set_option maxRecDepth 100000 in
set_option maxHeartbeats 1000000 in
theorem piece_any (p : Pk) (os ds : List Int) (so : Sl) (os' : List Int) (l u : Int) (more : Bool) (w : World) (hp : PkIn w p os ds) (hso : Bs w so os') (hsm : so.n ≤ 140737488351232) (h0 : 0 ≤ l) (h1 : l ≤ u) (h2 : u ≤ p.d.n) (hf0 : 0 ≤ p.off) (hf1 : p.off ≤ 65535) :
    Calls Tryd.prog 35 #[.agg (pkA p), .slice so.a so.n so.c, .int .i64 l, .int .i64 u, .bool more] w (RPk { p with off := p.off + l, more := more } os' ((ds.drop l.toNat).take (u.toNat - l.toNat)) w) := by
  have hX := (((Bx.start w).alloc (pkA p) 28).alloc (pkA zPk) 28).alloc (pkA zPk) 28
  simp only [World.size_alloc] at hX
  have hX2 := ((Bx.start w).alloc (pkA p) 28).alloc (pkA zPk) 28
  simp only [World.size_alloc] at hX2
  obtain ⟨_, hl2, _, _⟩ := pk_at hX2.h1
  clear hX2
  obtain ⟨hr, hl, hs, hd⟩ := pk_at hX.h2
  have hdm := hp.dm
  have hcut := Lib.hid (show ∀ n : Nat, n = u.toNat - l.toNat → n ≤ 140737488351232 by intro n hn; omega)
  go_enter Tryd.func35, Tryd.ntmps35
  go_wp2_with (first | (refine wpList_storeA_bx rfl 28 (.tmp 11) (.tmp 12) rfl _ _ rfl rfl (bs := []) hX (by rw [pkA_size]; exact i28) (by rw [pkA_size, pkA_size]) (pkA_one _) ?_; intro W1 hX hg; obtain ⟨hr, hl, hs, hd⟩ := pk_at hX.h2; obtain ⟨hr', hl', hs', hd'⟩ := pk_at hX.h0; clear hg) | (go_at_call 49; (with_reducible refine (ref11own_any so os' _ (hso.below hX.bel) hsm).mono ?_); rintro e W1 ⟨s1, rfl, hs1, hb⟩; have hs1 := hs1.mono (show w.heap.size ≤ _ from hX.bel.size); have hX := hX.call hb; obtain ⟨hr, hl, hs, hd⟩ := pk_at hX.h2; obtain ⟨hr', hl', hs', hd'⟩ := pk_at hX.h0; clear hb) | (refine wpList_store_bx rfl 26 (.tmp 15) (.tmp 14) rfl _ 44 _ rfl rfl (bs := []) hX (size26 _) rfl rfl (by rw [pkA_size]; decide) _ (pkA_set_o _ _ _ _) ?_; intro W1 hX0 hg; have hs1 := hs1.box hX.h0 (by decide) hg; have hX := hX0; clear hX0; obtain ⟨hr, hl, hs, hd⟩ := pk_at hX.h2; obtain ⟨hr', hl', hs', hd'⟩ := pk_at hX.h0; clear hg) | (refine wpList_store_bx rfl 3 (.tmp 20) (.tmp 19) rfl _ 43 _ rfl rfl (bs := []) hX (size3 _) rfl rfl (by rw [pkA_size]; decide) _ (pkA_set_off _ _) ?_; intro W1 hX0 hg; have hs1 := hs1.box hX.h0 (by decide) hg; have hX := hX0; clear hX0; obtain ⟨hr, hl, hs, hd⟩ := pk_at hX.h2; obtain ⟨hr', hl', hs', hd'⟩ := pk_at hX.h0; clear hg) | (refine wpList_slice_lh rfl (.tmp 22) (.tmp 23) (.tmp 24) rfl p.d ds l u rfl rfl rfl (hp.d.below hX.bel) h0 h1 h2 ?_; intro sd hsd hbd; have hsm2 := hcut.out _ hsd; clear hsd) | (go_at_call 49; (with_reducible refine (ref11own_any sd _ _ hbd hsm2).mono ?_); rintro e W1 ⟨s2, rfl, hs2, hb⟩; have hs1 := hs1.below hb; have hs2 := hs2.mono (show w.heap.size ≤ _ from hX.bel.size); have hX := hX.call hb; obtain ⟨hr, hl, hs, hd⟩ := pk_at hX.h2; obtain ⟨hr', hl', hs', hd'⟩ := pk_at hX.h0; clear hb hbd hsm2) | (refine wpList_store_bx rfl 26 (.tmp 27) (.tmp 26) rfl _ 45 _ rfl rfl (bs := []) hX (size26 _) rfl rfl (by rw [pkA_size]; decide) _ (pkA_set_d _ _ _ _) ?_; intro W1 hX0 hg; have hs1 := hs1.box hX.h0 (by decide) hg; have hs2 := hs2.box hX.h0 (by decide) hg; have hX := hX0; clear hX0; obtain ⟨hr, hl, hs, hd⟩ := pk_at hX.h2; obtain ⟨hr', hl', hs', hd'⟩ := pk_at hX.h0; clear hg) | (refine wpList_store_bx rfl 4 (.tmp 29) (.tmp 28) rfl _ 41 _ rfl rfl (bs := []) hX (size4 _) rfl rfl (by rw [pkA_size]; decide) _ (pkA_set_more _ _) ?_; intro W1 hX0 hg; have hs1 := hs1.box hX.h0 (by decide) hg; have hs2 := hs2.box hX.h0 (by decide) hg; have hX := hX0; clear hX0; obtain ⟨hr, hl, hs, hd⟩ := pk_at hX.h2; obtain ⟨hr', hl', hs', hd'⟩ := pk_at hX.h0; clear hg) | (refine wpList_storeA_bx rfl 28 (.tmp 10) (.tmp 30) rfl _ _ rfl rfl (bs := [_]) hX (by rw [pkA_size]; exact i28) (by rw [pkA_size, pkA_size]) (pkA_one _) ?_; intro W1 hX0 hg; have hs1 := hs1.box hX.h1 (by decide) hg; have hs2 := hs2.box hX.h1 (by decide) hg; have hX := hX0))
  exact bodyPost_ret (results_cell rfl _ _ _ _ _ rfl hX.h1 (g28 _) (by rw [pkA_size]; exact i28)) rfl ⟨s1, s2, rfl, hs1, hs2, hX.bel⟩
end Go.Proofs.YtleokgmflelkcaaDoor
namespace Go.Proofs.YtleokgmflelkcaaDoor
open Go Go.RowKit

theorem fz_at {W : World} {b : Nat} {t : TypeId} {c : Array Value} (h : W.heap[b]? = some (.cells c t (0, 0))) : ∀ j, W.frozen? ⟨b, j, none⟩ = false := fun j => frozen_of_row W b j c t h
/-- One cell of a box is written, the world as the plain walk spells it. -/
theorem Bx.cell {w W : World} {bs cs : List (Nat × TypeId × Array Value)} {b : Nat} {t : TypeId} {c : Array Value} (h : Bx w W (bs ++ (b, t, c) :: cs)) (k : Nat) (v : Value) (c' : Array Value) (hc : c.setIfInBounds k v = c') :
    Bx w (W.setCell ⟨b, k, none⟩ v) (bs ++ (b, t, c') :: cs) ∧ W.grownBy (W.setCell ⟨b, k, none⟩ v) (some b) := by
  have hb : W.heap[b]? = some (.cells c t (0, 0)) := h.at (by simp)
  rw [setCell_eq_setRow W b k c t (0, 0) v hb, hc]
  exact ⟨h.set c', grownBy_setRow _ _ _⟩

set_option maxRecDepth 100000 in
set_option maxHeartbeats 1000000 in
theorem recutown_any (p : Pk) (os ds : List Int) (w : World) (hp : PkIn w p os ds) : Calls Tryd.prog 32 #[.agg (pkA p)] w (RPk p os ds w) := by
  have hX := ((Bx.start w).alloc (pkA p) 28).alloc (pkA zPk) 28
  simp only [World.size_alloc] at hX
  obtain ⟨hr, hl, hs, hd⟩ := pk_at hX.h1
  have ho := hp.om
  have hdm := hp.dm
  go_enter Tryd.func32, Tryd.ntmps32
  go_wp2
  have hX := hX.drew
  go_region_with (first | (go_at_call 61; (with_reducible refine (clone_any p.o os _ (hp.o.below hX.bel) ho).mono ?_); rintro e W1 ⟨s1, rfl, hs1, hb⟩; have hs1 := hs1.mono (show w.heap.size ≤ _ from hX.bel.size); (try have hs2 := hs2.below hb); have hX := hX.call hb; obtain ⟨hr, hl, hs, hd⟩ := pk_at hX.h1; have hfz := fz_at hX.h1; clear hb) | (go_at_call 61; (with_reducible refine (clone_any p.d ds _ (hp.d.below hX.bel) hdm).mono ?_); rintro e W1 ⟨s2, rfl, hs2, hb⟩; have hs2 := hs2.mono (show w.heap.size ≤ _ from hX.bel.size); (try have hs1 := hs1.below hb); have hX := hX.call hb; obtain ⟨hr, hl, hs, hd⟩ := pk_at hX.h1; have hfz := fz_at hX.h1; clear hb))
  all_goals
    obtain ⟨hX1, hg1⟩ := Bx.cell (bs := [_]) hX 44 (.slice s1.a s1.n s1.c) _ (pkA_set_o _ _ _ _)
    have hs1 := hs1.box hX.h1 (by decide) hg1
    have hs2 := hs2.box hX.h1 (by decide) hg1
    obtain ⟨hX2, hg2⟩ := Bx.cell (bs := [_]) hX1 45 (.slice s2.a s2.n s2.c) _ (pkA_set_d _ _ _ _)
    have hs1 := hs1.box hX1.h1 (by decide) hg2
    have hs2 := hs2.box hX1.h1 (by decide) hg2
    clear hX hX1 hg1 hg2 hr hl hs hd hfz
    generalize World.setCell (World.setCell _ _ _) _ _ = W5 at hX2 hs1 hs2 ⊢
    obtain ⟨hr, hl, hs, hd⟩ := pk_at hX2.h1
    go_wp2_with (refine wpList_storeA_bx rfl 28 (.tmp 2) (.tmp 11) rfl _ _ rfl rfl (bs := []) hX2 (by rw [pkA_size]; exact i28) (by rw [pkA_size, pkA_size]) (pkA_one _) ?_; intro W6 hX3 hg3; have hs1 := hs1.box hX2.h0 (by decide) hg3; have hs2 := hs2.box hX2.h0 (by decide) hg3)
    exact bodyPost_ret (results_cell rfl _ _ _ _ _ rfl hX3.h0 (g28 _) (by rw [pkA_size]; exact i28)) rfl ⟨s1, s2, rfl, hs1, hs2, hX3.bel⟩
end Go.Proofs.YtleokgmflelkcaaDoor
