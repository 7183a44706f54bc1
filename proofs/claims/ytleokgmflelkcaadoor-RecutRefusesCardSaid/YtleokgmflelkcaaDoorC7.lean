/- RecutRefuses, walked: IPv6, whole. -/
import Derived.Test.YtleokgmflelkcaaDoorC6
set_option linter.unusedSimpArgs false
set_option linter.unusedVariables false
namespace Go.Proofs.YtleokgmflelkcaaDoor
open Go Go.RowKit

attribute [local go_sem ↓] execOp_build1
attribute [local go_sem] run_buildY
set_option maxRecDepth 100000 in
set_option maxHeartbeats 2000000 in
theorem refuses_6b (p : Pk) (os ds : List Int) (mtu : Int) (w : World) (hp : PkIn w p os ds) (hS : Sh w)
    (hmt1 : 68 ≤ mtu) (hmt2 : mtu ≤ 65535) (hm3 : 40 + (rightDs os ds).length ≤ mtu) : Calls Tryd.prog 9 #[.agg (pkA p), .int .i64 mtu, .bool true] w (RB (.bool true) w) := by
  have hX := (Bx.start w).alloc (pkA p) 28
  obtain ⟨hr0, hl0, _, _⟩ := pk_at hX.h0
  replace hm3 := Lib.hid hm3
  go_enter Tryd.func9, Tryd.ntmps9
  go_upto_region 6 with (first | go_big_skip | (go_at_call 22; ((with_reducible refine (right_any p os ds _ (hp.below hX.bel) (hS.below hX.bel)).mono ?_); rintro e w1 ⟨s1, s2, rfl, hs1, hs2, hb⟩; have hs1 := hs1.mono hX.bel.size; have hs2 := hs2.mono hX.bel.size; have hX := hX.call hb; clear hb)) | (refine wpList_storeA_bx rfl 28 (.tmp 7) (.tmp 19) rfl _ _ rfl rfl (bs := []) (hX.alloc (pkA zPk) 28) (by rw [pkA_size]; exact i28) ((pkA_size _).trans (pkA_size _).symm) (pkA_one _) ?_; intro W2 hX2 hg; have hX2 : Bx w W2 [_, _] := hX2; have hs1 := (hs1.alloc _).box (heap_alloc_new _ _) (by decide) hg; have hs2 := (hs2.alloc _).box (heap_alloc_new _ _) (by decide) hg; clear hg; dsimp only [Act.put]) | (refine wpList_store_bx rfl 4 (.tmp 20) (.const _) rfl _ 40 _ rfl rfl (bs := []) hX2 (size4 _) rfl rfl (by rw [pkA_size]; decide) _ (pkA_set_df _ _) ?_; intro W3 hX3 hg; have hX3 : Bx w W3 [_, _] := hX3; have hs1 := hs1.box hX2.h0 (by decide) hg; have hs2 := hs2.box hX2.h0 (by decide) hg; have hat := at_of_heap hX3.h1; have hB1 := loadN_at (P := Tryd.prog) hat.srcB (adrB_size p.src); have hB2 := loadN_at (P := Tryd.prog) hat.dstB (adrB_size p.dst); obtain ⟨hr7, hl7, _, _⟩ := pk_at hX3.h0; clear hg hat; dsimp only [Act.put]) | (go_at_call 26; ((with_reducible refine (bytes_any _ _ (show s1.n ≤ _ by rw [← hs1.bs.len]; have := rightOs_len os; omega) (show s2.n ≤ _ by rw [← hs2.bs.len]; have := rightDs_len os ds; omega)).mono ?_); rintro e w4 ⟨rfl, hb⟩; have hX3 := hX3.call hb; have hs2 := hs2.below hb; have hat := at_of_heap hX3.h1; have hB1 := loadN_at (P := Tryd.prog) hat.srcB (adrB_size p.src); have hB2 := loadN_at (P := Tryd.prog) hat.dstB (adrB_size p.dst); obtain ⟨hr7, hl7, _, _⟩ := pk_at hX3.h0; clear hb hat)) | (refine wpList_build_to rfl 24 #[(0, .const (.int .i64 6)), (1, .tmp 26)] rfl (adrA (sixAdr p.src)) (by kernel_rfl) ?_) | (refine wpList_build_to rfl 24 #[(0, .const (.int .i64 6)), (1, .tmp 30)] rfl (adrA (sixAdr p.dst)) (by kernel_rfl) ?_) | (refine wpList_build_to rfl 28 _ rfl (pkA (sixP p s2)) (by kernel_rfl) ?_) | (refine wpList_storeA_bx rfl 28 (.tmp 7) (.tmp 34) rfl _ _ rfl rfl (bs := []) hX3 (by rw [pkA_size]; exact i28) ((pkA_size _).trans (pkA_size _).symm) (pkA_one _) ?_; intro W5 hX5 hg; have hX5 : Bx w W5 [_, _] := hX5; have hs2 := hs2.box hX3.h0 (by decide) hg; clear hg; dsimp only [Act.put]))
  try dsimp only [Act.put]
  have hm2 : s2.n ≤ 65515 := by rw [← hs2.bs.len]; have := rightDs_len os ds; omega
  obtain ⟨q, qv, qo, qd, qh, hX⟩ : ∃ q : Pk, q.v = 6 ∧ q.o = ⟨none, 0, 0⟩ ∧ q.d = s2 ∧ headF q [] = 40 ∧ Bx w W5 [(w1.heap.size, 28, pkA q), (w.heap.size, 28, pkA p)] :=
    ⟨sixP p s2, rfl, rfl, rfl, six_head p s2 (by omega), hX5⟩
  have q4 : q.v ≠ 4 := by rw [qv]; decide
  have hn2 : s2.n = (rightDs os ds).length := hs2.bs.len.symm
  have hW3 := hX.bel
  have hPin := Lib.hid (fun (V : World) (hb : Below W5.heap.size W5 V) => (⟨by rw [qo]; exact (own_nil 0 V).bs, by rw [qd]; exact (hs2.below hb).bs, by rw [qo]; exact Nat.zero_le _, by rw [qd]; omega⟩ : PkIn V q [] (rightDs os ds)))
  have hSV := Lib.hid (fun (V : World) (hb : Below W5.heap.size W5 V) => hS.below (hW3.trans (hb.mono hW3.size)))
  have hRa := Lib.hid (fun (V : World) (hb : Below W5.heap.size W5 V) => recut_alone (mtu := mtu) (hPin.out V hb) (hSV.out V hb) (.inl q4) (recutR_whole (by rw [qh]; omega) (by have := hm3.out; rw [qh]; omega)))
  have hRb := Lib.hid (fun (V : World) (hb : Below W5.heap.size W5 V) => recut_none (r := 1) (mtu := 67) (hPin.out V hb) (hSV.out V hb) (.inl q4) (recutR_err (.inr (.inl (by decide)))))
  have hRc := Lib.hid (fun (V : World) (hb : Below W5.heap.size W5 V) => recut_none (r := 1) (mtu := 65536) (hPin.out V hb) (hSV.out V hb) (.inl q4) (recutR_err (.inr (.inr (by decide)))))
  have hRd := Lib.hid (fun (V : World) (hb : Below W5.heap.size W5 V) (t1 t2 : Sl) (h1 : Bs V t1 ([] : List Int)) (h2 : Bs V t2 (rightDs os ds)) => recut_none (p := { q with o := t1, d := t2, ttl := 256 }) (r := 1) (mtu := 1500) ⟨h1, h2, by simp only; rw [← h1.len]; exact Nat.zero_le _, by simp only; rw [← h2.len]; have := rightDs_len os ds; omega⟩ (hSV.out V hb) (.inl q4) (recutR_err (.inl (bad_ttl _ _ rfl))))
  have hIs := Lib.hid (fun (V : World) (hb : Below W5.heap.size W5 V) (g : Nat) (hh : V.heap[g]? = some (.cells (pkA q) 28 (0, 0))) => is_alone (mtu := mtu) (b := true) (hPin.out V hb) (hSV.out V hb) (.inl q4) hh (by
    rw [isR_one, if_neg (by rw [qh]; omega), decide_eq_true (by have := hm3.out; rw [qh]; omega), Bool.and_true]
    exact sameP_self q _ _ q.o q.d))
  have hB := Below.refl W5.heap.size W5
  have hlt7 : w1.heap.size < W5.heap.size := hX.lt (w1.heap.size, 28, pkA q) (by simp)
  generalize w1.heap.size = b7 at *
  obtain ⟨hr7, hl7, _, _⟩ := pk_at hX.h0
  have h1d : q.d.n ≤ 140737488351232 := by rw [qd]; omega
  have hsz := Lib.hid (show (40 : Int) + q.d.n = 40 + (rightDs os ds).length by rw [qd, hn2])
  replace qv := Lib.hid qv
  replace q4 := Lib.hid q4
  replace qo := Lib.hid qo
  replace qd := Lib.hid qd
  replace qh := Lib.hid qh
  replace hn2 := Lib.hid hn2
  clear hr0 hl0
  go_upto_region 13 with (first | go_big_skip | (go_at_call 11; ((with_reducible refine (hRa.out _ hB).mono ?_); rintro e w5 ⟨g, o, c, x, rfl, hps, hmp, hb⟩; replace hmp := Lib.hid hmp; have hB5 := Below.refl w5.heap.size w5; have hX := hX.call hb; have hB := hB.trans (hb.mono hB.size); obtain ⟨hr7, hl7, _, _⟩ := pk_at hX.h0; clear hb)) | (go_at_call 11; ((with_reducible refine (hRb.out _ hB).mono ?_); rintro e w6 ⟨a2, c2, rfl, hb⟩; have hX := hX.call hb; have hB5 := hB5.trans (hb.mono hB5.size); have hB := hB.trans (hb.mono hB.size); obtain ⟨hr7, hl7, _, _⟩ := pk_at hX.h0; clear hb)) | (go_at_call 11; ((with_reducible refine (hRc.out _ hB).mono ?_); rintro e w7 ⟨a3, c3, rfl, hb⟩; have hX := hX.call hb; have hB5 := hB5.trans (hb.mono hB5.size); have hB := hB.trans (hb.mono hB.size); obtain ⟨hr7, hl7, _, _⟩ := pk_at hX.h0; clear hb)) | (go_at_call 12; ((with_reducible refine (lawown_any q _ _ _ (hPin.out _ hB)).mono ?_); rintro e w8 ⟨t1, t2, rfl, ht1, ht2, hb⟩; have hX := hX.call hb; have hB5 := hB5.trans (hb.mono hB5.size); have hB := hB.trans (hb.mono hB.size); obtain ⟨hr7, hl7, _, _⟩ := pk_at hX.h0; clear hb)) | (refine wpList_storeA_bx rfl 28 (.tmp 15) (.tmp 56) rfl _ _ rfl rfl (bs := []) (hX.alloc (pkA zPk) 28) (by rw [pkA_size]; exact i28) ((pkA_size _).trans (pkA_size _).symm) (pkA_one _) ?_; intro W9 hX9 hg; have hX9 : Bx w W9 [_, _, _] := hX9; have hle9 := hB.size; have hle5 := hB5.size; have hB5 := below_grown (hB5.trans ((Below.refl _ _).alloc hB5.size _)) hg hB5.size; have hB := below_grown (hB.trans ((Below.refl _ _).alloc hB.size _)) hg hB.size; have ht1 := (ht1.alloc _).box (heap_alloc_new _ _) (by decide) hg; have ht2 := (ht2.alloc _).box (heap_alloc_new _ _) (by decide) hg; clear hg; dsimp only [Act.put]) | (refine wpList_store_bx rfl 3 (.tmp 57) (.const _) rfl _ 38 _ rfl rfl (bs := []) hX9 (size3 _) rfl rfl (by rw [pkA_size]; decide) _ (pkA_set_ttl _ _) ?_; intro W10 hX10 hg; have hX10 : Bx w W10 [_, _, _] := hX10; have hB := below_grown hB hg hle9; have hB5 := below_grown hB5 hg hle5; have ht1 := ht1.box hX9.h0 (by decide) hg; have ht2 := ht2.box hX9.h0 (by decide) hg; obtain ⟨hr15, hl15, _, _⟩ := pk_at hX10.h0; obtain ⟨hr7, hl7, _, _⟩ := pk_at hX10.h1; clear hg; dsimp only [Act.put]) | (go_at_call 11; ((with_reducible refine (hRd.out _ hB t1 t2 ht1.bs ht2.bs).mono ?_); rintro e w11 ⟨a4, c4, rfl, hb⟩; have hX := hX10.tail.call hb; have hB5 := hB5.trans (hb.mono hB5.size); have hB := hB.trans (hb.mono hB.size); obtain ⟨hr7, hl7, _, _⟩ := pk_at hX.h0; clear hb)))
  have hsz' : 40 + (q.d.n : Int) ≤ mtu := by rw [hsz.out]; exact hm3.out
  go_wp2_with (first | go_big_skip | (go_at_call 14; ((with_reducible refine (known_any _ (hSV.out _ hB)).mono ?_); rintro e w12 ⟨rfl, hb⟩; have hX := hX.call hb; have hB5 := hB5.trans (hb.mono hB5.size); have hB := hB.trans (hb.mono hB.size); obtain ⟨hr7, hl7, _, _⟩ := pk_at hX.h0; clear hb)))
  obtain ⟨xo, xd, xs⟩ := Fp.pk_of hmp.out
  have hkeep := Lib.hid (fun (W : World) (hb : Below w12.heap.size w12 W) => (⟨hb, (pk_at (hX.call hb).h0).2.1, by simpa using hps.load (i := 0) rfl (hB5.trans (hb.mono hB5.size))⟩ : Below w12.heap.size w12 W ∧ loadN Tryd.prog W ⟨b7, 0, none⟩ 46 = .ok (pkA q) W ∧ loadN Tryd.prog W ⟨g, o, none⟩ 46 = .ok (pkA x.p) W))
  have hSame := Lib.hid (fun (V : World) (hb : Below w12.heap.size w12 V) => xs ▸ Same_any x.p q [] (rightDs os ds) [] (rightDs os ds) V (xo ▸ xd ▸ (hps.pk x (by simp)).below (hB5.trans (hb.mono hB5.size))) (hPin.out V (hB.trans (hb.mono hB.size))))
  replace xs := Lib.hid xs
  replace xo := Lib.hid xo
  replace xd := Lib.hid xd
  replace hps := Lib.hid hps
  clear hr7 hl7
  go_region_held3 (fun W => Below w12.heap.size w12 W ∧ loadN Tryd.prog W ⟨b7, 0, none⟩ 46 = .ok (pkA q) W ∧ loadN Tryd.prog W ⟨g, o, none⟩ 46 = .ok (pkA x.p) W) ((refine hkeep.out _ ?_; first | exact (Below.refl _ _).drew | exact hB7 | exact hB6.alloc hB6.size _ | assumption)) (first | (go_at_call 21; ((with_reducible refine (hSame.out _ (Below.refl _ _).drew).mono ?_); rintro e w13 ⟨rfl, hb⟩; have hB6 : Below w12.heap.size w12 w13 := (Below.refl _ _).drew.trans hb; clear hb)) | (go_at_call 16; ((with_reducible refine (hIs.out _ (hB.trans ((hB6.alloc hB6.size (.cells (pkA q) 28)).mono hB.size)) _ (heap_alloc_new _ _)).mono ?_); rintro e w14 ⟨rfl, hb⟩; have hB7 : Below w12.heap.size w12 w14 := (hB6.alloc hB6.size (.cells (pkA q) 28)).trans (hb.mono (by have := hB6.size; simp; omega)); clear hb)))
  all_goals
    go_wp2_with fail
    go_ret
    exact RB.mk' rfl (hX.bel.trans (hB7.mono hX.bel.size))
end Go.Proofs.YtleokgmflelkcaaDoor
