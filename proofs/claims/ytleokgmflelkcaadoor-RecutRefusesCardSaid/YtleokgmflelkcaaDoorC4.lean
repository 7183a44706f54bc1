/- RecutRefuses, walked: IPv4 with DF, whole. -/
import Derived.Test.YtleokgmflelkcaaDoorC3
import Derived.Deep.RegionHeld3
set_option linter.unusedSimpArgs false
set_option linter.unusedVariables false
namespace Go.Proofs.YtleokgmflelkcaaDoor
open Go Go.RowKit

attribute [local go_sem ↓] execOp_build1
attribute [local go_sem] run_buildY
theorem Fp.pk_of {x : Fp} {p : Pk} {os ds : List Int} (h : x.mp = p.mp os ds) : x.os = os ∧ x.ds = ds ∧ sameP x.p p os ds os ds = true := by
  simp only [Fp.mp, Pk.mp, Mp.mk.injEq] at h
  obtain ⟨h1, h2, h3, h4, h5⟩ := h
  exact ⟨h4, h5, by simp [sameP, h1, h2, h3]⟩

set_option maxRecDepth 100000 in
set_option maxHeartbeats 2000000 in
theorem refuses_4b (p : Pk) (os ds : List Int) (mtu : Int) (w : World) (hp : PkIn w p os ds) (hS : Sh w)
    (hm1 : 68 ≤ mtu) (hm2 : mtu ≤ 65535) (hm3 : 20 + (rightOs os).length + (rightDs os ds).length ≤ mtu) : Calls Tryd.prog 9 #[.agg (pkA p), .int .i64 mtu, .bool false] w (RB (.bool true) w) := by
  have hX := (Bx.start w).alloc (pkA p) 28
  obtain ⟨hr0, hl0, _, _⟩ := pk_at hX.h0
  replace hm3 := Lib.hid hm3
  go_enter Tryd.func9, Tryd.ntmps9
  go_upto_region 3 with (first | go_big_skip | (go_at_call 22; ((with_reducible refine (right_any p os ds _ (hp.below hX.bel) (hS.below hX.bel)).mono ?_); rintro e w1 ⟨s1, s2, rfl, hs1, hs2, hb⟩; have hs1 := hs1.mono hX.bel.size; have hs2 := hs2.mono hX.bel.size; have hX := hX.call hb; clear hb)) | (refine wpList_storeA_bx rfl 28 (.tmp 7) (.tmp 19) rfl _ _ rfl rfl (bs := []) (hX.alloc (pkA zPk) 28) (by rw [pkA_size]; exact i28) ((pkA_size _).trans (pkA_size _).symm) (pkA_one _) ?_; intro W2 hX2 hg; have hX2 : Bx w W2 [_, _] := hX2; have hs1 := (hs1.alloc _).box (heap_alloc_new _ _) (by decide) hg; have hs2 := (hs2.alloc _).box (heap_alloc_new _ _) (by decide) hg; clear hg; dsimp only [Act.put]) | (refine wpList_store_bx rfl 4 (.tmp 20) (.const _) rfl _ 40 _ rfl rfl (bs := []) hX2 (size4 _) rfl rfl (by rw [pkA_size]; decide) _ (pkA_set_df _ _) ?_; intro W3 hX3 hg; have hX3 : Bx w W3 [_, _] := hX3; have hs1 := hs1.box hX2.h0 (by decide) hg; have hs2 := hs2.box hX2.h0 (by decide) hg; clear hg; dsimp only [Act.put]))
  obtain ⟨q, qv, qdf, qo, qd, qh, hX⟩ : ∃ q : Pk, q.v = 4 ∧ q.df = true ∧ q.o = s1 ∧ q.d = s2 ∧ headF q (rightOs os) = 20 + (s1.n : Int) ∧ Bx w W3 [(w1.heap.size, 28, pkA q), (w.heap.size, 28, pkA p)] :=
    ⟨{ rightP p with df := true, o := s1, d := s2 }, rfl, rfl, rfl, rfl, size_right p os ds s1 s2 true hs1.bs.len.symm hs2.bs.len.symm, hX3⟩
  have hn1 : s1.n = (rightOs os).length := hs1.bs.len.symm
  have hn2 : s2.n = (rightDs os ds).length := hs2.bs.len.symm
  have hm1 : s1.n ≤ 40 := by rw [hn1]; exact rightOs_len os
  have hm2 : s2.n ≤ 65515 := by have := rightDs_len os ds; omega
  have hW3 := hX.bel
  have hPin := Lib.hid (fun (V : World) (hb : Below W3.heap.size W3 V) => (⟨by rw [qo]; exact (hs1.below hb).bs, by rw [qd]; exact (hs2.below hb).bs, by rw [qo]; omega, by rw [qd]; omega⟩ : PkIn V q (rightOs os) (rightDs os ds)))
  have hSV := Lib.hid (fun (V : World) (hb : Below W3.heap.size W3 V) => hS.below (hW3.trans (hb.mono hW3.size)))
  have hRa := Lib.hid (fun (V : World) (hb : Below W3.heap.size W3 V) => recut_alone (mtu := mtu) (hPin.out V hb) (hSV.out V hb) (.inr qdf) (recutR_whole (by rw [qh]; omega) (by have := hm3.out; rw [qh]; omega)))
  have hRb := Lib.hid (fun (V : World) (hb : Below W3.heap.size W3 V) => recut_none (r := 1) (mtu := 67) (hPin.out V hb) (hSV.out V hb) (.inr qdf) (recutR_err (.inr (.inl (by decide)))))
  have hRc := Lib.hid (fun (V : World) (hb : Below W3.heap.size W3 V) => recut_none (r := 1) (mtu := 65536) (hPin.out V hb) (hSV.out V hb) (.inr qdf) (recutR_err (.inr (.inr (by decide)))))
  have hRd := Lib.hid (fun (V : World) (hb : Below W3.heap.size W3 V) (t1 t2 : Sl) (h1 : Bs V t1 (rightOs os)) (h2 : Bs V t2 (rightDs os ds)) => recut_none (p := { q with o := t1, d := t2, ttl := 256 }) (r := 1) (mtu := 1500) ⟨h1, h2, by simp only; rw [← h1.len]; have := rightOs_len os; omega, by simp only; rw [← h2.len]; have := rightDs_len os ds; omega⟩ (hSV.out V hb) (.inr qdf) (recutR_err (.inl (bad_ttl _ _ rfl))))
  have hIs := Lib.hid (fun (V : World) (hb : Below W3.heap.size W3 V) (g : Nat) (hh : V.heap[g]? = some (.cells (pkA q) 28 (0, 0))) => is_alone (mtu := mtu) (b := true) (hPin.out V hb) (hSV.out V hb) (.inr qdf) hh (by
    rw [isR_one, if_neg (by rw [qh]; omega), decide_eq_true (by have := hm3.out; rw [qh]; omega), Bool.and_true]
    exact sameP_self q _ _ q.o q.d))
  have hB := Below.refl W3.heap.size W3
  have hlt7 : w1.heap.size < W3.heap.size := hX.lt (w1.heap.size, 28, pkA q) (by simp)
  generalize w1.heap.size = b7 at *
  obtain ⟨hr7, hl7, _, _⟩ := pk_at hX.h0
  have h1o : q.o.n ≤ 140737488351232 := by rw [qo]; omega
  have h1d : q.d.n ≤ 140737488351232 := by rw [qd]; omega
  have hsz := Lib.hid (show (20 : Int) + q.o.n + q.d.n = 20 + (rightOs os).length + (rightDs os ds).length by rw [qo, qd, hn1, hn2])
  replace qv := Lib.hid qv
  replace qdf := Lib.hid qdf
  replace qo := Lib.hid qo
  replace qd := Lib.hid qd
  replace qh := Lib.hid qh
  replace hn1 := Lib.hid hn1
  replace hn2 := Lib.hid hn2
  clear hr0 hl0 hX2 hX3
  go_upto_region 13 with (first | go_big_skip | (go_at_call 26; ((with_reducible refine (bytes_any q _ h1o h1d).mono ?_); rintro e w4 ⟨rfl, hb⟩; have hX := hX.call hb; have hB := hB.trans (hb.mono hB.size); obtain ⟨hr7, hl7, _, _⟩ := pk_at hX.h0; clear hb)) | (go_at_call 11; ((with_reducible refine (hRa.out _ hB).mono ?_); rintro e w5 ⟨g, o, c, x, rfl, hps, hmp, hb⟩; replace hmp := Lib.hid hmp; have hB5 := Below.refl w5.heap.size w5; have hX := hX.call hb; have hB := hB.trans (hb.mono hB.size); obtain ⟨hr7, hl7, _, _⟩ := pk_at hX.h0; clear hb)) | (go_at_call 11; ((with_reducible refine (hRb.out _ hB).mono ?_); rintro e w6 ⟨a2, c2, rfl, hb⟩; have hX := hX.call hb; have hB5 := hB5.trans (hb.mono hB5.size); have hB := hB.trans (hb.mono hB.size); obtain ⟨hr7, hl7, _, _⟩ := pk_at hX.h0; clear hb)) | (go_at_call 11; ((with_reducible refine (hRc.out _ hB).mono ?_); rintro e w7 ⟨a3, c3, rfl, hb⟩; have hX := hX.call hb; have hB5 := hB5.trans (hb.mono hB5.size); have hB := hB.trans (hb.mono hB.size); obtain ⟨hr7, hl7, _, _⟩ := pk_at hX.h0; clear hb)) | (go_at_call 12; ((with_reducible refine (lawown_any q _ _ _ (hPin.out _ hB)).mono ?_); rintro e w8 ⟨t1, t2, rfl, ht1, ht2, hb⟩; have hX := hX.call hb; have hB5 := hB5.trans (hb.mono hB5.size); have hB := hB.trans (hb.mono hB.size); obtain ⟨hr7, hl7, _, _⟩ := pk_at hX.h0; clear hb)) | (refine wpList_storeA_bx rfl 28 (.tmp 15) (.tmp 56) rfl _ _ rfl rfl (bs := []) (hX.alloc (pkA zPk) 28) (by rw [pkA_size]; exact i28) ((pkA_size _).trans (pkA_size _).symm) (pkA_one _) ?_; intro W9 hX9 hg; have hX9 : Bx w W9 [_, _, _] := hX9; have hle9 := hB.size; have hle5 := hB5.size; have hB5 := below_grown (hB5.trans ((Below.refl _ _).alloc hB5.size _)) hg hB5.size; have hB := below_grown (hB.trans ((Below.refl _ _).alloc hB.size _)) hg hB.size; have ht1 := (ht1.alloc _).box (heap_alloc_new _ _) (by decide) hg; have ht2 := (ht2.alloc _).box (heap_alloc_new _ _) (by decide) hg; clear hg; dsimp only [Act.put]) | (refine wpList_store_bx rfl 3 (.tmp 57) (.const _) rfl _ 38 _ rfl rfl (bs := []) hX9 (size3 _) rfl rfl (by rw [pkA_size]; decide) _ (pkA_set_ttl _ _) ?_; intro W10 hX10 hg; have hX10 : Bx w W10 [_, _, _] := hX10; have hB := below_grown hB hg hle9; have hB5 := below_grown hB5 hg hle5; have ht1 := ht1.box hX9.h0 (by decide) hg; have ht2 := ht2.box hX9.h0 (by decide) hg; obtain ⟨hr15, hl15, _, _⟩ := pk_at hX10.h0; obtain ⟨hr7, hl7, _, _⟩ := pk_at hX10.h1; clear hg; dsimp only [Act.put]) | (go_at_call 11; ((with_reducible refine (hRd.out _ hB t1 t2 ht1.bs ht2.bs).mono ?_); rintro e w11 ⟨a4, c4, rfl, hb⟩; have hX := hX10.tail.call hb; have hB5 := hB5.trans (hb.mono hB5.size); have hB := hB.trans (hb.mono hB.size); obtain ⟨hr7, hl7, _, _⟩ := pk_at hX.h0; clear hb)))
  have hsz' : 20 + (q.o.n : Int) + (q.d.n : Int) ≤ mtu := by rw [hsz.out]; exact hm3.out
  go_wp2_with (first | go_big_skip | (go_at_call 14; ((with_reducible refine (known_any _ (hSV.out _ hB)).mono ?_); rintro e w12 ⟨rfl, hb⟩; have hX := hX.call hb; have hB5 := hB5.trans (hb.mono hB5.size); have hB := hB.trans (hb.mono hB.size); obtain ⟨hr7, hl7, _, _⟩ := pk_at hX.h0; clear hb)))
  obtain ⟨xo, xd, xs⟩ := Fp.pk_of hmp.out
  have hkeep := Lib.hid (fun (W : World) (hb : Below w12.heap.size w12 W) => (⟨hb, (pk_at (hX.call hb).h0).2.1, by simpa using hps.load (i := 0) rfl (hB5.trans (hb.mono hB5.size))⟩ : Below w12.heap.size w12 W ∧ loadN Tryd.prog W ⟨b7, 0, none⟩ 46 = .ok (pkA q) W ∧ loadN Tryd.prog W ⟨g, o, none⟩ 46 = .ok (pkA x.p) W))
  have hSame := Lib.hid (fun (V : World) (hb : Below w12.heap.size w12 V) => xs ▸ Same_any x.p q (rightOs os) (rightDs os ds) (rightOs os) (rightDs os ds) V (xo ▸ xd ▸ (hps.pk x (by simp)).below (hB5.trans (hb.mono hB5.size))) (hPin.out V (hB.trans (hb.mono hB.size))))
  replace xs := Lib.hid xs
  replace xo := Lib.hid xo
  replace xd := Lib.hid xd
  replace hps := Lib.hid hps
  clear hr7 hl7
  go_region_held3 (fun W => Below w12.heap.size w12 W ∧ loadN Tryd.prog W ⟨b7, 0, none⟩ 46 = .ok (pkA q) W ∧ loadN Tryd.prog W ⟨g, o, none⟩ 46 = .ok (pkA x.p) W) ((refine hkeep.out _ ?_; first | exact (Below.refl _ _).drew | exact hB7 | exact hB6.alloc hB6.size _ | assumption)) (first | (go_at_call 21; ((with_reducible refine (hSame.out _ (Below.refl _ _).drew).mono ?_); rintro e w13 ⟨rfl, hb⟩; have hB6 : Below w12.heap.size w12 w13 := (Below.refl _ _).drew.trans hb; clear hb)) | (go_at_call 16; ((with_reducible refine (hIs.out _ (hB.trans ((hB6.alloc hB6.size (.cells (pkA q) 28)).mono hB.size)) _ (heap_alloc_new _ _)).mono ?_); rintro e w14 ⟨rfl, hb⟩; have hB7 : Below w12.heap.size w12 w14 := (hB6.alloc hB6.size (.cells (pkA q) 28)).trans (hb.mono (by have := hB6.size; simp; omega)); clear hb)))
  all_goals
    go_wp2_with fail
    go_ret
    exact RB.mk' rfl (hX.bel.trans (hB7.mono hX.bel.size))
end Go.Proofs.YtleokgmflelkcaaDoor
