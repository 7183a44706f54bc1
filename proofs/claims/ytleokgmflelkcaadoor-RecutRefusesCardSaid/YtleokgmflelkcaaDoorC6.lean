/- RecutRefuses, walked: IPv6, refused. -/
import Derived.Test.YtleokgmflelkcaaDoorC4
set_option linter.unusedSimpArgs false
set_option linter.unusedVariables false
namespace Go.Proofs.YtleokgmflelkcaaDoor
open Go Go.RowKit

attribute [local go_sem ↓] execOp_build1
attribute [local go_sem] run_buildY
def adrB (a : Adr) : Array Value := #[.int .u8 (a.at 0), .int .u8 (a.at 1), .int .u8 (a.at 2), .int .u8 (a.at 3), .int .u8 (a.at 4), .int .u8 (a.at 5), .int .u8 (a.at 6), .int .u8 (a.at 7), .int .u8 (a.at 8), .int .u8 (a.at 9), .int .u8 (a.at 10), .int .u8 (a.at 11), .int .u8 (a.at 12), .int .u8 (a.at 13), .int .u8 (a.at 14), .int .u8 (a.at 15)]
theorem adrB_src (p : Pk) : ∀ j, j < 16 → (pkA p)[4 + j]? = (adrB p.src)[j]?
  | 0, _ => by rw [pkA_4]; rfl
  | 1, _ => by rw [pkA_5]; rfl
  | 2, _ => by rw [pkA_6]; rfl
  | 3, _ => by rw [pkA_7]; rfl
  | 4, _ => by rw [pkA_8]; rfl
  | 5, _ => by rw [pkA_9]; rfl
  | 6, _ => by rw [pkA_10]; rfl
  | 7, _ => by rw [pkA_11]; rfl
  | 8, _ => by rw [pkA_12]; rfl
  | 9, _ => by rw [pkA_13]; rfl
  | 10, _ => by rw [pkA_14]; rfl
  | 11, _ => by rw [pkA_15]; rfl
  | 12, _ => by rw [pkA_16]; rfl
  | 13, _ => by rw [pkA_17]; rfl
  | 14, _ => by rw [pkA_18]; rfl
  | 15, _ => by rw [pkA_19]; rfl
  | j + 16, h => by omega
theorem adrB_dst (p : Pk) : ∀ j, j < 16 → (pkA p)[21 + j]? = (adrB p.dst)[j]?
  | 0, _ => by rw [pkA_21]; rfl
  | 1, _ => by rw [pkA_22]; rfl
  | 2, _ => by rw [pkA_23]; rfl
  | 3, _ => by rw [pkA_24]; rfl
  | 4, _ => by rw [pkA_25]; rfl
  | 5, _ => by rw [pkA_26]; rfl
  | 6, _ => by rw [pkA_27]; rfl
  | 7, _ => by rw [pkA_28]; rfl
  | 8, _ => by rw [pkA_29]; rfl
  | 9, _ => by rw [pkA_30]; rfl
  | 10, _ => by rw [pkA_31]; rfl
  | 11, _ => by rw [pkA_32]; rfl
  | 12, _ => by rw [pkA_33]; rfl
  | 13, _ => by rw [pkA_34]; rfl
  | 14, _ => by rw [pkA_35]; rfl
  | 15, _ => by rw [pkA_36]; rfl
  | j + 16, h => by omega
theorem adrB_size (a : Adr) : (adrB a).size = 16 := rfl
attribute [irreducible] adrB
theorem At.srcB {w : World} {b : Nat} {p : Pk} (h : At w b 0 (pkA p)) : At w b 4 (adrB p.src) := by
  intro j hj
  rw [adrB_size] at hj
  have := h (4 + j) (by rw [pkA_size]; omega)
  rw [← adrB_src p j hj, ← this, Nat.zero_add]
theorem At.dstB {w : World} {b : Nat} {p : Pk} (h : At w b 0 (pkA p)) : At w b 21 (adrB p.dst) := by
  intro j hj
  rw [adrB_size] at hj
  have := h (21 + j) (by rw [pkA_size]; omega)
  rw [← adrB_dst p j hj, ← this, Nat.zero_add]

set_option maxRecDepth 100000 in
set_option maxHeartbeats 2000000 in
theorem refuses_6a (p : Pk) (os ds : List Int) (mtu r : Int) (w : World) (hp : PkIn w p os ds) (hS : Sh w)
    (hr : (r = 1 ∧ (mtu < 68 ∨ mtu > 65535)) ∨ (r = 100 ∧ 68 ≤ mtu ∧ mtu ≤ 65535 ∧ mtu < 40 + (rightDs os ds).length)) : Calls Tryd.prog 9 #[.agg (pkA p), .int .i64 mtu, .bool true] w (RB (.bool true) w) := by
  have hX := (Bx.start w).alloc (pkA p) 28
  obtain ⟨hr0, hl0, _, _⟩ := pk_at hX.h0
  replace hr := Lib.hid hr
  go_enter Tryd.func9, Tryd.ntmps9
  go_upto_region 6 with (first | go_big_skip | (go_at_call 22; ((with_reducible refine (right_any p os ds _ (hp.below hX.bel) (hS.below hX.bel)).mono ?_); rintro e w1 ⟨s1, s2, rfl, hs1, hs2, hb⟩; have hs1 := hs1.mono hX.bel.size; have hs2 := hs2.mono hX.bel.size; have hX := hX.call hb; clear hb)) | (refine wpList_storeA_bx rfl 28 (.tmp 7) (.tmp 19) rfl _ _ rfl rfl (bs := []) (hX.alloc (pkA zPk) 28) (by rw [pkA_size]; exact i28) ((pkA_size _).trans (pkA_size _).symm) (pkA_one _) ?_; intro W2 hX2 hg; have hX2 : Bx w W2 [_, _] := hX2; have hs1 := (hs1.alloc _).box (heap_alloc_new _ _) (by decide) hg; have hs2 := (hs2.alloc _).box (heap_alloc_new _ _) (by decide) hg; clear hg; dsimp only [Act.put]) | (refine wpList_store_bx rfl 4 (.tmp 20) (.const _) rfl _ 40 _ rfl rfl (bs := []) hX2 (size4 _) rfl rfl (by rw [pkA_size]; decide) _ (pkA_set_df _ _) ?_; intro W3 hX3 hg; have hX3 : Bx w W3 [_, _] := hX3; have hs1 := hs1.box hX2.h0 (by decide) hg; have hs2 := hs2.box hX2.h0 (by decide) hg; have hat := at_of_heap hX3.h1; have hB1 := loadN_at (P := Tryd.prog) hat.srcB (adrB_size p.src); have hB2 := loadN_at (P := Tryd.prog) hat.dstB (adrB_size p.dst); obtain ⟨hr7, hl7, _, _⟩ := pk_at hX3.h0; clear hg hat; dsimp only [Act.put]) | (go_at_call 26; ((with_reducible refine (bytes_any _ _ (show s1.n ≤ _ by rw [← hs1.bs.len]; have := rightOs_len os; omega) (show s2.n ≤ _ by rw [← hs2.bs.len]; have := rightDs_len os ds; omega)).mono ?_); rintro e w4 ⟨rfl, hb⟩; have hX3 := hX3.call hb; have hs2 := hs2.below hb; have hat := at_of_heap hX3.h1; have hB1 := loadN_at (P := Tryd.prog) hat.srcB (adrB_size p.src); have hB2 := loadN_at (P := Tryd.prog) hat.dstB (adrB_size p.dst); obtain ⟨hr7, hl7, _, _⟩ := pk_at hX3.h0; clear hb hat)) | (refine wpList_build_to rfl 24 #[(0, .const (.int .i64 6)), (1, .tmp 26)] rfl (adrA (sixAdr p.src)) (by kernel_rfl) ?_) | (refine wpList_build_to rfl 24 #[(0, .const (.int .i64 6)), (1, .tmp 30)] rfl (adrA (sixAdr p.dst)) (by kernel_rfl) ?_) | (refine wpList_build_to rfl 28 _ rfl (pkA (sixP p s2)) (by kernel_rfl) ?_) | (refine wpList_storeA_bx rfl 28 (.tmp 7) (.tmp 34) rfl _ _ rfl rfl (bs := []) hX3 (by rw [pkA_size]; exact i28) ((pkA_size _).trans (pkA_size _).symm) (pkA_one _) ?_; intro W5 hX5 hg; have hX5 : Bx w W5 [_, _] := hX5; have hs2 := hs2.box hX3.h0 (by decide) hg; clear hg; dsimp only [Act.put]))
  try dsimp only [Act.put]
  have hm2 : s2.n ≤ 65515 := by rw [← hs2.bs.len]; have := rightDs_len os ds; omega
  obtain ⟨q, qv, qo, qd, qh, hX⟩ : ∃ q : Pk, q.v = 6 ∧ q.o = ⟨none, 0, 0⟩ ∧ q.d = s2 ∧ headF q [] = 40 ∧ Bx w W5 [(w1.heap.size, 28, pkA q), (w.heap.size, 28, pkA p)] :=
    ⟨sixP p s2, rfl, rfl, rfl, six_head p s2 (by omega), hX5⟩
  have q4 : q.v ≠ 4 := by rw [qv]; decide
  have hn2 : s2.n = (rightDs os ds).length := hs2.bs.len.symm
  have hW3 := hX.bel
  have hPin := Lib.hid (fun (V : World) (hb : Below W5.heap.size W5 V) => (⟨by rw [qo]; exact (own_nil 0 V).bs, by rw [qd]; exact (hs2.below hb).bs, by rw [qo]; exact Nat.zero_le _, by rw [qd]; omega⟩ : PkIn V q [] (rightDs os ds)))
  have hSV := Lib.hid (fun (V : World) (hb : Below W5.heap.size W5 V) => hS.below (hW3.trans (hb.mono hW3.size)))
  have hRa := Lib.hid (fun (V : World) (hb : Below W5.heap.size W5 V) => recut_none (r := r) (mtu := mtu) (hPin.out V hb) (hSV.out V hb) (.inl q4) (by
    rcases hr.out with ⟨rfl, h⟩ | ⟨rfl, h1, h2, h3⟩
    · exact recutR_err (.inr h)
    · exact recutR_big (by rw [qh]; omega) (by rw [qh]; omega) (.inl q4)))
  have hRb := Lib.hid (fun (V : World) (hb : Below W5.heap.size W5 V) => recut_none (r := 1) (mtu := 67) (hPin.out V hb) (hSV.out V hb) (.inl q4) (recutR_err (.inr (.inl (by decide)))))
  have hRc := Lib.hid (fun (V : World) (hb : Below W5.heap.size W5 V) => recut_none (r := 1) (mtu := 65536) (hPin.out V hb) (hSV.out V hb) (.inl q4) (recutR_err (.inr (.inr (by decide)))))
  have hRd := Lib.hid (fun (V : World) (hb : Below W5.heap.size W5 V) (t1 t2 : Sl) (h1 : Bs V t1 ([] : List Int)) (h2 : Bs V t2 (rightDs os ds)) => recut_none (p := { q with o := t1, d := t2, ttl := 256 }) (r := 1) (mtu := 1500) ⟨h1, h2, by simp only; rw [← h1.len]; exact Nat.zero_le _, by simp only; rw [← h2.len]; have := rightDs_len os ds; omega⟩ (hSV.out V hb) (.inl q4) (recutR_err (.inl (bad_ttl _ _ rfl))))
  have hIs := Lib.hid (fun (V : World) (hb : Below W5.heap.size W5 V) (g : Nat) (hh : V.heap[g]? = some (.cells (pkA q) 28 (0, 0))) => is_alone (mtu := mtu) (b := false) (hPin.out V hb) (hSV.out V hb) (.inl q4) hh (by
    rw [isR_one]
    rcases hr.out with ⟨rfl, h⟩ | ⟨rfl, h1, h2, h3⟩
    · rw [if_pos (.inr h)]
    · rw [if_neg (by rw [qh]; omega), decide_eq_false (by rw [qh]; omega), Bool.and_false]))
  have hB := Below.refl W5.heap.size W5
  have hlt7 : w1.heap.size < W5.heap.size := hX.lt (w1.heap.size, 28, pkA q) (by simp)
  generalize w1.heap.size = b7 at *
  obtain ⟨hr7, hl7, _, _⟩ := pk_at hX.h0
  have h1d : q.d.n ≤ 140737488351232 := by rw [qd]; omega
  have hsz := Lib.hid (show (40 : Int) + q.d.n = 40 + (rightDs os ds).length by rw [qd, hn2])
  replace qv := Lib.hid qv
  replace q4 := Lib.hid q4
  replace qo := Lib.hid qo
  replace qd := Lib.hid qd
  replace qh := Lib.hid qh
  replace hn2 := Lib.hid hn2
  clear hr0 hl0
  go_upto_region 13 with (first | go_big_skip | (go_at_call 11; ((with_reducible refine (hRa.out _ hB).mono ?_); rintro e w5 ⟨a1, c1, rfl, hb⟩; have hX := hX.call hb; have hB := hB.trans (hb.mono hB.size); obtain ⟨hr7, hl7, _, _⟩ := pk_at hX.h0; clear hb)) | (go_at_call 11; ((with_reducible refine (hRb.out _ hB).mono ?_); rintro e w6 ⟨a2, c2, rfl, hb⟩; have hX := hX.call hb; have hB := hB.trans (hb.mono hB.size); obtain ⟨hr7, hl7, _, _⟩ := pk_at hX.h0; clear hb)) | (go_at_call 11; ((with_reducible refine (hRc.out _ hB).mono ?_); rintro e w7 ⟨a3, c3, rfl, hb⟩; have hX := hX.call hb; have hB := hB.trans (hb.mono hB.size); obtain ⟨hr7, hl7, _, _⟩ := pk_at hX.h0; clear hb)) | (go_at_call 12; ((with_reducible refine (lawown_any q _ _ _ (hPin.out _ hB)).mono ?_); rintro e w8 ⟨t1, t2, rfl, ht1, ht2, hb⟩; have hX := hX.call hb; have hB := hB.trans (hb.mono hB.size); obtain ⟨hr7, hl7, _, _⟩ := pk_at hX.h0; clear hb)) | (refine wpList_storeA_bx rfl 28 (.tmp 15) (.tmp 56) rfl _ _ rfl rfl (bs := []) (hX.alloc (pkA zPk) 28) (by rw [pkA_size]; exact i28) ((pkA_size _).trans (pkA_size _).symm) (pkA_one _) ?_; intro W9 hX9 hg; have hX9 : Bx w W9 [_, _, _] := hX9; have hle9 := hB.size; have hB := below_grown (hB.trans ((Below.refl _ _).alloc hB.size _)) hg hB.size; have ht1 := (ht1.alloc _).box (heap_alloc_new _ _) (by decide) hg; have ht2 := (ht2.alloc _).box (heap_alloc_new _ _) (by decide) hg; clear hg; dsimp only [Act.put]) | (refine wpList_store_bx rfl 3 (.tmp 57) (.const _) rfl _ 38 _ rfl rfl (bs := []) hX9 (size3 _) rfl rfl (by rw [pkA_size]; decide) _ (pkA_set_ttl _ _) ?_; intro W10 hX10 hg; have hX10 : Bx w W10 [_, _, _] := hX10; have hB := below_grown hB hg hle9; have ht1 := ht1.box hX9.h0 (by decide) hg; have ht2 := ht2.box hX9.h0 (by decide) hg; obtain ⟨hr15, hl15, _, _⟩ := pk_at hX10.h0; obtain ⟨hr7, hl7, _, _⟩ := pk_at hX10.h1; clear hg; dsimp only [Act.put]) | (go_at_call 11; ((with_reducible refine (hRd.out _ hB t1 t2 ht1.bs ht2.bs).mono ?_); rintro e w11 ⟨a4, c4, rfl, hb⟩; have hX := hX10.tail.call hb; have hB := hB.trans (hb.mono hB.size); obtain ⟨hr7, hl7, _, _⟩ := pk_at hX.h0; clear hb)))
  rcases hr.out with ⟨rfl, h⟩ | ⟨rfl, h1, h2, h3⟩
  · by_cases hlo : mtu < 68
    · clear h
      go_wp2_with (first | go_big_skip | (go_at_call 14; ((with_reducible refine (known_any _ (hSV.out _ hB)).mono ?_); rintro e w12 ⟨rfl, hb⟩; have hX := hX.call hb; have hB := hB.trans (hb.mono hB.size); obtain ⟨hr7, hl7, _, _⟩ := pk_at hX.h0; clear hb)) | (go_at_call 16; ((with_reducible refine (hIs.out _ (hB.alloc hB.size (.cells (pkA q) 28)) _ (heap_alloc_new _ _)).mono ?_); rintro e w13 ⟨rfl, hb⟩; have hX := (hX.alloc (pkA q) 28).call hb; clear hb)))
      go_ret
      exact RB.mk' rfl hX.bel
    · have hhi : 65535 < mtu := by omega
      have hlo' : 68 ≤ mtu := by omega
      clear h hlo
      go_wp2_with (first | go_big_skip | (go_at_call 14; ((with_reducible refine (known_any _ (hSV.out _ hB)).mono ?_); rintro e w12 ⟨rfl, hb⟩; have hX := hX.call hb; have hB := hB.trans (hb.mono hB.size); obtain ⟨hr7, hl7, _, _⟩ := pk_at hX.h0; clear hb)) | (go_at_call 16; ((with_reducible refine (hIs.out _ (hB.alloc hB.size (.cells (pkA q) 28)) _ (heap_alloc_new _ _)).mono ?_); rintro e w13 ⟨rfl, hb⟩; have hX := (hX.alloc (pkA q) 28).call hb; clear hb)))
      go_ret
      exact RB.mk' rfl hX.bel
  · have hsz' : mtu < 40 + (q.d.n : Int) := by rw [hsz.out]; exact h3
    clear h3
    go_wp2_with (first | go_big_skip | (go_at_call 14; ((with_reducible refine (known_any _ (hSV.out _ hB)).mono ?_); rintro e w12 ⟨rfl, hb⟩; have hX := hX.call hb; have hB := hB.trans (hb.mono hB.size); obtain ⟨hr7, hl7, _, _⟩ := pk_at hX.h0; clear hb)) | (go_at_call 16; ((with_reducible refine (hIs.out _ (hB.alloc hB.size (.cells (pkA q) 28)) _ (heap_alloc_new _ _)).mono ?_); rintro e w13 ⟨rfl, hb⟩; have hX := (hX.alloc (pkA q) 28).call hb; clear hb)))
    go_ret
    exact RB.mk' rfl hX.bel
end Go.Proofs.YtleokgmflelkcaaDoor
