/- RecutRefuses, walked: IPv4 with DF, refused. -/
import Derived.Test.YtleokgmflelkcaaDoorC2
import Derived.BigGuard
set_option linter.unusedSimpArgs false
set_option linter.unusedVariables false
namespace Go.Proofs.YtleokgmflelkcaaDoor
open Go Go.RowKit

theorem pks_one {W : World} {g : Nat} {x : Fp} (hh : W.heap[g]? = some (.cells (pkA x.p) 28 (0, 0))) (hp : PkIn W x.p x.os x.ds) : PkS W ⟨some ⟨g, 0, none⟩, 1, 1⟩ [x] := by
  refine ⟨rfl, Nat.le_refl _, (fun y hy => by simp only [List.mem_cons, List.not_mem_nil, or_false] at hy; subst hy; exact hp), .inr ⟨g, 0, rfl, (Array.getElem?_eq_some_iff.1 hh).1, ?_⟩⟩
  intro i y hy j hj
  cases i with
  | zero =>
    simp only [List.getElem?_cons_zero, Option.some.injEq] at hy
    subst hy
    rw [cell_of_row W g _ _ 28 (0, 0) hh]
    congr 1; omega
  | succ i => simp at hy
/-- Is of the packet alone, of a packet that goes whole or not at all. -/
theorem is_alone {q : Pk} {os ds : List Int} {mtu : Int} {b : Bool} {g : Nat} {W : World} (hp : PkIn W q os ds) (hS : Sh W) (h4 : q.v ≠ 4 ∨ q.df = true) (hh : W.heap[g]? = some (.cells (pkA q) 28 (0, 0))) (hr : isR q os ds [] mtu [⟨q, os, ds⟩] = b) :
    Calls Tryd.prog 16 #[.agg (pkA q), .int .i64 mtu, .slice (some ⟨g, 0, none⟩) 1 1] W (RB (.bool b) W) := by
  have := is_any q os ds [] mtu ⟨some ⟨g, 0, none⟩, 1, 1⟩ [⟨q, os, ds⟩] W hp hS (pks_one (x := ⟨q, os, ds⟩) hh hp) (by simp) (fun h1 h5 _ => by
    exfalso
    rcases h4 with h4 | h4
    · exact h4 (right4_nums h1).2.2.2.2.2
    · rw [h4] at h5; cases h5)
  rwa [hr] at this

def buildY (x : Value) : Sem Next := do pure (.value (← Instr.buildSlice 29 1 #[(0, x)]))
@[local go_sem ↓] theorem execOp_build1 (ev : Operand → Value) (d : Option Tmp) (x : Operand) (t : TypeId) (s : String) (af : Array Edge) (gd : Option (Nat × Bool)) : execOp ev { dst := d, op := .buildSlice 29 1 #[(0, x)], type := t, pos := s, after := af, guard := gd } = buildY (ev x) := by
  simp [execOp, buildY]
@[local go_sem] theorem run_buildY (q : Pk) (w : World) : (buildY (.agg (pkA q))).run Tryd.prog w = .ok (.value (.slice (some ⟨w.heap.size, 0, none⟩) 1 1)) (w.alloc (.cells (pkA q) 28)) := by
  unfold buildY
  rw [Sem.run_bind, build_pk]
  rfl

set_option maxRecDepth 100000 in
set_option maxHeartbeats 2000000 in
theorem refuses_4a (p : Pk) (os ds : List Int) (mtu r : Int) (w : World) (hp : PkIn w p os ds) (hS : Sh w)
    (hr : (r = 1 ∧ (mtu < 68 ∨ mtu > 65535)) ∨ (r = 100 ∧ 68 ≤ mtu ∧ mtu ≤ 65535 ∧ mtu < 20 + (rightOs os).length + (rightDs os ds).length)) : Calls Tryd.prog 9 #[.agg (pkA p), .int .i64 mtu, .bool false] w (RB (.bool true) w) := by
  have hX := (Bx.start w).alloc (pkA p) 28
  obtain ⟨hr0, hl0, _, _⟩ := pk_at hX.h0
  replace hr := Lib.hid hr
  go_enter Tryd.func9, Tryd.ntmps9
  go_upto_region 3 with (first | go_big_skip | (go_at_call 22; ((with_reducible refine (right_any p os ds _ (hp.below hX.bel) (hS.below hX.bel)).mono ?_); rintro e w1 ⟨s1, s2, rfl, hs1, hs2, hb⟩; have hs1 := hs1.mono hX.bel.size; have hs2 := hs2.mono hX.bel.size; have hX := hX.call hb; clear hb)) | (refine wpList_storeA_bx rfl 28 (.tmp 7) (.tmp 19) rfl _ _ rfl rfl (bs := []) (hX.alloc (pkA zPk) 28) (by rw [pkA_size]; exact i28) ((pkA_size _).trans (pkA_size _).symm) (pkA_one _) ?_; intro W2 hX2 hg; have hX2 : Bx w W2 [_, _] := hX2; have hs1 := (hs1.alloc _).box (heap_alloc_new _ _) (by decide) hg; have hs2 := (hs2.alloc _).box (heap_alloc_new _ _) (by decide) hg; clear hg; dsimp only [Act.put]) | (refine wpList_store_bx rfl 4 (.tmp 20) (.const _) rfl _ 40 _ rfl rfl (bs := []) hX2 (size4 _) rfl rfl (by rw [pkA_size]; decide) _ (pkA_set_df _ _) ?_; intro W3 hX3 hg; have hX3 : Bx w W3 [_, _] := hX3; have hs1 := hs1.box hX2.h0 (by decide) hg; have hs2 := hs2.box hX2.h0 (by decide) hg; clear hg; dsimp only [Act.put]))
  obtain ⟨q, qv, qdf, qo, qd, qh, hX⟩ : ∃ q : Pk, q.v = 4 ∧ q.df = true ∧ q.o = s1 ∧ q.d = s2 ∧ headF q (rightOs os) = 20 + (s1.n : Int) ∧ Bx w W3 [(w1.heap.size, 28, pkA q), (w.heap.size, 28, pkA p)] :=
    ⟨{ rightP p with df := true, o := s1, d := s2 }, rfl, rfl, rfl, rfl, size_right p os ds s1 s2 true hs1.bs.len.symm hs2.bs.len.symm, hX3⟩
  have hn1 : s1.n = (rightOs os).length := hs1.bs.len.symm
  have hn2 : s2.n = (rightDs os ds).length := hs2.bs.len.symm
  have hm1 : s1.n ≤ 40 := by rw [hn1]; exact rightOs_len os
  have hm2 : s2.n ≤ 65515 := by have := rightDs_len os ds; omega
  have hW3 := hX.bel
  have hPin := Lib.hid (fun (V : World) (hb : Below W3.heap.size W3 V) => (⟨by rw [qo]; exact (hs1.below hb).bs, by rw [qd]; exact (hs2.below hb).bs, by rw [qo]; omega, by rw [qd]; omega⟩ : PkIn V q (rightOs os) (rightDs os ds)))
  have hSV := Lib.hid (fun (V : World) (hb : Below W3.heap.size W3 V) => hS.below (hW3.trans (hb.mono hW3.size)))
  have hRa := Lib.hid (fun (V : World) (hb : Below W3.heap.size W3 V) => recut_none (r := r) (mtu := mtu) (hPin.out V hb) (hSV.out V hb) (.inr qdf) (by
    rcases hr.out with ⟨rfl, h⟩ | ⟨rfl, h1, h2, h3⟩
    · exact recutR_err (.inr h)
    · exact recutR_big (by rw [qh]; omega) (by rw [qh]; omega) (.inr qdf)))
  have hRb := Lib.hid (fun (V : World) (hb : Below W3.heap.size W3 V) => recut_none (r := 1) (mtu := 67) (hPin.out V hb) (hSV.out V hb) (.inr qdf) (recutR_err (.inr (.inl (by decide)))))
  have hRc := Lib.hid (fun (V : World) (hb : Below W3.heap.size W3 V) => recut_none (r := 1) (mtu := 65536) (hPin.out V hb) (hSV.out V hb) (.inr qdf) (recutR_err (.inr (.inr (by decide)))))
  have hRd := Lib.hid (fun (V : World) (hb : Below W3.heap.size W3 V) (t1 t2 : Sl) (h1 : Bs V t1 (rightOs os)) (h2 : Bs V t2 (rightDs os ds)) => recut_none (p := { q with o := t1, d := t2, ttl := 256 }) (r := 1) (mtu := 1500) ⟨h1, h2, by simp only; rw [← h1.len]; have := rightOs_len os; omega, by simp only; rw [← h2.len]; have := rightDs_len os ds; omega⟩ (hSV.out V hb) (.inr qdf) (recutR_err (.inl (bad_ttl _ _ rfl))))
  have hIs := Lib.hid (fun (V : World) (hb : Below W3.heap.size W3 V) (g : Nat) (hh : V.heap[g]? = some (.cells (pkA q) 28 (0, 0))) => is_alone (mtu := mtu) (b := false) (hPin.out V hb) (hSV.out V hb) (.inr qdf) hh (by
    rw [isR_one]
    rcases hr.out with ⟨rfl, h⟩ | ⟨rfl, h1, h2, h3⟩
    · rw [if_pos (.inr h)]
    · rw [if_neg (by rw [qh]; omega), decide_eq_false (by rw [qh]; omega), Bool.and_false]))
  have hB := Below.refl W3.heap.size W3
  have hlt7 : w1.heap.size < W3.heap.size := hX.lt (w1.heap.size, 28, pkA q) (by simp)
  generalize w1.heap.size = b7 at *
  obtain ⟨hr7, hl7, _, _⟩ := pk_at hX.h0
  have h1o : q.o.n ≤ 140737488351232 := by rw [qo]; omega
  have h1d : q.d.n ≤ 140737488351232 := by rw [qd]; omega
  have hsz := Lib.hid (show (20 : Int) + q.o.n + q.d.n = 20 + (rightOs os).length + (rightDs os ds).length by rw [qo, qd, hn1, hn2])
  replace qv := Lib.hid qv
  replace qdf := Lib.hid qdf
  replace qo := Lib.hid qo
  replace qd := Lib.hid qd
  replace qh := Lib.hid qh
  replace hn1 := Lib.hid hn1
  replace hn2 := Lib.hid hn2
  clear hr0 hl0 hX2 hX3
  go_upto_region 13 with (first | go_big_skip | (go_at_call 26; ((with_reducible refine (bytes_any q _ h1o h1d).mono ?_); rintro e w4 ⟨rfl, hb⟩; have hX := hX.call hb; have hB := hB.trans (hb.mono hB.size); obtain ⟨hr7, hl7, _, _⟩ := pk_at hX.h0; clear hb)) | (go_at_call 11; ((with_reducible refine (hRa.out _ hB).mono ?_); rintro e w5 ⟨a1, c1, rfl, hb⟩; have hX := hX.call hb; have hB := hB.trans (hb.mono hB.size); obtain ⟨hr7, hl7, _, _⟩ := pk_at hX.h0; clear hb)) | (go_at_call 11; ((with_reducible refine (hRb.out _ hB).mono ?_); rintro e w6 ⟨a2, c2, rfl, hb⟩; have hX := hX.call hb; have hB := hB.trans (hb.mono hB.size); obtain ⟨hr7, hl7, _, _⟩ := pk_at hX.h0; clear hb)) | (go_at_call 11; ((with_reducible refine (hRc.out _ hB).mono ?_); rintro e w7 ⟨a3, c3, rfl, hb⟩; have hX := hX.call hb; have hB := hB.trans (hb.mono hB.size); obtain ⟨hr7, hl7, _, _⟩ := pk_at hX.h0; clear hb)) | (go_at_call 12; ((with_reducible refine (lawown_any q _ _ _ (hPin.out _ hB)).mono ?_); rintro e w8 ⟨t1, t2, rfl, ht1, ht2, hb⟩; have hX := hX.call hb; have hB := hB.trans (hb.mono hB.size); obtain ⟨hr7, hl7, _, _⟩ := pk_at hX.h0; clear hb)) | (refine wpList_storeA_bx rfl 28 (.tmp 15) (.tmp 56) rfl _ _ rfl rfl (bs := []) (hX.alloc (pkA zPk) 28) (by rw [pkA_size]; exact i28) ((pkA_size _).trans (pkA_size _).symm) (pkA_one _) ?_; intro W9 hX9 hg; have hX9 : Bx w W9 [_, _, _] := hX9; have hle9 := hB.size; have hB := below_grown (hB.trans ((Below.refl _ _).alloc hB.size _)) hg hB.size; have ht1 := (ht1.alloc _).box (heap_alloc_new _ _) (by decide) hg; have ht2 := (ht2.alloc _).box (heap_alloc_new _ _) (by decide) hg; clear hg; dsimp only [Act.put]) | (refine wpList_store_bx rfl 3 (.tmp 57) (.const _) rfl _ 38 _ rfl rfl (bs := []) hX9 (size3 _) rfl rfl (by rw [pkA_size]; decide) _ (pkA_set_ttl _ _) ?_; intro W10 hX10 hg; have hX10 : Bx w W10 [_, _, _] := hX10; have hB := below_grown hB hg hle9; have ht1 := ht1.box hX9.h0 (by decide) hg; have ht2 := ht2.box hX9.h0 (by decide) hg; obtain ⟨hr15, hl15, _, _⟩ := pk_at hX10.h0; obtain ⟨hr7, hl7, _, _⟩ := pk_at hX10.h1; clear hg; dsimp only [Act.put]) | (go_at_call 11; ((with_reducible refine (hRd.out _ hB t1 t2 ht1.bs ht2.bs).mono ?_); rintro e w11 ⟨a4, c4, rfl, hb⟩; have hX := hX10.tail.call hb; have hB := hB.trans (hb.mono hB.size); obtain ⟨hr7, hl7, _, _⟩ := pk_at hX.h0; clear hb)))
  rcases hr.out with ⟨rfl, h⟩ | ⟨rfl, h1, h2, h3⟩
  · by_cases hlo : mtu < 68
    · clear h
      go_wp2_with (first | go_big_skip | (go_at_call 14; ((with_reducible refine (known_any _ (hSV.out _ hB)).mono ?_); rintro e w12 ⟨rfl, hb⟩; have hX := hX.call hb; have hB := hB.trans (hb.mono hB.size); obtain ⟨hr7, hl7, _, _⟩ := pk_at hX.h0; clear hb)) | (go_at_call 16; ((with_reducible refine (hIs.out _ (hB.alloc hB.size (.cells (pkA q) 28)) _ (heap_alloc_new _ _)).mono ?_); rintro e w13 ⟨rfl, hb⟩; have hX := (hX.alloc (pkA q) 28).call hb; clear hb)))
      go_ret
      exact RB.mk' rfl hX.bel
    · have hhi : 65535 < mtu := by omega
      have hlo' : 68 ≤ mtu := by omega
      clear h hlo
      go_wp2_with (first | go_big_skip | (go_at_call 14; ((with_reducible refine (known_any _ (hSV.out _ hB)).mono ?_); rintro e w12 ⟨rfl, hb⟩; have hX := hX.call hb; have hB := hB.trans (hb.mono hB.size); obtain ⟨hr7, hl7, _, _⟩ := pk_at hX.h0; clear hb)) | (go_at_call 16; ((with_reducible refine (hIs.out _ (hB.alloc hB.size (.cells (pkA q) 28)) _ (heap_alloc_new _ _)).mono ?_); rintro e w13 ⟨rfl, hb⟩; have hX := (hX.alloc (pkA q) 28).call hb; clear hb)))
      go_ret
      exact RB.mk' rfl hX.bel
  · have hsz' : mtu < 20 + (q.o.n : Int) + (q.d.n : Int) := by rw [hsz.out]; exact h3
    clear h3
    go_wp2_with (first | go_big_skip | (go_at_call 14; ((with_reducible refine (known_any _ (hSV.out _ hB)).mono ?_); rintro e w12 ⟨rfl, hb⟩; have hX := hX.call hb; have hB := hB.trans (hb.mono hB.size); obtain ⟨hr7, hl7, _, _⟩ := pk_at hX.h0; clear hb)) | (go_at_call 16; ((with_reducible refine (hIs.out _ (hB.alloc hB.size (.cells (pkA q) 28)) _ (heap_alloc_new _ _)).mono ?_); rintro e w13 ⟨rfl, hb⟩; have hX := (hX.alloc (pkA q) 28).call hb; clear hb)))
    go_ret
    exact RB.mk' rfl hX.bel
end Go.Proofs.YtleokgmflelkcaaDoor
