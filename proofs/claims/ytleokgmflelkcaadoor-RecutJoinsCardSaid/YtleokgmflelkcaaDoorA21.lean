/- The law's own packet: plain. -/
import Derived.Test.YtleokgmflelkcaaDoorA20
set_option linter.unusedSimpArgs false
set_option linter.unusedVariables false
namespace Go.Proofs.YtleokgmflelkcaaDoor
open Go Go.RowKit

def ip4 (d : Int) (h : 0 ≤ d ∧ d ≤ 255) : Adr := ⟨4, [10, 0, 0, d, 0, 0, 0, 0, 0, 0, 0, 0, 0, 0, 0, 0], rfl, by intro x hx; simp only [List.mem_cons, List.not_mem_nil, or_false] at hx; omega⟩
def plain0 : Pk := ⟨4, 0, 0, ip4 1 (by decide), ip4 2 (by decide), 17, 64, 5, false, false, false, 0, ⟨none, 0, 0⟩, ⟨none, 0, 0⟩⟩
def upto (n : Nat) : List Int := (List.range n).map Int.ofNat
theorem upto_succ (n : Nat) : upto (n + 1) = upto n ++ [(n : Int)] := by simp [upto, List.range_succ]


theorem one_bs (W : World) (k : Int) (h : 0 ≤ k ∧ k ≤ 255) : Bs (W.alloc (.cells #[.int .u8 k] 5)) ⟨some ⟨W.heap.size, 0, none⟩, 1, 1⟩ [k] := by
  refine ⟨rfl, Nat.le_refl _, fun x hx => by simp at hx; omega, .inr ⟨W.heap.size, 0, rfl, by simp, fun i hi => ?_⟩⟩
  have : i = 0 := by simp only at hi; omega
  subst this
  exact cell_of_row _ _ _ _ _ _ (heap_alloc_new _ _)

def PlRel (w : World) (B : Nat) (i : Value) (wr : World) : Prop :=
  ∃ (n : Nat) (s : Sl), i = .int .i64 n ∧ n ≤ 100 ∧ Bx w wr [(w.heap.size + 1, 28, pkA { plain0 with d := s }), (w.heap.size, 28, pkA zPk)] ∧ Own B wr s (upto n) ∧ s.n = n ∧ B ≤ wr.heap.size

set_option maxRecDepth 100000 in
set_option maxHeartbeats 1000000 in
theorem plain_any (w : World) : Calls Tryd.prog 37 #[.int .i64 100] w (RPk plain0 [] (upto 100) w) := by
  have hX := ((Bx.start w).alloc (pkA zPk) 28).alloc (pkA zPk) 28
  simp only [World.size_alloc] at hX
  go_enter Tryd.func37, Tryd.ntmps37
  go_wp2_with (first | (refine wpList_build_to rfl 24 #[(0, .const (.int .i64 4)), (1, .tmp 5)] rfl (adrA (ip4 1 (by decide))) (by kernel_rfl) ?_) | (refine wpList_build_to rfl 24 #[(0, .const (.int .i64 4)), (1, .tmp 7)] rfl (adrA (ip4 2 (by decide))) (by kernel_rfl) ?_) | (refine wpList_build_to rfl 28 _ rfl (pkA plain0) (by kernel_rfl) ?_) | (refine wpList_storeA_bx rfl 28 (.tmp 3) (.tmp 9) rfl _ _ rfl rfl (bs := []) hX (by rw [pkA_size]; exact i28) (by rw [pkA_size, pkA_size]) (pkA_one _) ?_; intro W1 hX hg; have hX : Bx w W1 [_, _] := hX; obtain ⟨hr, hl, hs, hd⟩ := pk_at hX.h0; clear hg))
  have hlt1 : w.heap.size + 1 < W1.heap.size := hX.lt (w.heap.size + 1, 28, pkA plain0) (by simp)
  generalize hBB : W1.heap.size = B at *
  try dsimp only [Act.put]
  go_loopw [4] (fun i wr => PlRel w B i wr) (fun i _ => 100 - (intOf i).toNat)
  case atStart => exact ⟨0, ⟨none, 0, 0⟩, rfl, by omega, hX, own_nil _ _, rfl, Nat.le_of_eq hBB.symm⟩
  case round =>
    clear hX hr hl hs hd
    obtain ⟨n, s, rfl, hn, hX, hs, hsn, hB⟩ := hrel
    obtain ⟨hr, hl, hsr, hds⟩ := pk_at hX.h0
    rename_i wr
    replace hsn := Lib.hid hsn
    by_cases hlt : n < 100
    · have h47 := Lib.hid (show s.n + 1 ≤ 140737488355328 by have := hsn.out; omega)
      go_wp2_with (first | (at_builtin; refine wpList_append_sl rfl (.tmp 16) (.tmp 19) rfl B s (upto n) rfl (hs.alloc _) ⟨some ⟨wr.heap.size, 0, none⟩, 1, 1⟩ [(n : Int)] rfl (one_bs wr n (by omega)) h47.out (size_le_alloc hB _) ?_; intro s2 w2 hs2 hn2 hb2; replace hn2 := Lib.hid hn2; have hX := (hX.junk (.cells #[.int .u8 (n : Int)] 5)).call' hb2 (by omega) (by intro x hx; simp only [List.mem_cons, List.not_mem_nil, or_false] at hx; rcases hx with rfl | rfl <;> simp only <;> omega); have hB := Nat.le_trans (size_le_alloc hB _) hb2.size; obtain ⟨hr, hl, _, _⟩ := pk_at hX.h0; clear hb2) | (refine wpList_store_bx rfl 26 (.tmp 21) (.tmp 20) rfl _ 45 _ rfl rfl (bs := []) hX (size26 _) rfl rfl (by rw [pkA_size]; decide) _ (pkA_set_d _ _ _ _) ?_; intro w3 hX3 hg; have hs2 := hs2.box hX.h0 (by decide) hg; have hB := Nat.le_trans hB hg.size; have hX3 : Bx w w3 [_, _] := hX3; clear hg))
      go_roundw
      case rel => exact ⟨n + 1, s2, by go_num, by omega, hX3, by rw [upto_succ]; exact hs2, by rw [hn2.out, hsn.out], hB⟩
      case measure => simp [intOf]; omega
    · have h100 : n = 100 := by omega
      subst h100
      go_wp2_with (first | (refine wpList_storeA_bx rfl 28 (.tmp 2) (.tmp 22) rfl _ _ rfl rfl (bs := [_]) hX (by rw [pkA_size]; exact i28) (by rw [pkA_size, pkA_size]) (pkA_one _) ?_; intro W5 hX5 hg; have hs5 := hs.box hX.h1 (by decide) hg))
      exact bodyPost_ret (results_cell rfl _ _ _ _ _ rfl hX5.h1 (g28 _) (by rw [pkA_size]; exact i28)) rfl ⟨⟨none, 0, 0⟩, s, rfl, own_nil _ _, hs5.mono (by omega), hX5.bel⟩
end Go.Proofs.YtleokgmflelkcaaDoor
