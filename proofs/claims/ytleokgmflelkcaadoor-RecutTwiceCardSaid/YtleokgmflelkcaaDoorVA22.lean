/- The law's own packet: plain. Lists of packets as a function reads them. -/
import Derived.Test.YtleokgmflelkcaaDoorVA20
set_option linter.unusedSimpArgs false
set_option linter.unusedVariables false
namespace Go.Proofs.YtleokgmflelkcaaDoor
open Go Go.RowKit

def ip4 (d : Int) (h : 0 ≤ d ∧ d ≤ 255) : Adr := ⟨4, [10, 0, 0, d, 0, 0, 0, 0, 0, 0, 0, 0, 0, 0, 0, 0], rfl, by intro x hx; simp only [List.mem_cons, List.not_mem_nil, or_false] at hx; omega⟩
def plain0 : Pk := ⟨4, 0, 0, ip4 1 (by decide), ip4 2 (by decide), 17, 64, 5, false, false, false, 0, ⟨none, 0, 0⟩, ⟨none, 0, 0⟩⟩
def upto (n : Nat) : List Int := (List.range n).map Int.ofNat
theorem upto_succ (n : Nat) : upto (n + 1) = upto n ++ [(n : Int)] := by simp [upto, List.range_succ]


theorem one_bs (W : World) (k : Int) (h : 0 ≤ k ∧ k ≤ 255) : Bs (W.alloc (.cells #[.int .u8 k] 5)) ⟨some ⟨W.heap.size, 0, none⟩, 1, 1⟩ [k] := by
  refine ⟨rfl, Nat.le_refl _, fun x hx => by simp at hx; omega, .inr ⟨W.heap.size, 0, rfl, by simp, fun i hi => ?_⟩⟩
  have : i = 0 := by simp only at hi; omega
  subst this
  exact cell_of_row _ _ _ _ _ _ (heap_alloc_new _ _)

def PlRel (w : World) (B : Nat) (i : Value) (wr : World) : Prop :=
  ∃ (n : Nat) (s : Sl), i = .int .i64 n ∧ n ≤ 100 ∧ Bx w wr [(w.heap.size + 1, 28, pkA { plain0 with d := s }), (w.heap.size, 28, pkA zPk)] ∧ Own B wr s (upto n) ∧ s.n = n ∧ B ≤ wr.heap.size

set_option maxRecDepth 100000 in
set_option maxHeartbeats 1000000 in
theorem plain_any (w : World) : Calls Tryd.prog 37 #[.int .i64 100] w (RPk plain0 [] (upto 100) w) := by
  have hX := ((Bx.start w).alloc (pkA zPk) 28).alloc (pkA zPk) 28
  simp only [World.size_alloc] at hX
  go_enter Tryd.func37, Tryd.ntmps37
  go_wp2_with (first | (refine wpList_build_to rfl 24 #[(0, .const (.int .i64 4)), (1, .tmp 5)] rfl (adrA (ip4 1 (by decide))) (by kernel_rfl) ?_) | (refine wpList_build_to rfl 24 #[(0, .const (.int .i64 4)), (1, .tmp 7)] rfl (adrA (ip4 2 (by decide))) (by kernel_rfl) ?_) | (refine wpList_build_to rfl 28 _ rfl (pkA plain0) (by kernel_rfl) ?_) | (refine wpList_storeA_bx rfl 28 (.tmp 3) (.tmp 9) rfl _ _ rfl rfl (bs := []) hX (by rw [pkA_size]; exact i28) (by rw [pkA_size, pkA_size]) (pkA_one _) ?_; intro W1 hX hg; have hX : Bx w W1 [_, _] := hX; obtain ⟨hr, hl, hs, hd⟩ := pk_at hX.h0; clear hg))
  have hlt1 : w.heap.size + 1 < W1.heap.size := hX.lt (w.heap.size + 1, 28, pkA plain0) (by simp)
  generalize hBB : W1.heap.size = B at *
  try dsimp only [Act.put]
  go_loopw [4] (fun i wr => PlRel w B i wr) (fun i _ => 100 - (intOf i).toNat)
  case atStart => exact ⟨0, ⟨none, 0, 0⟩, rfl, by omega, hX, own_nil _ _, rfl, Nat.le_of_eq hBB.symm⟩
  case round =>
    clear hX hr hl hs hd
    obtain ⟨n, s, rfl, hn, hX, hs, hsn, hB⟩ := hrel
    obtain ⟨hr, hl, hsr, hds⟩ := pk_at hX.h0
    rename_i wr
    replace hsn := Lib.hid hsn
    by_cases hlt : n < 100
    · have h47 := Lib.hid (show s.n + 1 ≤ 140737488355328 by have := hsn.out; omega)
      go_wp2_with (first | (at_builtin; refine wpList_append_sl rfl (.tmp 16) (.tmp 19) rfl B s (upto n) rfl (hs.alloc _) ⟨some ⟨wr.heap.size, 0, none⟩, 1, 1⟩ [(n : Int)] rfl (one_bs wr n (by omega)) h47.out (size_le_alloc hB _) ?_; intro s2 w2 hs2 hn2 hb2; replace hn2 := Lib.hid hn2; have hX := (hX.junk (.cells #[.int .u8 (n : Int)] 5)).call' hb2 (by omega) (by intro x hx; simp only [List.mem_cons, List.not_mem_nil, or_false] at hx; rcases hx with rfl | rfl <;> simp only <;> omega); have hB := Nat.le_trans (size_le_alloc hB _) hb2.size; obtain ⟨hr, hl, _, _⟩ := pk_at hX.h0; clear hb2) | (refine wpList_store_bx rfl 26 (.tmp 21) (.tmp 20) rfl _ 45 _ rfl rfl (bs := []) hX (size26 _) rfl rfl (by rw [pkA_size]; decide) _ (pkA_set_d _ _ _ _) ?_; intro w3 hX3 hg; have hs2 := hs2.box hX.h0 (by decide) hg; have hB := Nat.le_trans hB hg.size; have hX3 : Bx w w3 [_, _] := hX3; clear hg))
      go_roundw
      case rel => exact ⟨n + 1, s2, by go_num, by omega, hX3, by rw [upto_succ]; exact hs2, by rw [hn2.out, hsn.out], hB⟩
      case measure => simp [intOf]; omega
    · have h100 : n = 100 := by omega
      subst h100
      go_wp2_with (first | (refine wpList_storeA_bx rfl 28 (.tmp 2) (.tmp 22) rfl _ _ rfl rfl (bs := [_]) hX (by rw [pkA_size]; exact i28) (by rw [pkA_size, pkA_size]) (pkA_one _) ?_; intro W5 hX5 hg; have hs5 := hs.box hX.h1 (by decide) hg))
      exact bodyPost_ret (results_cell rfl _ _ _ _ _ rfl hX5.h1 (g28 _) (by rw [pkA_size]; exact i28)) rfl ⟨⟨none, 0, 0⟩, s, rfl, own_nil _ _, hs5.mono (by omega), hX5.bel⟩
end Go.Proofs.YtleokgmflelkcaaDoor
namespace Go.Proofs.YtleokgmflelkcaaDoor
open Go Go.RowKit

/-- A packet with its lists, as it lies in memory. -/
structure Fp where
  p : Pk
  os : List Int
  ds : List Int
def Fp.mp (x : Fp) : Mp := x.p.mp x.os x.ds

/-- The slice s reads as these packets. -/
structure PkS (w : World) (s : Sl) (l : List Fp) : Prop where
  len : l.length = s.n
  le : s.n ≤ s.c
  pk : ∀ x ∈ l, PkIn w x.p x.os x.ds
  at_ : (s.a = none ∧ s.n = 0 ∧ s.c = 0) ∨ ∃ b o, s.a = some ⟨b, o, none⟩ ∧ b < w.heap.size ∧ ∀ (i : Nat) (x : Fp), l[i]? = some x → At w b (o + i * 46) (pkA x.p)

theorem PkS.below {w w' : World} {s : Sl} {l : List Fp} (h : PkS w s l) (hb : Below w.heap.size w w') : PkS w' s l := by
  refine ⟨h.len, h.le, fun x hx => (h.pk x hx).below hb, ?_⟩
  rcases h.at_ with h0 | ⟨b, o, h1, h2, h3⟩
  · exact .inl h0
  · exact .inr ⟨b, o, h1, Nat.lt_of_lt_of_le h2 hb.size, fun i x hx => (h3 i x hx).below hb h2⟩
theorem PkS.nil (w : World) : PkS w ⟨none, 0, 0⟩ [] := ⟨rfl, Nat.le_refl _, fun x h => (by cases h), .inl ⟨rfl, rfl, rfl⟩⟩

/-- All that a walk asks of the packet at place i: its whole load, wherever the walk stands. -/
theorem PkS.load {w : World} {b o n c : Nat} {l : List Fp} (h : PkS w ⟨some ⟨b, o, none⟩, n, c⟩ l) {i : Nat} {x : Fp} (hx : l[i]? = some x) {W : World} (hb : Below w.heap.size w W) :
    loadN Tryd.prog W ⟨b, o + i * 46, none⟩ 46 = .ok (pkA x.p) W := by
  rcases h.at_ with ⟨h0, _⟩ | ⟨b', o', h1, h2, h3⟩
  · cases h0
  · cases h1
    exact loadN_at ((h3 i x hx).below hb h2) (pkA_size _)

theorem flat_get : ∀ (ps : List Pk) (i : Nat) (p : Pk), ps[i]? = some p → ∀ j, j < 46 → (pkCells ps)[i * 46 + j]? = (pkA p)[j]?
  | [], i, p, h, j, _ => by simp at h
  | q :: ps, 0, p, h, j, hj => by
    simp only [List.getElem?_cons_zero, Option.some.injEq] at h
    subst h
    simp only [pkCells, List.flatMap_cons, Nat.zero_mul, Nat.zero_add]
    rw [List.getElem?_append_left (by rw [Array.length_toList, pkA_size]; exact hj)]
    simp
  | q :: ps, i + 1, p, h, j, hj => by
    rw [List.getElem?_cons_succ] at h
    have := flat_get ps i p h j hj
    simp only [pkCells, List.flatMap_cons] at this ⊢
    rw [List.getElem?_append_right (by rw [Array.length_toList, pkA_size]; omega), Array.length_toList, pkA_size]
    rw [← this]
    congr 1
    omega

/-- A row of the call's own reads as a list of packets. -/
theorem PkRow.reads {B : Nat} {w : World} {v : Value} {n : Nat} {l : List Mp} (h : PkRow B w v n l) (hl : ∀ m ∈ l, m.os.length ≤ 140737488351232 ∧ m.ds.length ≤ 140737488351232) :
    ∃ (s : Sl) (xs : List Fp), v = .slice s.a s.n s.c ∧ s.n = n ∧ PkS w s xs ∧ xs.map Fp.mp = l := by
  obtain ⟨ps, h1, h2, h3, h4⟩ := h
  subst h2
  have hxs : ∀ (ps : List Pk) (l : List Mp), ps.length = l.length → (∀ (i : Nat) (p : Pk) (m : Mp), ps[i]? = some p → l[i]? = some m → IsP B w p m) → (∀ m ∈ l, m.os.length ≤ 140737488351232 ∧ m.ds.length ≤ 140737488351232) →
      ∃ xs : List Fp, xs.map Fp.p = ps ∧ xs.map Fp.mp = l ∧ ∀ x ∈ xs, PkIn w x.p x.os x.ds := by
    intro ps
    induction ps with
    | nil =>
      intro l hl _ _
      cases l with
      | nil => exact ⟨[], rfl, rfl, fun x h => by cases h⟩
      | cons a l => simp at hl
    | cons p ps ih =>
      intro l hl hi hm
      cases l with
      | nil => simp at hl
      | cons m l =>
        obtain ⟨xs, e1, e2, e3⟩ := ih l (by simpa using hl) (fun i p m a b => hi (i + 1) p m (by simpa using a) (by simpa using b)) (fun m h => hm m (List.mem_cons_of_mem _ h))
        have h0 := hi 0 p m rfl rfl
        have hm0 := hm m (by simp)
        have ho := h0.2.2.2.1.bs
        have hd := h0.2.2.2.2.bs
        refine ⟨⟨p, m.os, m.ds⟩ :: xs, by simp [e1], ?_, fun x hx => ?_⟩
        · rw [List.map_cons, e2]
          congr 1
          simp only [Fp.mp, Pk.mp, h0.1, h0.2.1, h0.2.2.1]
        · rcases List.mem_cons.1 hx with rfl | hx
          · exact ⟨ho, hd, by rw [← ho.len]; exact hm0.1, by rw [← hd.len]; exact hm0.2⟩
          · exact e3 x hx
  obtain ⟨xs, e1, e2, e3⟩ := hxs ps l h1 h4 hl
  have hlen : xs.length = l.length := by rw [← e2, List.length_map]
  rcases h3.2 with ⟨hv, hn⟩ | ⟨g, cap, cur, hv, hg, hh, hc, _, hsz, htk⟩
  · exact ⟨⟨none, 0, 0⟩, xs, hv, hn.symm, ⟨by rw [hlen, hn], Nat.le_refl _, e3, .inl ⟨rfl, rfl, rfl⟩⟩, e2⟩
  · refine ⟨⟨some ⟨g, 0, none⟩, l.length, cap⟩, xs, hv, rfl, ⟨hlen, hc, e3, .inr ⟨g, 0, rfl, (Array.getElem?_eq_some_iff.1 hh).1, fun i x hx j hj => ?_⟩⟩, e2⟩
    rw [pkA_size] at hj
    have hi : i < l.length := by have := (List.getElem?_eq_some_iff.1 hx).1; omega
    rw [Nat.zero_add, cell_of_row w g _ cur 28 (0, 0) hh]
    have hp : ps[i]? = some x.p := by rw [← e1, List.getElem?_map, hx]; rfl
    rw [← flat_get ps i x.p hp j hj, ← htk, List.getElem?_take, if_pos (by omega)]
    simp
end Go.Proofs.YtleokgmflelkcaaDoor
