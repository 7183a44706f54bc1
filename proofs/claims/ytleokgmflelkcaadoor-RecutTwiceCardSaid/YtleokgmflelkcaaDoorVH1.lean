/- The law's right, not whole: a fragment. -/
import Derived.Test.YtleokgmflelkcaaDoorVC0
import Derived.Test.YtleokgmflelkcaaDoorVH0
import Derived.Test.YtleokgmflelkcaaDoorVC1
set_option linter.unusedSimpArgs false
set_option linter.unusedVariables false
namespace Go.Proofs.YtleokgmflelkcaaDoor
open Go Go.RowKit

attribute [local go_sem ↓] execOp_buildR
attribute [local go_sem] run_buildR
attribute [local go_sem high] sliced_zero
attribute [local go_sem ↓] storeCells_pk
attribute [local go_sem] run_storeP storeR_ok isBox_new isBox_drew pkA_size_iff r0_fold

/-- What right makes of a packet, not whole. -/
def halfN (p : Pk) (os ds : List Int) : Nat := min (rightDs os ds).length (65535 - 8 * (lrestF p.off 8000).toNat)
def halfM (p : Pk) (os ds : List Int) : Bool := p.more && decide (7 < halfN p os ds)
def halfL (p : Pk) (os ds : List Int) : Nat := if halfM p os ds then halfN p os ds / 8 * 8 else halfN p os ds
def halfDs (p : Pk) (os ds : List Int) : List Int := ds.take (halfL p os ds)
def halfP (p : Pk) (os ds : List Int) : Pk := { rightP p with off := if halfL p os ds = 0 then 0 else 8 * lrestF p.off 8000, more := halfM p os ds }
theorem lrestF_le (n m : Int) (h : 0 ≤ m) : 0 ≤ lrestF n m ∧ lrestF n m ≤ m := by
  unfold lrestF
  have e0 : 0 ≤ n % (m + 1) := Int.emod_nonneg _ (by omega)
  have e1 : n % (m + 1) < m + 1 := Int.emod_lt_of_pos _ (by omega)
  omega
theorem half_parts (p : Pk) (os ds : List Int) : (halfM p os ds = true ∧ p.more = true ∧ 7 < halfN p os ds ∧ halfL p os ds = halfN p os ds / 8 * 8 ∧ 0 < halfL p os ds) ∨ (halfM p os ds = false ∧ (p.more = true → halfN p os ds ≤ 7) ∧ halfL p os ds = halfN p os ds) := by
  cases h : halfM p os ds
  · refine .inr ⟨rfl, fun h2 => ?_, by unfold halfL; rw [h]; rfl⟩
    unfold halfM at h
    rw [h2] at h
    simpa using h
  · have h2 := h
    unfold halfM at h2
    simp only [Bool.and_eq_true, decide_eq_true_eq] at h2
    have e : halfL p os ds = halfN p os ds / 8 * 8 := by unfold halfL; rw [h]; rfl
    exact .inl ⟨rfl, h2.1, h2.2, e, by rw [e]; omega⟩
theorem half_le (p : Pk) (os ds : List Int) : halfL p os ds ≤ (rightDs os ds).length ∧ (rightDs os ds).length ≤ ds.length := by
  have h1 : halfN p os ds ≤ (rightDs os ds).length := by unfold halfN; omega
  refine ⟨?_, by unfold rightDs; simp; omega⟩
  rcases half_parts p os ds with ⟨-, -, -, c, -⟩ | ⟨-, -, c⟩ <;> omega

set_option maxRecDepth 100000 in
set_option maxHeartbeats 0 in
theorem right_half (p : Pk) (os ds : List Int) (w : World) (hp : PkIn w p os ds) (hS : Sh w) : Calls Tryd.prog 22 #[.agg (pkA p), .bool false] w (RPk (halfP p os ds) (rightOs os) (halfDs p os ds) w) := by
  have hX := ((Bx.start w).alloc (pkA p) 28).alloc (pkA zPk) 28
  simp only [World.size_alloc] at hX
  obtain ⟨hr, hl, _, _⟩ := pk_at hX.h1
  go_enter Tryd.func22, Tryd.ntmps22
  go_upto_region 1 with fail
  generalize hW0 : World.alloc _ _ = W0 at hX hr hl ⊢
  clear hW0
  go_cut [5] (fun s5 wx => ∃ b5 : Nat, s5 = .pointer (some ⟨b5, 0, none⟩) ∧ Bx w wx [(b5, 28, pkA (r0 (lrestF p.tos 255) (lrestF p.proto 255) (lrestF p.ttl 255) (p.id.tmod 65536))), (w.heap.size + 1, 28, pkA zPk), (w.heap.size, 28, pkA p)])
  case first =>
    have hkeep := Lib.hid (fun (W : World) (hb : Below W0.heap.size W0 W) => (⟨hb, by rw [(pk_at (hX.call hb).h1).1 1 (by decide), pkA_1], by rw [(pk_at (hX.call hb).h1).1 37 (by decide), pkA_37], by rw [(pk_at (hX.call hb).h1).1 38 (by decide), pkA_38], by rw [(pk_at (hX.call hb).h1).1 39 (by decide), pkA_39]⟩ : Below W0.heap.size W0 W ∧ W.cell? ⟨w.heap.size, 1, none⟩ = some (.int .i64 p.tos) ∧ W.cell? ⟨w.heap.size, 37, none⟩ = some (.int .i64 p.proto) ∧ W.cell? ⟨w.heap.size, 38, none⟩ = some (.int .i64 p.ttl) ∧ W.cell? ⟨w.heap.size, 39, none⟩ = some (.int .u32 p.id)))
    clear hr hl
    go_region_held3 (fun W => Below W0.heap.size W0 W ∧ W.cell? ⟨w.heap.size, 1, none⟩ = some (.int .i64 p.tos) ∧ W.cell? ⟨w.heap.size, 37, none⟩ = some (.int .i64 p.proto) ∧ W.cell? ⟨w.heap.size, 38, none⟩ = some (.int .i64 p.ttl) ∧ W.cell? ⟨w.heap.size, 39, none⟩ = some (.int .u32 p.id)) ((refine hkeep.out _ ?_; first | exact (Below.refl _ _).drew | exact ((Below.refl _ _).alloc (Nat.le_refl _) _).drew | exact below_setRow ((Below.refl _ _).alloc (Nat.le_refl _) _).drew (Nat.le_refl _) | trace_state)) ((go_at_call 23; refine (lrest_q _ _ _ (by decide) (by decide)).mono ?_; rintro e w' ⟨rfl, rfl⟩))
    all_goals
      go_wp2_with fail
      go_meet
      first
        | exact ⟨_, rfl, ((hX.alloc (pkA zPk) 28).drew).set0 _⟩
        | exact ⟨_, rfl, ((hX.alloc (pkA zPk) 28).set0 _).drew⟩
        | exact ⟨_, rfl, (hX.drew.alloc (pkA zPk) 28).set0 _⟩
  case rest =>
    obtain ⟨b5, rfl, hX5⟩ := hcut
    clear hX hr hl
    go_wp2
    go_loopw [6] (fun i wr => RiRel p w b5 i wr) (fun i _ => 4 - (intOf i).toNat)
    case atStart => exact ⟨0, rfl, by omega, hX5⟩
    case round =>
      clear hX5
      obtain ⟨k, rfl, hk, hX⟩ := hrel
      obtain ⟨hr, hl, _, _⟩ := pk_at hX.h2
      by_cases hlt : k < 4
      · have h4 : k = 0 ∨ k = 1 ∨ k = 2 ∨ k = 3 := by omega
        rcases h4 with rfl | rfl | rfl | rfl
        · go_wp2_with (first | go_big_skip | (refine wpList_store_bx rfl 5 (.tmp 35) (.tmp 32) rfl b5 4 _ rfl rfl (bs := []) hX (size5 _) rfl rfl (by rw [pkA_size]; decide) _ (adrK_set p.src { r0 (lrestF p.tos 255) (lrestF p.proto 255) (lrestF p.ttl 255) (p.id.tmod 65536) with dst := adrK p.dst 0 } 0 (by decide)) ?_; intro W1 hX1 hg; have hX1 : Bx w W1 [_, _, _] := hX1; obtain ⟨hr, hl, _, _⟩ := pk_at hX1.h2; clear hg; dsimp only [Act.put]) | (refine wpList_store_bx rfl 5 (.tmp 44) (.tmp 41) rfl b5 21 _ rfl rfl (bs := []) hX1 (size5 _) rfl rfl (by rw [pkA_size]; decide) _ (adrK_set' p.dst { r0 (lrestF p.tos 255) (lrestF p.proto 255) (lrestF p.ttl 255) (p.id.tmod 65536) with src := adrK p.src 1 } 0 (by decide)) ?_; intro W2 hX2 hg; have hX2 : Bx w W2 [_, _, _] := hX2; clear hg; dsimp only [Act.put]))
          go_roundw
          case rel => exact ⟨1, rfl, by omega, hX2⟩
          case measure => simp [intOf]
        · go_wp2_with (first | go_big_skip | (refine wpList_store_bx rfl 5 (.tmp 35) (.tmp 32) rfl b5 5 _ rfl rfl (bs := []) hX (size5 _) rfl rfl (by rw [pkA_size]; decide) _ (adrK_set p.src { r0 (lrestF p.tos 255) (lrestF p.proto 255) (lrestF p.ttl 255) (p.id.tmod 65536) with dst := adrK p.dst 1 } 1 (by decide)) ?_; intro W1 hX1 hg; have hX1 : Bx w W1 [_, _, _] := hX1; obtain ⟨hr, hl, _, _⟩ := pk_at hX1.h2; clear hg; dsimp only [Act.put]) | (refine wpList_store_bx rfl 5 (.tmp 44) (.tmp 41) rfl b5 22 _ rfl rfl (bs := []) hX1 (size5 _) rfl rfl (by rw [pkA_size]; decide) _ (adrK_set' p.dst { r0 (lrestF p.tos 255) (lrestF p.proto 255) (lrestF p.ttl 255) (p.id.tmod 65536) with src := adrK p.src 2 } 1 (by decide)) ?_; intro W2 hX2 hg; have hX2 : Bx w W2 [_, _, _] := hX2; clear hg; dsimp only [Act.put]))
          go_roundw
          case rel => exact ⟨2, rfl, by omega, hX2⟩
          case measure => simp [intOf]
        · go_wp2_with (first | go_big_skip | (refine wpList_store_bx rfl 5 (.tmp 35) (.tmp 32) rfl b5 6 _ rfl rfl (bs := []) hX (size5 _) rfl rfl (by rw [pkA_size]; decide) _ (adrK_set p.src { r0 (lrestF p.tos 255) (lrestF p.proto 255) (lrestF p.ttl 255) (p.id.tmod 65536) with dst := adrK p.dst 2 } 2 (by decide)) ?_; intro W1 hX1 hg; have hX1 : Bx w W1 [_, _, _] := hX1; obtain ⟨hr, hl, _, _⟩ := pk_at hX1.h2; clear hg; dsimp only [Act.put]) | (refine wpList_store_bx rfl 5 (.tmp 44) (.tmp 41) rfl b5 23 _ rfl rfl (bs := []) hX1 (size5 _) rfl rfl (by rw [pkA_size]; decide) _ (adrK_set' p.dst { r0 (lrestF p.tos 255) (lrestF p.proto 255) (lrestF p.ttl 255) (p.id.tmod 65536) with src := adrK p.src 3 } 2 (by decide)) ?_; intro W2 hX2 hg; have hX2 : Bx w W2 [_, _, _] := hX2; clear hg; dsimp only [Act.put]))
          go_roundw
          case rel => exact ⟨3, rfl, by omega, hX2⟩
          case measure => simp [intOf]
        · go_wp2_with (first | go_big_skip | (refine wpList_store_bx rfl 5 (.tmp 35) (.tmp 32) rfl b5 7 _ rfl rfl (bs := []) hX (size5 _) rfl rfl (by rw [pkA_size]; decide) _ (adrK_set p.src { r0 (lrestF p.tos 255) (lrestF p.proto 255) (lrestF p.ttl 255) (p.id.tmod 65536) with dst := adrK p.dst 3 } 3 (by decide)) ?_; intro W1 hX1 hg; have hX1 : Bx w W1 [_, _, _] := hX1; obtain ⟨hr, hl, _, _⟩ := pk_at hX1.h2; clear hg; dsimp only [Act.put]) | (refine wpList_store_bx rfl 5 (.tmp 44) (.tmp 41) rfl b5 24 _ rfl rfl (bs := []) hX1 (size5 _) rfl rfl (by rw [pkA_size]; decide) _ (adrK_set' p.dst { r0 (lrestF p.tos 255) (lrestF p.proto 255) (lrestF p.ttl 255) (p.id.tmod 65536) with src := adrK p.src 4 } 3 (by decide)) ?_; intro W2 hX2 hg; have hX2 : Bx w W2 [_, _, _] := hX2; clear hg; dsimp only [Act.put]))
          go_roundw
          case rel => exact ⟨4, rfl, by omega, hX2⟩
          case measure => simp [intOf]
      · obtain rfl : k = 4 := by omega
        have hX : Bx w _ [(b5, 28, pkA (rightP p)), (w.heap.size + 1, 28, pkA zPk), (w.heap.size, 28, pkA p)] := hX
        have hvalid := Lib.hid (fun (V : World) (hb : Below w.heap.size w V) => valid_any p.o os V (hp.o.below hb) hp.om (hS.below hb))
        clear hr hl
        obtain ⟨hr, hl, _, _⟩ := pk_at hX.h2
        obtain ⟨hr5, hl5, _, _⟩ := pk_at hX.h0
        go_upto_if 47 with (first | go_big_skip | (go_at_call 51; ((with_reducible refine (hvalid.out _ hX.bel).mono ?_); rintro e w1 ⟨rfl, hb⟩; have hX := hX.call hb; obtain ⟨hr, hl, _, _⟩ := pk_at hX.h2; obtain ⟨hr5, hl5, _, _⟩ := pk_at hX.h0; clear hb)))
        go_cut [6] (fun s6 wx => s6 = .int .i64 4 ∧ ∃ s1 : Sl, s1.n = (rightOs os).length ∧ Own w.heap.size wx s1 (rightOs os) ∧ Bx w wx [(b5, 28, pkA { rightP p with o := s1 }), (w.heap.size + 1, 28, pkA zPk), (w.heap.size, 28, pkA p)])
        case first =>
          have h3 := Lib.hid (show (⟨none, 0, 0⟩ : Sl).n + p.o.n ≤ 140737488355328 by have := hp.om; simp only; omega)
          have h540 : (pkA (rightP p))[44]? = some (.slice none 0 0) := pkA_44 _
          cases hv : validO os
          · go_wp2_with (first | go_big_skip)
            go_meet
            exact ⟨rfl, ⟨none, 0, 0⟩, by simp [rightOs, hv], by unfold rightOs; rw [hv]; exact own_nil _ _, hX⟩
          · go_wp2_with (first | go_big_skip | (at_builtin; refine wpList_append_sl rfl (.tmp 49) (.tmp 51) rfl _ ⟨none, 0, 0⟩ [] rfl (own_nil _ _) p.o os rfl (hp.o.below hX.bel) h3.out (Nat.le_refl _) ?_; intro s1 W1 hs1 hn1 hb1; replace hn1 := Lib.hid hn1; have hs1l := Lib.hid (show s1.n = os.length by have h1 := hn1.out; have h2 := hp.o.len; have h4 : (⟨none, 0, 0⟩ : Sl).n = 0 := rfl; omega); have hs1 := hs1.mono hX.bel.size; have hX := hX.call hb1; clear hb1) | (refine wpList_store_bx rfl 26 (.tmp 53) (.tmp 52) rfl b5 44 _ rfl rfl (bs := []) hX (size26 _) rfl rfl (by rw [pkA_size]; decide) _ (pkA_set_o _ _ _ _) ?_; intro W2 hX2 hg; have hX2 : Bx w W2 [_, _, _] := hX2; have hs1 := hs1.box hX.h0 (by decide) hg; clear hg; dsimp only [Act.put]))
            go_meet
            exact ⟨rfl, s1, by rw [hs1l.out, rightOs, hv, if_pos rfl], by unfold rightOs; rw [hv, if_pos rfl]; exact hs1, hX2⟩
        case rest =>
          obtain ⟨rfl, s1, hs1n, hs1, hX⟩ := hcut
          have h40 : s1.n ≤ 40 := by rw [hs1n]; exact rightOs_len os
          obtain ⟨hr, hl, _, _⟩ := pk_at hX.h2
          obtain ⟨hr5, hl5, _, _⟩ := pk_at hX.h0
          have hdm := hp.dm
          obtain ⟨n0, hn0, hn0b, hn0c⟩ : ∃ n0 : Nat, min (p.d.n : Int) (65515 - (s1.n : Int)) = n0 ∧ n0 ≤ p.d.n ∧ n0 = (rightDs os ds).length := ⟨min p.d.n (65515 - s1.n), by omega, by omega, by unfold rightDs; rw [List.length_take, hp.d.len, ← hs1n]; omega⟩
          replace hs1n := Lib.hid hs1n
          have hn65 : n0 ≤ 65515 := by rw [hn0c]; have := rightDs_len os ds; omega
          replace hn0c := Lib.hid hn0c
          go_upto_if 63 with (first | go_big_skip)
          clear hn0
          have hnc := hp.d.le
          go_cut [7] (fun s7 wx => s7 = .int .i64 (halfL p os ds : Nat) ∧ Own w.heap.size wx s1 (rightOs os) ∧ Bx w wx [(b5, 28, pkA { halfP p os ds with o := s1 }), (w.heap.size + 1, 28, pkA zPk), (w.heap.size, 28, pkA p)])
          case first =>
            obtain ⟨F, hF⟩ : ∃ F : Int, lrestF p.off 8000 = F := ⟨_, rfl⟩
            have hF0 : 0 ≤ F ∧ F ≤ 8000 := hF ▸ lrestF_le p.off 8000 (by decide)
            obtain ⟨hF1, hF2⟩ := hF0
            have hq := Lib.hid (fun (V : World) => (hF ▸ lrest_q p.off 8000 V (by decide) (by decide) : Calls Tryd.prog 23 #[.int .i64 p.off, .int .i64 8000] V fun e w' => e = .returned (.int .i64 F) ∧ V = w'))
            obtain ⟨n1, hn1, hn1b⟩ : ∃ n1 : Nat, min (n0 : Int) (65535 - 8 * F) = n1 ∧ n1 ≤ n0 := ⟨min n0 (65535 - 8*F).toNat, by omega, by omega⟩
            have hN : halfN p os ds = n1 := by unfold halfN; rw [hF, ← hn0c.out]; omega
            replace hF := Lib.hid hF
            go_upto_region 13 with (first | go_big_skip | (go_at_call 23; (with_reducible refine (hq.out _).mono ?_); rintro e w' ⟨rfl, rfl⟩) | (refine wpList_store_bx rfl 3 (.tmp 68) (.tmp 67) rfl b5 43 _ rfl rfl (bs := []) hX (size3 _) rfl rfl (by rw [pkA_size]; decide) _ (pkA_set_off _ _) ?_; intro W7 hX7 hg; have hX7 : Bx w W7 [_, _, _] := hX7; have hs1 := hs1.box hX.h0 (by decide) hg; obtain ⟨hr, hl, _, _⟩ := pk_at hX7.h2; obtain ⟨hr5, hl5, _, _⟩ := pk_at hX7.h0; clear hg; dsimp only [Act.put]))
            clear hn1
            rcases half_parts p os ds with ⟨c1, c2, c3, c4, c5⟩ | ⟨c1, c2, c3⟩
            · rw [hN] at c3 c4
              have hd7 : decide (7 < (n1:Int)) = true := by simp; omega
              have hm41 := (hr 41 (by decide)).trans (show (pkA p)[41]? = some (.bool true) by rw [pkA_41, c2])
              obtain ⟨n2, hn2, hn2b, hn2c⟩ : ∃ n2 : Nat, (n1 : Int) / 8 * 8 = n2 ∧ n2 ≤ n1 ∧ n2 = n1 / 8 * 8 := ⟨n1 / 8 * 8, by omega, by omega, rfl⟩
              have hL := Lib.hid (show halfL p os ds = n2 by rw [c4, hn2c])
              have hP := Lib.hid (show halfP p os ds = { rightP p with off := 8 * F, more := true } by unfold halfP; rw [if_neg (by omega), hF.out, c1])
              have hne : ((n2 : Int) == 0) = false := beq_eq_false_iff_ne.2 (by omega)
              clear c1 c4 c5 hn2c
              go_wp2_with (first | go_big_skip | (refine wpList_store_bx rfl 4 (.tmp 80) (.tmp 79) rfl b5 41 _ rfl rfl (bs := []) hX7 (size4 _) rfl rfl (by rw [pkA_size]; decide) _ (pkA_set_more _ _) ?_; intro W8 hX8 hg; have hX8 : Bx w W8 [_, _, _] := hX8; have hs1 := hs1.box hX7.h0 (by decide) hg; obtain ⟨hr, hl, _, _⟩ := pk_at hX8.h2; obtain ⟨hr5, hl5, _, _⟩ := pk_at hX8.h0; clear hg; dsimp only [Act.put]))
              go_meet
              exact ⟨by rw [hL.out], hs1, by rw [hP.out]; exact hX8⟩
            · rw [hN] at c2 c3
              have hL := Lib.hid c3
              by_cases hz : n1 = 0
              · subst hz
                have hP := Lib.hid (show halfP p os ds = { rightP p with off := 0, more := false } by unfold halfP; rw [if_pos c3, c1])
                cases hm : p.more
                all_goals
                  have hm41 := (hr 41 (by decide)).trans (pkA_41 p)
                  rw [hm] at hm41
                  clear hm c1 c2 c3
                  go_wp2_with (first | go_big_skip | (refine wpList_store_bx rfl 4 (.tmp 80) (.tmp 79) rfl b5 41 _ rfl rfl (bs := []) hX7 (size4 _) rfl rfl (by rw [pkA_size]; decide) _ (pkA_set_more _ _) ?_; intro W8 hX8 hg; have hX8 : Bx w W8 [_, _, _] := hX8; have hs1 := hs1.box hX7.h0 (by decide) hg; obtain ⟨hr, hl, _, _⟩ := pk_at hX8.h2; obtain ⟨hr5, hl5, _, _⟩ := pk_at hX8.h0; clear hg; dsimp only [Act.put]) | (refine wpList_store_bx rfl 3 (.tmp 88) (.const _) rfl b5 43 _ rfl rfl (bs := []) hX8 (size3 _) rfl rfl (by rw [pkA_size]; decide) _ (pkA_set_off _ _) ?_; intro W9 hX9 hg; have hX9 : Bx w W9 [_, _, _] := hX9; have hs1 := hs1.box hX8.h0 (by decide) hg; clear hg; dsimp only [Act.put]))
                  all_goals go_meet
                  all_goals exact ⟨by rw [hL.out]; rfl, hs1, by rw [hP.out]; exact hX9⟩
              · have hP := Lib.hid (show halfP p os ds = { rightP p with off := 8 * F, more := false } by unfold halfP; rw [if_neg (by omega), hF.out, c1])
                have hne : ((n1 : Int) == 0) = false := beq_eq_false_iff_ne.2 (by omega)
                cases hm : p.more
                · have hm41 := (hr 41 (by decide)).trans (pkA_41 p)
                  rw [hm] at hm41
                  clear c1 c2 c3
                  go_wp2_with (first | go_big_skip | (refine wpList_store_bx rfl 4 (.tmp 80) (.tmp 79) rfl b5 41 _ rfl rfl (bs := []) hX7 (size4 _) rfl rfl (by rw [pkA_size]; decide) _ (pkA_set_more _ _) ?_; intro W8 hX8 hg; have hX8 : Bx w W8 [_, _, _] := hX8; have hs1 := hs1.box hX7.h0 (by decide) hg; obtain ⟨hr, hl, _, _⟩ := pk_at hX8.h2; obtain ⟨hr5, hl5, _, _⟩ := pk_at hX8.h0; clear hg; dsimp only [Act.put]))
                  all_goals go_meet
                  all_goals exact ⟨by rw [hL.out], hs1, by rw [hP.out]; exact hX8⟩
                · have hm41 := (hr 41 (by decide)).trans (pkA_41 p)
                  have hd7 : decide (7 < (n1:Int)) = false := by have := c2 hm; simp; omega
                  rw [hm] at hm41
                  clear hm c1 c2 c3
                  go_wp2_with (first | go_big_skip | (refine wpList_store_bx rfl 4 (.tmp 80) (.tmp 79) rfl b5 41 _ rfl rfl (bs := []) hX7 (size4 _) rfl rfl (by rw [pkA_size]; decide) _ (pkA_set_more _ _) ?_; intro W8 hX8 hg; have hX8 : Bx w W8 [_, _, _] := hX8; have hs1 := hs1.box hX7.h0 (by decide) hg; obtain ⟨hr, hl, _, _⟩ := pk_at hX8.h2; obtain ⟨hr5, hl5, _, _⟩ := pk_at hX8.h0; clear hg; dsimp only [Act.put]))
                  all_goals go_meet
                  all_goals exact ⟨by rw [hL.out], hs1, by rw [hP.out]; exact hX8⟩
          case rest =>
            clear hs1 hX hr hl hr5 hl5
            obtain ⟨rfl, hs1, hX⟩ := hcut
            have hle := half_le p os ds
            have hdl := hp.d.len
            obtain ⟨nn, hnn⟩ : ∃ nn : Nat, halfL p os ds = nn := ⟨_, rfl⟩
            rw [hnn] at hle ⊢
            obtain ⟨hr, hl, _, _⟩ := pk_at hX.h2
            obtain ⟨hr5, hl5, _, _⟩ := pk_at hX.h0
            have hfz := fz_at hX.h0
            have hbs := Lib.hid (fun (V : World) (hb : Below wc.heap.size wc V) => Bs.take (show Bs V ⟨p.d.a, p.d.n, p.d.c⟩ ds from (hp.d.below (hX.bel.trans (hb.mono hX.bel.size)))) nn (by show nn ≤ p.d.n; omega))
            have h47 := Lib.hid (show (⟨none, 0, 0⟩ : Sl).n + (⟨p.d.a, nn, p.d.c⟩ : Sl).n ≤ 140737488355328 by simp only; omega)
            have hnc1 : (0 : Int) ≤ (nn : Int) := by omega
            have hnc2 : (nn : Int) ≤ (p.d.c : Int) := by omega
            have h545 : (pkA { halfP p os ds with o := s1 })[45]? = some (.slice none 0 0) := pkA_45 _
            clear hs1n hn0b hn0c hle
            go_upto_region 18 with fail
            go_region_law ((refine step_append_sl (by rfl) (.tmp 90) (.tmp 94) (by rfl) _ ⟨none, 0, 0⟩ [] (by rfl) (own_nil _ _) ⟨p.d.a, nn, p.d.c⟩ (ds.take nn) (by rfl) (hbs.out _ ((Below.refl _ _).drew)) h47.out (Nat.le_refl _) ?_; intro s2 W4 hs2 hn2' hb2; replace hn2' := Lib.hid hn2'; have hB4 : Below wc.heap.size wc W4 := (Below.refl _ _).drew.trans hb2; have hfz4 := fz_at (hX.call hB4).h0; obtain ⟨hr4, hl4, _, _⟩ := pk_at (hX.call hB4).h0))
            all_goals
              go_wp2_with fail
              obtain ⟨hY, hg⟩ := Bx.cell (bs := []) (hX.call hB4) 45 (.slice s2.a s2.n s2.c) _ (pkA_set_d _ _ _ _)
              have hs2 := (hs2.mono (show w.heap.size ≤ _ from hX.bel.size)).box (hX.call hB4).h0 (by decide) hg
              have hs1 := (hs1.below hB4).box (hX.call hB4).h0 (by decide) hg
              clear hg hfz4 hr4 hl4
              generalize World.setCell _ _ _ = W5 at hY hs2 hs1 ⊢
              obtain ⟨hr5, hl5, _, _⟩ := pk_at hY.h0
              go_wp2_with (first | (refine wpList_storeA_bx rfl 28 (.tmp 4) (.tmp 97) rfl _ _ rfl rfl (bs := [_]) hY (by rw [pkA_size]; exact i28) ((pkA_size _).trans (pkA_size _).symm) (pkA_one _) ?_; intro W6 hZ hg; have hs2 := hs2.box hY.h1 (by decide) hg; have hs1 := hs1.box hY.h1 (by decide) hg))
              exact bodyPost_ret (results_cell rfl _ _ _ _ _ rfl hZ.h1 (g28 _) (by rw [pkA_size]; exact i28)) rfl ⟨s1, s2, rfl, hs1, by unfold halfDs; rw [hnn]; simpa using hs2, hZ.bel⟩
end Go.Proofs.YtleokgmflelkcaaDoor
