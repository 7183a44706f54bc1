/- RecutTwice: the law, walked. -/
import Derived.Test.YtleokgmflelkcaaDoorVH3
import Derived.Test.YtleokgmflelkcaaDoorVB8
set_option linter.unusedSimpArgs false
set_option linter.unusedVariables false
namespace Go.Proofs.YtleokgmflelkcaaDoor
open Go Go.RowKit

def TwRel (L : List Mp) (n : Nat) (w W0 : World) (bs : List (Nat × TypeId × Array Value)) (mo al i : Value) (wr : World) : Prop :=
  ∃ (k : Nat) (most : Int) (sa : Sl) (Rs : List (List Mp)), i = .int .i64 k ∧ mo = .int .i64 most ∧ al = .slice sa.a sa.n sa.c ∧ k ≤ n ∧ Tw L k most Rs ∧ PkRow W0.heap.size wr (.slice sa.a sa.n sa.c) sa.n Rs.flatten ∧ Bx w wr bs ∧ Below W0.heap.size W0 wr

set_option maxRecDepth 100000 in
set_option maxHeartbeats 0 in
theorem twice_law (p : Pk) (os ds : List Int) (mtu : Int) (s : Sl) (zs : List Int) (w : World) (hp : PkIn w p os ds) (hi : Is w s zs) (hm : s.n ≤ 17592186043904) (hS : Sh w) : Calls Tryd.prog 7 #[.agg (pkA p), .int .i64 mtu, .slice s.a s.n s.c] w (RB (.bool true) w) := by
  obtain ⟨ta, tn, tc⟩ := s
  simp only at hm
  have hX := (Bx.start w).alloc (pkA p) 28
  obtain ⟨hr, hl, _, _⟩ := pk_at hX.h0
  have hright := Lib.hid (fun (V : World) (hb : Below w.heap.size w V) => right_half p os ds V (hp.below hb) (hS.below hb))
  go_enter Tryd.func7, Tryd.ntmps7
  go_upto_region 2 with (first | go_big_skip | (go_at_call 22; (with_reducible refine (hright.out _ hX.bel).mono ?_); rintro e w1 ⟨s1, s2, rfl, ho, hd, hb⟩; have ho := ho.mono hX.bel.size; have hd := hd.mono hX.bel.size; have hX := hX.call hb; clear hb) | (refine wpList_storeA_bx rfl 28 (.tmp 7) (.tmp 17) rfl _ _ rfl rfl (bs := []) (hX.alloc (pkA zPk) 28) (by rw [pkA_size]; exact i28) ((pkA_size _).trans (pkA_size _).symm) (pkA_one _) ?_; intro W3 hX3 hg; have hX3 : Bx w W3 [_, _] := hX3; have ho := (ho.alloc _).box (heap_alloc_new _ _) (by decide) hg; have hd := (hd.alloc _).box (heap_alloc_new _ _) (by decide) hg; clear hg; dsimp only [Act.put]))
  clear hr hl hright
  have hobr0 : bytesR (rightOs os) := fun y hy => ho.bs.rng y hy
  have hpr := half_pr p os ds
  have hcl := carry_facts (xs := rightOs os) hobr0
  have hcc := carry_carry (xs := rightOs os) hobr0
  have hobr := hobr0
  have hdf : (halfP p os ds).df = false := rfl
  obtain ⟨q, q1, q2, q3, q4, q5, q6, hX3⟩ : ∃ q : Pk, q.o = s1 ∧ q.d = s2 ∧ q.df = false ∧ q.bare = (halfP p os ds).bare ∧ q.more = (halfP p os ds).more ∧ q.off = (halfP p os ds).off ∧ Bx w W3 [(w1.heap.size, 28, pkA q), (w.heap.size, 28, pkA p)] :=
    ⟨{ halfP p os ds with o := s1, d := s2 }, rfl, rfl, rfl, rfl, rfl, rfl, hX3⟩
  rw [← q4, ← q5, ← q6] at hpr
  have ho' := ho.bs
  have hd' := hd.bs
  rw [← q1] at ho'
  rw [← q2] at hd'
  have hpq : PkIn W3 q (rightOs os) (halfDs p os ds) := ⟨ho', hd', by rw [← ho'.len]; have := rightOs_len os; omega, by rw [← hd'.len]; have := hpr.sz; omega⟩
  have hlq : (halfDs p os ds).length = q.d.n ∧ (rightOs os).length = q.o.n := ⟨hd'.len, ho'.len⟩
  clear ho hd q4 q5 q6 hdf ho' hd' q1 q2 hX
  generalize rightOs os = qo at *
  generalize halfDs p os ds = qd at *
  generalize w1.heap.size = b7 at *
  obtain ⟨F, hF⟩ : ∃ F : Int, lrestF mtu 1500 = F := ⟨_, rfl⟩
  have hFb : 0 ≤ F ∧ F ≤ 1500 := hF ▸ lrestF_le mtu 1500 (by decide)
  obtain ⟨hF0, hF1⟩ := hFb
  have hq23 := Lib.hid (fun (V : World) => (hF ▸ lrest_q mtu 1500 V (by decide) (by decide) : Calls Tryd.prog 23 #[.int .i64 mtu, .int .i64 1500] V fun e w' => e = .returned (.int .i64 F) ∧ V = w'))
  clear hF
  obtain ⟨M, hM⟩ : ∃ M : Int, 68 + F = M := ⟨_, rfl⟩
  obtain ⟨L, hL1, hL2⟩ := recut_tile (x := ⟨q, qo, qd⟩) hlq hpr hobr q3 (M := M) (by omega) (by omega)
  have hLn := recutR_len (p := q) (os := qo) (ds := qd) (co := carryF qo) (mtu := M) hlq.1
  simp only at hL1 hL2
  rw [hL1] at hLn
  simp only at hLn
  have hIs0 := Lib.hid (fun (sx : Sl) (xs : List Fp) (V : World) (hb : Below w.heap.size w V) (hpq : PkIn V q qo qd) (hpx : PkS V sx xs) (hmx : xs.map Fp.mp = L) (hn : sx.n ≤ 925904528626) => (by
    have := is_all q qo qd M sx xs V hpq (hS.below hb) hpx hn
    rwa [tile_is hpx.lens' hlq.2 hlq.1 hpr q3 (by omega) (by omega) (by rw [hmx]; exact hL2)] at this : Calls Tryd.prog 16 #[.agg (pkA q), .int .i64 M, .slice sx.a sx.n sx.c] V (RB (.bool true) V)))
  have hrec := Lib.hid (fun (V : World) (hb : Below w.heap.size w V) (hpq : PkIn V q qo qd) => (hL1 ▸ recut_all q qo qd M V hpq (hS.below hb) : Calls Tryd.prog 11 #[.agg (pkA q), .int .i64 M] V (RL (0, L) V)))
  have hbdL := Lib.hid (tile_bd hL2)
  have hLn := Lib.hid (show L.length ≤ 925904528626 by omega)
  have hLn2 := Lib.hid (show L.length ≤ 65536 by omega)
  have hM0 : 68 ≤ M := by omega
  have hM1 : M ≤ 1568 := by omega
  replace hL2 := Lib.hid hL2
  replace hpr := Lib.hid hpr
  replace hlq := Lib.hid hlq
  replace hcl := Lib.hid hcl
  replace hobr := Lib.hid hobr
  replace hcc := Lib.hid hcc
  replace hp := Lib.hid hp
  replace q3 := Lib.hid q3
  replace hS' := Lib.hid hS
  clear hL1
  obtain ⟨hr7, hl7, _, _⟩ := pk_at hX3.h0
  go_upto_region 3 with (first | go_big_skip | (go_at_call 23; (with_reducible refine (hq23.out _).mono ?_); rintro e w' ⟨rfl, rfl⟩))
  try rw [hM]
  clear hF0 hF1 hM hq23
  go_upto_region 6 with (first | go_big_skip | (go_at_call 11; (with_reducible refine (hrec.out _ hX3.bel hpq).mono ?_); rintro e w4 ⟨v, n, rfl, hrow, hb⟩; have hX3 := hX3.call hb; have hpq := hpq.below hb; clear hb; obtain ⟨sx, xs, rfl, hsx, hpx, hmx⟩ := hrow.reads hbdL.out; replace hmx := Lib.hid hmx; replace hsx := Lib.hid hsx; obtain ⟨hr7, hl7, _, _⟩ := pk_at hX3.h0; clear hrow) | (go_at_call 14; (with_reducible refine (known_any _ (hS.below hX3.bel)).mono ?_); rintro e w5 ⟨rfl, hb⟩; have hX3 := hX3.call hb; have hpq := hpq.below hb; have hpx := hpx.below hb; obtain ⟨hr7, hl7, _, _⟩ := pk_at hX3.h0; clear hb) | (go_at_call 16; (with_reducible refine (hIs0.out sx xs _ hX3.bel hpq hpx hmx.out (by rw [← hpx.len, ← List.length_map (f := Fp.mp), hmx.out]; exact hLn.out)).mono ?_); rintro e w6 ⟨rfl, hb⟩; have hX3 := hX3.call hb; have hpq := hpq.below hb; have hpx := hpx.below hb; obtain ⟨hr7, hl7, _, _⟩ := pk_at hX3.h0; clear hb))
  have hxl : xs.length = L.length := by rw [← hmx.out, List.length_map]
  have hsxn : sx.n = L.length := by rw [← hpx.len, hxl]
  obtain ⟨gb, go, hsa⟩ : ∃ b o, sx.a = some ⟨b, o, none⟩ := by
    rcases hpx.at_ with ⟨_, h0, _⟩ | ⟨b, o, h1, _⟩
    · have := tile_ne hL2.out; omega
    · exact ⟨b, o, h1⟩
  obtain ⟨sxa, sxn, sxc⟩ := sx
  simp only at hsa hsxn
  subst hsa
  have hxl := Lib.hid hxl
  have hn65 : sxn ≤ 65536 := by rw [hsxn]; exact hLn2.out
  replace hsxn := Lib.hid hsxn
  have hX6 := Lib.hid hX3
  have hlB := Lib.hid (fun z hz => hX3.lt z hz)
  replace hpx := Lib.hid hpx
  replace hpq := Lib.hid hpq
  replace hi := Lib.hid hi
  clear hr7 hl7 hIs0 hrec hsx
  go_wp2
  go_loopw [10, 11, 12] (fun mo al i wr => TwRel L sxn w w6 [(b7, 28, pkA q), (w.heap.size, 28, pkA p)] mo al i wr) (fun _ _ i _ => sxn - (intOf i).toNat)
  case atStart => exact ⟨0, 68, ⟨none, 0, 0⟩, [], rfl, rfl, rfl, by omega, Tw.start L, PkRow.nil _ _, hX3, Below.refl _ _⟩
  case round =>
    clear hX3
    obtain ⟨k, most, sa, Rs, rfl, rfl, rfl, hk, hT, hrow, hY, hB⟩ := hrel
    rename_i wr
    by_cases hlt : k < sxn
    · obtain ⟨x, hx⟩ : ∃ x, xs[k]? = some x := ⟨_, List.getElem?_eq_getElem (by rw [hxl.out, ← hsxn.out]; exact hlt)⟩
      have hmk : L[k]? = some x.mp := by rw [← hmx.out, List.getElem?_map, hx]; rfl
      have hpx1 := Lib.hid (hpx.out.pk x (List.mem_of_getElem? hx))
      have hld := Lib.hid (fun (V : World) (hb : Below w6.heap.size w6 V) => hpx.out.load hx hb)
      have hT := Lib.hid hT
      replace hx := Lib.hid hx
      rcases Nat.lt_or_ge k tn with hks | hks
      · obtain ⟨z, hz⟩ : ∃ z, zs[k]? = some z := ⟨_, List.getElem?_eq_getElem (by rw [hi.out.len]; exact hks)⟩
        obtain ⟨mb, mo, hsa2, hcell⟩ : ∃ b o, ta = some ⟨b, o, none⟩ ∧ wr.cell? ⟨b, o + k, none⟩ = some (.int .i64 z) := by
          rcases (hi.out.below hY.bel).at_ with h0 | ⟨b, o, h1, _, h3⟩
          · simp only at h0; omega
          · exact ⟨b, o, h1, h3 k z hz⟩
        subst hsa2
        obtain ⟨F, hF⟩ : ∃ F : Int, lrestF z 1500 = F := ⟨_, rfl⟩
        have hFb : 0 ≤ F ∧ F ≤ 1500 := hF ▸ lrestF_le z 1500 (by decide)
        obtain ⟨hF0, hF1⟩ := hFb
        have hq2 := Lib.hid (fun (V : World) => (hF ▸ lrest_q z 1500 V (by decide) (by decide) : Calls Tryd.prog 23 #[.int .i64 z, .int .i64 1500] V fun e w' => e = .returned (.int .i64 F) ∧ V = w'))
        obtain ⟨N, hN⟩ : ∃ N : Int, 68 + F = N := ⟨_, rfl⟩
        have hN0 : 68 ≤ N := by omega
        have hN1 : N ≤ 1568 := by omega
        clear hF
        replace hz := Lib.hid hz
        obtain ⟨R, hR1, hR2, hR3, hR4⟩ := piece_again hL2.out q3.out (x := x) (List.mem_of_getElem? hmk) ⟨hpx1.out.d.len, hpx1.out.o.len⟩ hpx1.out.o.rng hN0 (by omega)
        have hrecx := Lib.hid (fun (V : World) (hb : Below w6.heap.size w6 V) => (hR1 ▸ recut_all x.p x.os x.ds N V (hpx1.out.below hb) (hS'.out.below (hX6.out.bel.trans (hb.mono hX6.out.bel.size))) : Calls Tryd.prog 11 #[.agg (pkA x.p), .int .i64 N] V (RL (0, R) V)))
        have hIsx := Lib.hid (fun (sy : Sl) (ys : List Fp) (V : World) (hb : Below w6.heap.size w6 V) (hpy : PkS V sy ys) (hmy : ys.map Fp.mp = R) => (by
          have := is_all x.p x.os x.ds N sy ys V (hpx1.out.below hb) (hS'.out.below (hX6.out.bel.trans (hb.mono hX6.out.bel.size))) hpy (by rw [← hpy.len, ← List.length_map (f := Fp.mp), hmy]; omega)
          rwa [hR4 ys hpy.lens' hmy] at this : Calls Tryd.prog 16 #[.agg (pkA x.p), .int .i64 N, .slice sy.a sy.n sy.c] V (RB (.bool true) V)))
        have hbdR := Lib.hid (tile_bd hR2)
        have hR3 := Lib.hid hR3
        have hnext := Lib.hid (hT.out.next hmk hN0 hN1 hR2 hR3.out)
        have hldw := hld.out wr hB
        clear hR1 hR2 hR4 hmk
        go_wp2_with (first | go_big_skip | (go_at_call 23; (with_reducible refine (hq2.out _).mono ?_); rintro e w' ⟨rfl, rfl⟩) | (go_at_call 11; (with_reducible refine (hrecx.out _ hB).mono ?_); rintro e w8 ⟨v, n2, rfl, hrow2, hb⟩; have hrow := hrow.below hb; have hY := hY.call hb; have hrow2 := hrow2.mono hB.size; have hB := hB.trans (hb.mono hB.size); have hldw := hld.out _ hB; clear hb; have hrdd := hrow2.reads hbdR.out; obtain ⟨sy, ys, rfl, hsy, hpy, hmy⟩ := hrdd; replace hsy := Lib.hid hsy; replace hmy := Lib.hid hmy) | (go_at_call 16; (with_reducible refine (hIsx.out sy ys _ hB hpy hmy.out).mono ?_); rintro e w9 ⟨rfl, hb⟩; have hrow := hrow.below hb; have hrow2 := hrow2.below hb; have hY := hY.call hb; have hB := hB.trans (hb.mono hB.size); clear hb) | (at_builtin; refine wpList_append_row rfl (.tmp 81) (.tmp 82) rfl w6.heap.size _ sa.n Rs.flatten rfl hrow _ _ R rfl hrow2 hbdR.out (by have h1 := hrow.form.1; have h2 := hrow2.form.1; have h3 := hT.out.c; have h4 := hR3.out; omega) hB.size ?_; intro s4 w10 hrow4 hb4))
        go_roundw
        case rel => exact ⟨k + 1, max most N, s4, Rs ++ [R], by go_num, rfl, rfl, by omega, hnext.out, by have h1 := hrow4.form.2; rw [List.flatten_append, List.flatten_cons, List.flatten_nil, List.append_nil]; obtain ⟨s5, h5, h6⟩ := h1; simp only [Value.slice.injEq] at h5; have h7 : s4.n = sa.n + n2 := (by rw [h5.2.1, h6]); have h8 := hrow4; rw [← h7] at h8; exact h8, hY.call' hb4 hX6.out.bel.size (fun z hz => hlB.out z hz), hB.trans hb4⟩
        case measure => simp [intOf]; omega
      · have hN0 := hM0
        have hN1 := hM1
        obtain ⟨R, hR1, hR2, hR3, hR4⟩ := piece_again hL2.out q3.out (x := x) (List.mem_of_getElem? hmk) ⟨hpx1.out.d.len, hpx1.out.o.len⟩ hpx1.out.o.rng hN0 (by omega)
        have hrecx := Lib.hid (fun (V : World) (hb : Below w6.heap.size w6 V) => (hR1 ▸ recut_all x.p x.os x.ds M V (hpx1.out.below hb) (hS'.out.below (hX6.out.bel.trans (hb.mono hX6.out.bel.size))) : Calls Tryd.prog 11 #[.agg (pkA x.p), .int .i64 M] V (RL (0, R) V)))
        have hIsx := Lib.hid (fun (sy : Sl) (ys : List Fp) (V : World) (hb : Below w6.heap.size w6 V) (hpy : PkS V sy ys) (hmy : ys.map Fp.mp = R) => (by
          have := is_all x.p x.os x.ds M sy ys V (hpx1.out.below hb) (hS'.out.below (hX6.out.bel.trans (hb.mono hX6.out.bel.size))) hpy (by rw [← hpy.len, ← List.length_map (f := Fp.mp), hmy]; omega)
          rwa [hR4 ys hpy.lens' hmy] at this : Calls Tryd.prog 16 #[.agg (pkA x.p), .int .i64 M, .slice sy.a sy.n sy.c] V (RB (.bool true) V)))
        have hbdR := Lib.hid (tile_bd hR2)
        have hR3 := Lib.hid hR3
        have hnext := Lib.hid (hT.out.next hmk hN0 hN1 hR2 hR3.out)
        have hldw := hld.out wr hB
        clear hR1 hR2 hR4 hmk
        go_wp2_with (first | go_big_skip | (go_at_call 11; (with_reducible refine (hrecx.out _ hB).mono ?_); rintro e w8 ⟨v, n2, rfl, hrow2, hb⟩; have hrow := hrow.below hb; have hY := hY.call hb; have hrow2 := hrow2.mono hB.size; have hB := hB.trans (hb.mono hB.size); have hldw := hld.out _ hB; clear hb; have hrdd := hrow2.reads hbdR.out; obtain ⟨sy, ys, rfl, hsy, hpy, hmy⟩ := hrdd; replace hsy := Lib.hid hsy; replace hmy := Lib.hid hmy) | (go_at_call 16; (with_reducible refine (hIsx.out sy ys _ hB hpy hmy.out).mono ?_); rintro e w9 ⟨rfl, hb⟩; have hrow := hrow.below hb; have hrow2 := hrow2.below hb; have hY := hY.call hb; have hB := hB.trans (hb.mono hB.size); clear hb) | (at_builtin; refine wpList_append_row rfl (.tmp 81) (.tmp 82) rfl w6.heap.size _ sa.n Rs.flatten rfl hrow _ _ R rfl hrow2 hbdR.out (by have h1 := hrow.form.1; have h2 := hrow2.form.1; have h3 := hT.out.c; have h4 := hR3.out; omega) hB.size ?_; intro s4 w10 hrow4 hb4))
        go_roundw
        case rel => exact ⟨k + 1, max most M, s4, Rs ++ [R], by go_num, rfl, rfl, by omega, hnext.out, by have h1 := hrow4.form.2; rw [List.flatten_append, List.flatten_cons, List.flatten_nil, List.append_nil]; obtain ⟨s5, h5, h6⟩ := h1; simp only [Value.slice.injEq] at h5; have h7 : s4.n = sa.n + n2 := (by rw [h5.2.1, h6]); have h8 := hrow4; rw [← h7] at h8; exact h8, hY.call' hb4 hX6.out.bel.size (fun z hz => hlB.out z hz), hB.trans hb4⟩
        case measure => simp [intOf]; omega
    · have hkn : k = sxn := by omega
      have hflat := tile_flat hcc.out L Rs qo q.off qd hL2.out rfl (by rw [hT.n, hkn, hsxn.out]) hT.t
      have hrdd := hrow.reads hT.bd
      obtain ⟨sy, ys, e, hsy, hpy, hmy⟩ := hrdd
      have hss : sy = sa := by
        obtain ⟨a1, a2, a3⟩ := sa
        obtain ⟨b1, b2, b3⟩ := sy
        simp only [Value.slice.injEq] at e
        obtain ⟨rfl, rfl, rfl⟩ := e
        rfl
      subst hss
      have hyl : sy.n ≤ 925904528626 := by rw [← hpy.len, ← List.length_map (f := Fp.mp), hmy]; have := hT.c; omega
      have hSV := Lib.hid (fun (V : World) (hb : Below w.heap.size w V) => hS'.out.below hb)
      have hpqr := hpq.out.below hB
      have hm0 := hT.m0
      have hm1 := hT.m1
      have hIsA := Lib.hid (fun (V : World) (hb : Below wr.heap.size wr V) => (by
        have := is_all q qo qd most sy ys V (hpqr.below hb) (hSV.out V (hY.bel.trans (hb.mono hY.bel.size))) (hpy.below hb) hyl
        rwa [tile_is hpy.lens' hlq.out.2 hlq.out.1 hpr.out q3.out hm0 (by omega) (by rw [hmy]; exact hflat)] at this : Calls Tryd.prog 16 #[.agg (pkA q), .int .i64 most, .slice sy.a sy.n sy.c] V (RB (.bool true) V)))
      have hIsB := Lib.hid (fun (V : World) (hb : Below wr.heap.size wr V) => (by
        have := is_all q qo qd 67 sy ys V (hpqr.below hb) (hSV.out V (hY.bel.trans (hb.mono hY.bel.size))) (hpy.below hb) hyl
        rwa [show isR q qo qd (carryF qo) 67 ys = false by unfold isR; rw [if_pos (.inr (.inl (by decide)))]] at this : Calls Tryd.prog 16 #[.agg (pkA q), .int .i64 67, .slice sy.a sy.n sy.c] V (RB (.bool false) V)))
      obtain ⟨hr7, hl7, _, _⟩ := pk_at hY.h0
      have hB9 := Below.refl wr.heap.size wr
      replace hflat := Lib.hid hflat
      replace hsy := Lib.hid hsy
      replace hmy := Lib.hid hmy
      replace hT := Lib.hid hT
      clear hpqr hpy e
      by_cases h1 : sy.n = 1
      · have h1' : ((sy.n : Int) == 1) = true := by rw [h1]; rfl
        replace h1 := Lib.hid h1
        go_wp2_with (first | go_big_skip | (go_at_call 16; (with_reducible refine (hIsA.out _ hB9).mono ?_); rintro e w11 ⟨rfl, hb⟩; have hY := hY.call hb; obtain ⟨hr7, hl7, _, _⟩ := pk_at hY.h0; have hB9 := hB9.trans hb; clear hb))
        go_ret
        exact RB.mk' rfl hY.bel
      · have h1' : ((sy.n : Int) == 1) = false := beq_eq_false_iff_ne.2 (by omega)
        go_wp2_with (first | go_big_skip | (go_at_call 16; (with_reducible refine (hIsA.out _ hB9).mono ?_); rintro e w11 ⟨rfl, hb⟩; have hY := hY.call hb; obtain ⟨hr7, hl7, _, _⟩ := pk_at hY.h0; have hB9 := hB9.trans hb; clear hb) | (go_at_call 16; (with_reducible refine (hIsB.out _ hB9).mono ?_); rintro e w12 ⟨rfl, hb⟩; have hY := hY.call hb; clear hb))
        go_ret
        exact RB.mk' rfl hY.bel
end Go.Proofs.YtleokgmflelkcaaDoor
