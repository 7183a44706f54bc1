/- mosaicref11.Recut, walked. mosaicref11.Recut: the cut. -/
import Derived.Test.YtleokgmflelkcaaDoorVF3
import Derived.Test.YtleokgmflelkcaaDoorVD4
import Derived.Test.YtleokgmflelkcaaDoorVA20
set_option linter.unusedSimpArgs false
set_option linter.unusedVariables false
namespace Go.Proofs.YtleokgmflelkcaaDoor
open Go Go.RowKit

/-- A list of one packet that was built just now. -/
theorem pkRow_one {w W : World} {p : Pk} {m : Mp} (hb : Below w.heap.size w W) (h : IsP w.heap.size W p m) : PkRow w.heap.size (W.alloc (.cells (pkA p) 28)) (.slice (some ⟨W.heap.size, 0, none⟩) 1 1) 1 [m] := by
  refine ⟨[p], rfl, rfl, ⟨?_, .inr ⟨_, 1, pkA p, rfl, hb.size, heap_alloc_new _ _, Nat.le_refl _, by unfold maxLen; omega, by rw [pkA_size], ?_⟩⟩, ?_⟩
  · simp [pkCells, pkA_size]
  · simp only [pkCells, List.flatMap_cons, List.flatMap_nil, List.append_nil]
    exact List.take_of_length_le (by rw [Array.length_toList, pkA_size]; decide)
  · intro i q m' hq hm
    cases i with
    | zero =>
      simp only [List.getElem?_cons_zero, Option.some.injEq] at hq hm
      subst hq; subst hm
      exact h.alloc _
    | succ i => simp at hq
theorem rhead_head {p : Pk} {os : List Int} (h : rightF p os = true) : headF p os = rheadF p := by
  unfold headF rheadF
  rw [if_pos h]
theorem rhead_nums {p : Pk} (ho : p.o.n ≤ 40 ∨ p.v ≠ 4) : 0 ≤ rheadF p ∧ rheadF p ≤ 100 := by
  unfold rheadF head6F
  split
  · rcases ho with ho | ho
    · omega
    · contradiction
  · split <;> omega

set_option maxRecDepth 100000 in
set_option maxHeartbeats 1000000 in
theorem rrecut_err (p : Pk) (os ds : List Int) (mtu : Int) (w : World) (hp : PkIn w p os ds) (h : rightF p os = false ∨ mtu < 68 ∨ mtu > 65535) : Calls Tryd.prog 13 #[.agg (pkA p), .int .i64 mtu] w (RL (1, []) w) := by
  have hX := (Bx.start w).alloc (pkA p) 28
  obtain ⟨hr, hl, hs, hd⟩ := pk_at hX.h0
  have hR := Lib.hid (fun (V : World) (hb : Below w.heap.size w V) => ref11Right_any p os ds V (hp.below hb))
  cases hq : rightF p os
  · rw [hq] at hR
    clear h hq
    go_enter Tryd.func13, Tryd.ntmps13
    go_wp2_with (first | go_big_skip | (go_at_call 33; (with_reducible refine (hR.out _ hX.bel).mono ?_); rintro e w1 ⟨rfl, hb⟩; have hX := hX.call hb; clear hb))
    go_ret2
    exact ⟨_, 0, rfl, PkRow.nil _ _, hX.bel⟩
  · rw [hq] at hR h
    clear hq
    by_cases h1 : mtu < 68
    · have h1' : decide (mtu < 68) = true := by simpa using h1
      clear h h1
      go_enter Tryd.func13, Tryd.ntmps13
      go_wp2_with (first | go_big_skip | (go_at_call 33; (with_reducible refine (hR.out _ hX.bel).mono ?_); rintro e w1 ⟨rfl, hb⟩; have hX := hX.call hb; clear hb))
      go_ret2
      exact ⟨_, 0, rfl, PkRow.nil _ _, hX.bel⟩
    · have h1' : decide (mtu < 68) = false := by simpa using h1
      have h2' : decide (mtu > 65535) = true := by
        rcases h with h | h | h
        · cases h
        · exact absurd h h1
        · simpa using h
      clear h h1
      go_enter Tryd.func13, Tryd.ntmps13
      go_wp2_with (first | go_big_skip | (go_at_call 33; (with_reducible refine (hR.out _ hX.bel).mono ?_); rintro e w1 ⟨rfl, hb⟩; have hX := hX.call hb; clear hb))
      go_ret2
      exact ⟨_, 0, rfl, PkRow.nil _ _, hX.bel⟩

set_option maxRecDepth 100000 in
set_option maxHeartbeats 1000000 in
theorem rrecut_whole (p : Pk) (os ds : List Int) (mtu : Int) (w : World) (hp : PkIn w p os ds) (h0 : rightF p os = true) (h1 : 68 ≤ mtu) (h2 : mtu ≤ 65535) (h3 : rheadF p + p.d.n ≤ mtu) : Calls Tryd.prog 13 #[.agg (pkA p), .int .i64 mtu] w (RL (0, [p.mp os ds]) w) := by
  have hX := (Bx.start w).alloc (pkA p) 28
  obtain ⟨hr, hl, hs, hd⟩ := pk_at hX.h0
  have hn := right_nums' h0
  have hR := Lib.hid (fun (V : World) (hb : Below w.heap.size w V) => (h0 ▸ ref11Right_any p os ds V (hp.below hb) : Calls Tryd.prog 33 #[.agg (pkA p)] V (RB (.bool true) V)))
  have hB := Lib.hid (fun (V : World) => ref11Bytes_any p V hp.om hp.dm)
  have hp0 : ({ p with off := p.off + 0, more := p.more } : Pk) = p := by rw [Int.add_zero]
  have hds0 : ((ds.drop (0 : Int).toNat).take ((p.d.n : Int).toNat - (0 : Int).toNat)) = ds := by simp; exact List.take_of_length_le (by rw [hp.d.len]; exact Nat.le_refl _)
  have hP := Lib.hid (fun (V : World) (hb : Below w.heap.size w V) => (by have := piece_any p os ds p.o os 0 p.d.n p.more V (hp.below hb) (hp.o.below hb) hp.om (Int.le_refl _) (by omega) (Int.le_refl _) hn.1 (by omega); rw [hp0, hds0] at this; exact this : Calls Tryd.prog 35 #[.agg (pkA p), .slice p.o.a p.o.n p.o.c, .int .i64 0, .int .i64 (p.d.n : Int), .bool p.more] V (RPk p os ds V)))
  clear hp0 hds0
  have e1 : decide (mtu < 68) = false := by simp; omega
  have e2 : decide (mtu > 65535) = false := by simp; omega
  have e3 : decide (rheadF p + (p.d.n : Int) ≤ mtu) = true := by simpa using h3
  generalize rheadF p = H at *
  clear h0 h1 h2 h3
  replace hn := Lib.hid hn
  go_enter Tryd.func13, Tryd.ntmps13
  go_wp2_with (first | go_big_skip | (go_at_call 33; (with_reducible refine (hR.out _ hX.bel).mono ?_); rintro e w1 ⟨rfl, hb⟩; have hX := hX.call hb; obtain ⟨hr, hl, hs, hd⟩ := pk_at hX.h0; clear hb) | (go_at_call 34; (with_reducible refine (hB.out _).mono ?_); rintro e w1 ⟨rfl, hb⟩; have hX := hX.call hb; obtain ⟨hr, hl, hs, hd⟩ := pk_at hX.h0; clear hb) | (go_at_call 35; (with_reducible refine (hP.out _ hX.bel).mono ?_); rintro e w3 ⟨s1, s2, rfl, hs1, hs2, hb⟩; have hs1 := hs1.mono hX.bel.size; have hs2 := hs2.mono hX.bel.size; have hX := hX.call hb; clear hb) | (refine wpList_build_pk rfl (.tmp 33) rfl { p with o := s1, d := s2 } rfl ?_))
  go_ret2
  exact ⟨_, 1, rfl, pkRow_one hX.bel ⟨rfl, rfl, rfl, hs1, hs2⟩, hX.bel.alloc hX.bel.size _⟩

set_option maxRecDepth 100000 in
set_option maxHeartbeats 1000000 in
theorem rrecut_big (p : Pk) (os ds : List Int) (mtu : Int) (w : World) (hp : PkIn w p os ds) (h0 : rightF p os = true) (h1 : 68 ≤ mtu) (h2 : mtu ≤ 65535) (h3 : mtu < rheadF p + p.d.n) (h5 : p.v ≠ 4 ∨ p.df = true) : Calls Tryd.prog 13 #[.agg (pkA p), .int .i64 mtu] w (RL (100, []) w) := by
  have hX := (Bx.start w).alloc (pkA p) 28
  obtain ⟨hr, hl, hs, hd⟩ := pk_at hX.h0
  have hR := Lib.hid (fun (V : World) (hb : Below w.heap.size w V) => (h0 ▸ ref11Right_any p os ds V (hp.below hb) : Calls Tryd.prog 33 #[.agg (pkA p)] V (RB (.bool true) V)))
  have hB := Lib.hid (fun (V : World) => ref11Bytes_any p V hp.om hp.dm)
  have e1 : decide (mtu < 68) = false := by simp; omega
  have e2 : decide (mtu > 65535) = false := by simp; omega
  have e3 : decide (rheadF p + (p.d.n : Int) ≤ mtu) = false := by simp; omega
  generalize rheadF p = H at *
  clear h0 h1 h2 h3
  by_cases h6 : p.v = 4
  · have h7 : p.df = true := by simpa [h6] using h5
    have h6' : (p.v != 4) = false := by simp [h6]
    have hdf := Lib.hid h7
    have hc40 : (pkA p)[40]? = some (.bool true) := by rw [pkA_40, h7]
    clear h5 h6 h7
    go_enter Tryd.func13, Tryd.ntmps13
    go_wp2_with (first | go_big_skip | (go_at_call 33; (with_reducible refine (hR.out _ hX.bel).mono ?_); rintro e w1 ⟨rfl, hb⟩; have hX := hX.call hb; obtain ⟨hr, hl, hs, hd⟩ := pk_at hX.h0; clear hb) | (go_at_call 34; (with_reducible refine (hB.out _).mono ?_); rintro e w1 ⟨rfl, hb⟩; have hX := hX.call hb; obtain ⟨hr, hl, hs, hd⟩ := pk_at hX.h0; have h40 := (hr 40 (by decide)).trans hc40; clear hb))
    all_goals
      go_ret2
      exact ⟨_, 0, rfl, PkRow.nil _ _, hX.bel⟩
  · have h6' : (p.v != 4) = true := by simpa using h6
    clear h5 h6
    go_enter Tryd.func13, Tryd.ntmps13
    go_wp2_with (first | go_big_skip | (go_at_call 33; (with_reducible refine (hR.out _ hX.bel).mono ?_); rintro e w1 ⟨rfl, hb⟩; have hX := hX.call hb; obtain ⟨hr, hl, hs, hd⟩ := pk_at hX.h0; clear hb) | (go_at_call 34; (with_reducible refine (hB.out _).mono ?_); rintro e w1 ⟨rfl, hb⟩; have hX := hX.call hb; obtain ⟨hr, hl, hs, hd⟩ := pk_at hX.h0; clear hb))
    go_ret2
    exact ⟨_, 0, rfl, PkRow.nil _ _, hX.bel⟩
end Go.Proofs.YtleokgmflelkcaaDoor
namespace Go.Proofs.YtleokgmflelkcaaDoor
open Go Go.RowKit

def GRel (p : Pk) (os ds co : List Int) (M : Nat) (w : World) (b0 B : Nat) (lv ov av : Value) (wr : World) : Prop :=
  ∃ (k : Nat) (l : List Mp) (v so : Sl) (at_ : Nat) (os' : List Int), lv = .slice v.a v.n v.c ∧ ov = .slice so.a so.n so.c ∧ av = .int .i64 at_ ∧ PkRow B wr (.slice v.a v.n v.c) l.length l ∧ Bx w wr [(b0, 28, pkA p)] ∧ B ≤ wr.heap.size ∧ Ho w wr so os' ∧
    at_ ≤ ds.length ∧ os'.length ≤ 40 ∧ l ++ cuts M p.bare p.more co k (p.off + at_) os' (ds.drop at_) = cuts M p.bare p.more co ds.length p.off os ds ∧ (ds.drop at_).length ≤ k ∧ l.length + k = ds.length

def intV : Value → Int
  | .int _ n => n
  | _ => 0
set_option maxRecDepth 100000 in
set_option maxHeartbeats 2000000 in
theorem rrecut_cut (p : Pk) (os ds : List Int) (M : Nat) (w : World) (hp : PkIn w p os ds) (h1 : (68 : Int) ≤ M) (h2 : (M : Int) ≤ 65535) (h0 : right4F p os = true) (h3 : (M : Int) < 20 + p.o.n + ds.length) (h5 : p.df = false) :
    Calls Tryd.prog 13 #[.agg (pkA p), .int .i64 (M : Int)] w (RL (0, cuts M p.bare p.more (carryF os) ds.length p.off os ds) w) := by
  have hX := (Bx.start w).alloc (pkA p) 28
  obtain ⟨hr, hl, hs, hd⟩ := pk_at hX.h0
  obtain ⟨hn1, hn2, hn3, hn4, hn5, hn6⟩ := right4_nums h0
  have hrt : rightF p os = true := by unfold rightF; rw [if_pos hn6]; exact h0
  have hR := Lib.hid (fun (V : World) (hb : Below w.heap.size w V) => (hrt ▸ ref11Right_any p os ds V (hp.below hb) : Calls Tryd.prog 33 #[.agg (pkA p)] V (RB (.bool true) V)))
  have hrh : rheadF p = 20 + (p.o.n : Int) := by unfold rheadF; rw [if_pos hn6]
  have hB := Lib.hid (fun (V : World) => (hrh ▸ ref11Bytes_any p V hp.om hp.dm : Calls Tryd.prog 34 #[.agg (pkA p)] V (RB (.int .i64 (20 + (p.o.n : Int) + p.d.n)) V)))
  have hol := Lib.hid hp.o.len
  have hdl := Lib.hid hp.d.len
  have ho40 : p.o.n ≤ 40 := by
    have := (valid_parts hn5).1
    rw [hol.out] at this; exact this
  have hcf := Lib.hid (carry_facts hp.o.rng)
  have hcar := Lib.hid (fun (V : World) (hb : Below w.heap.size w V) => rcarry_any p.o os V (hp.o.below hb) hp.om)
  have hpc := Lib.hid (fun (so : Sl) (os' : List Int) (l u : Int) (more : Bool) (V : World) (hb : Below w.heap.size w V) (hso : Bs V so os') (hsm : so.n ≤ 140737488351232) (a : 0 ≤ l) (b : l ≤ u) (c : u ≤ p.d.n) => piece_any p os ds so os' l u more V (hp.below hb) hso hsm a b c hn1 (by omega))
  have e1 : decide ((M : Int) < 68) = false := by simp; omega
  have e2 : decide ((M : Int) > 65535) = false := by simp; omega
  have h3' : (M : Int) < 20 + (p.o.n : Int) + (p.d.n : Int) := by rw [hdl.out] at h3; exact h3
  have e3 : decide ((20 : Int) + (p.o.n : Int) + (p.d.n : Int) ≤ M) = false := by simp; omega
  have h6 : (p.v != 4) = false := by simp [hn6]
  have hc40 : (pkA p)[40]? = some (.bool false) := by rw [pkA_40, h5]
  have hdf := Lib.hid h5
  have hdn : p.d.n ≤ 65535 := by omega
  replace hn6 := Lib.hid hn6
  replace hrh := Lib.hid hrh
  clear h0 h3 h5 hrt
  generalize hco : carryF os = co at *
  replace hco := Lib.hid hco
  go_enter Tryd.func13, Tryd.ntmps13
  go_wp2_with (first | go_big_skip | (go_at_call 33; (with_reducible refine (hR.out _ hX.bel).mono ?_); rintro e w1 ⟨rfl, hb⟩; have hX := hX.call hb; obtain ⟨hr, hl, hs, hd⟩ := pk_at hX.h0; clear hb) | (go_at_call 34; (with_reducible refine (hB.out _).mono ?_); rintro e w2 ⟨rfl, hb⟩; have hX := hX.call hb; obtain ⟨hr, hl, hs, hd⟩ := pk_at hX.h0; have h40 := (hr 40 (by decide)).trans hc40; clear hb))
  have hlt0 : w.heap.size < w2.heap.size := hX.lt _ (List.mem_cons_self ..)
  generalize hBs : w2.heap.size = B at *
  go_loopw [6, 7, 8] (fun lv ov av wr => GRel p os ds co M w w.heap.size B lv ov av wr) (fun _ _ av _ => ds.length - (intV av).toNat)
  case atStart => exact ⟨ds.length, [], ⟨none, 0, 0⟩, p.o, 0, os, rfl, rfl, rfl, PkRow.nil _ _, hX, Nat.le_of_eq hBs.symm, .inl hp.o, Nat.zero_le _, by rw [hol.out]; exact ho40, by simp, by simp, by simp⟩
  case round =>
    clear hX hr hl hs hd h40
    obtain ⟨k, l, v, so, at_, os', rfl, rfl, rfl, hrow, hX, hBr, hso, hat, ho', htot, hk, hlk⟩ := hrel
    have hsl := (hso.bs hX.bel).len
    rw [hsl] at ho'
    have hdr : (ds.drop at_).length = ds.length - at_ := List.length_drop
    have hdlen := hdl.out
    have hat' : at_ ≤ p.d.n := by omega
    obtain ⟨hr, hl, hs, hd⟩ := pk_at hX.h0
    have hln := Lib.hid (show l.length ≤ 925904528626 by omega)
    have hsb := Lib.hid (hso.bs hX.bel)
    by_cases hfit : (20 : Int) + so.n + p.d.n - at_ > M
    · have hfit' : decide ((20 : Int) + so.n + p.d.n - at_ > M) = true := by simpa using hfit
      obtain ⟨r, hr0⟩ : ∃ r : Nat, r = (M - 20 - so.n) / 8 * 8 := ⟨_, rfl⟩
      have hr1 : 0 < r := by omega
      have hr2 : at_ + r < p.d.n := by omega
      have hroom : Int.tdiv ((M : Int) - 20 - (so.n : Int)) 8 * 8 = r := by
        rw [Int.tdiv_eq_ediv_of_nonneg (by omega)]; omega
      have hroom2 : ((M : Int) - 20 - (so.n : Int)) / 8 * 8 = r := by omega
      obtain ⟨k, rfl⟩ : ∃ j, k = j + 1 := ⟨k - 1, by omega⟩
      have hstep := Lib.hid (show (l ++ [(⟨p.bare, true, p.off + at_, os', (ds.drop at_).take r⟩ : Mp)]) ++ cuts M p.bare p.more co k (p.off + ((at_ + r : Nat) : Int)) co (ds.drop (at_ + r)) = cuts M p.bare p.more co ds.length p.off os ds by
        have e : p.off + ((at_ + r : Nat) : Int) = p.off + (at_ : Int) + (r : Int) := by rw [Int.natCast_add]; omega
        rw [← htot, cuts_step (by rw [hsl]; omega), hsl, ← hr0, List.drop_drop, List.append_assoc, e]
        rfl)
      have hkr := Lib.hid (show (ds.drop (at_ + r)).length ≤ k by rw [List.length_drop]; omega)
      have hlk2 := Lib.hid (show (l ++ [(⟨p.bare, true, p.off + at_, os', (ds.drop at_).take r⟩ : Mp)]).length + k = ds.length by rw [List.length_append]; simp; omega)
      have hatr := Lib.hid (show at_ + r ≤ ds.length by omega)
      have hPC := Lib.hid (fun (V : World) (hb : Below w.heap.size w V) (hsv : Bs V so os') => (by have := hpc.out so os' at_ ((at_ : Int) + r) true V hb hsv (by omega) (by omega) (by omega) (by omega); rw [show ((at_ : Int) + r).toNat - (at_ : Int).toNat = r by omega, Int.toNat_natCast] at this; exact this : Calls Tryd.prog 35 #[.agg (pkA p), .slice so.a so.n so.c, .int .i64 (at_ : Int), .int .i64 ((at_ : Int) + r), .bool true] V (RPk { p with off := p.off + at_, more := true } os' ((ds.drop at_).take r) V)))
      have hco40 := Lib.hid (show co.length ≤ 40 by have := hcf.out.1; have := hol.out; omega)
      clear htot hk hlk hr0 hdr hso
      replace hsl := Lib.hid hsl
      replace hdlen := Lib.hid hdlen
      go_wp2_with (first | (go_at_call 35; (with_reducible refine (hPC.out _ hX.bel hsb.out).mono ?_); rintro e w3 ⟨s1, s2, rfl, hs1, hs2, hb⟩; have hs1 := hs1.mono hBr; have hs2 := hs2.mono hBr; have hrow := hrow.below hb; have hBr := Nat.le_trans hBr hb.size; have hX := hX.call hb; clear hb) | (refine wpList_build_pk rfl (.tmp 69) rfl { p with off := p.off + at_, more := true, o := s1, d := s2 } rfl ?_) | (at_builtin; refine wpList_append_pk rfl _ _ rfl B _ l.length l rfl (hrow.below ((Below.refl _ _).alloc (Nat.le_refl _) _)) { p with off := p.off + at_, more := true, o := s1, d := s2 } ⟨p.bare, true, p.off + at_, os', (ds.drop at_).take r⟩ _ rfl (heap_alloc_new _ _) ⟨rfl, rfl, rfl, hs1.alloc _, hs2.alloc _⟩ hln.out (size_le_alloc hBr _) ?_; intro v' w4 hrow4 hb4 _; obtain ⟨-, v4, rfl, -⟩ := hrow4.form; have hX := (hX.junk (.cells (pkA { p with off := p.off + at_, more := true, o := s1, d := s2 }) 28)).call' hb4 (Nat.le_of_lt hlt0) (by intro x hx; simp only [List.mem_cons, List.not_mem_nil, or_false] at hx; subst hx; exact hlt0); have hBr := Nat.le_trans (size_le_alloc hBr _) hb4.size; obtain ⟨hr, hl, hs, hd⟩ := pk_at hX.h0; clear hb4) | (go_at_call 36; (with_reducible refine (hcar.out _ hX.bel).mono ?_); rintro e w5 ⟨s5, rfl, hs5, hb⟩; have hs5 := hs5.mono hX.bel.size; have hrow4 := hrow4.below hb; have hBr := Nat.le_trans hBr hb.size; have hX := hX.call hb; clear hb))
      go_roundw
      case rel => exact ⟨k, _, v4, s5, at_ + r, co, rfl, rfl, by go_num, by rw [List.length_append]; exact hrow4, hX, hBr, .inr hs5, hatr.out, hco40.out, hstep.out, hkr.out, hlk2.out⟩
      case measure => simp [intV]; have := hdlen.out; omega
    · have hfit2 : (20 : Int) + so.n + p.d.n - at_ ≤ M := by omega
      have hfit' : decide ((M : Int) < (20 : Int) + so.n + p.d.n - at_) = false := by simp; omega
      have hfit'' : decide ((20 : Int) + so.n + p.d.n - at_ > M) = false := by simp; omega
      have hend := Lib.hid (show l ++ [(⟨p.bare, p.more, p.off + at_, os', ds.drop at_⟩ : Mp)] = cuts M p.bare p.more co ds.length p.off os ds by
        rw [← htot, cuts_last (by rw [hsl]; omega)])
      have hPC := Lib.hid (fun (V : World) (hb : Below w.heap.size w V) (hsv : Bs V so os') => (by have := hpc.out so os' at_ (p.d.n : Int) p.more V hb hsv (by omega) (by omega) (by omega) (Int.le_refl _); rw [show ((ds.drop (at_ : Int).toNat).take ((p.d.n : Int).toNat - (at_ : Int).toNat)) = ds.drop at_ by rw [Int.toNat_natCast, Int.toNat_natCast]; exact List.take_of_length_le (by rw [List.length_drop]; omega)] at this; exact this : Calls Tryd.prog 35 #[.agg (pkA p), .slice so.a so.n so.c, .int .i64 (at_ : Int), .int .i64 (p.d.n : Int), .bool p.more] V (RPk { p with off := p.off + at_, more := p.more } os' (ds.drop at_) V)))
      clear htot hk hlk hdr hfit hso
      replace hsl := Lib.hid hsl
      replace hdlen := Lib.hid hdlen
      go_wp2_with (first | (go_at_call 35; (with_reducible refine (hPC.out _ hX.bel hsb.out).mono ?_); rintro e w3 ⟨s1, s2, rfl, hs1, hs2, hb⟩; have hs1 := hs1.mono hBr; have hs2 := hs2.mono hBr; have hrow := hrow.below hb; have hBr := Nat.le_trans hBr hb.size; have hX := hX.call hb; clear hb) | (refine wpList_build_pk rfl (.tmp 87) rfl { p with off := p.off + at_, more := p.more, o := s1, d := s2 } rfl ?_) | (at_builtin; refine wpList_append_pk rfl _ _ rfl B _ l.length l rfl (hrow.below ((Below.refl _ _).alloc (Nat.le_refl _) _)) { p with off := p.off + at_, more := p.more, o := s1, d := s2 } ⟨p.bare, p.more, p.off + at_, os', ds.drop at_⟩ _ rfl (heap_alloc_new _ _) ⟨rfl, rfl, rfl, hs1.alloc _, hs2.alloc _⟩ hln.out (size_le_alloc hBr _) ?_; intro v' w4 hrow4 hb4 _))
      go_ret2
      rw [← hend.out]
      exact ⟨_, _, rfl, hrow4.mono (Nat.le_of_lt hlt0), (hX.bel.alloc hX.bel.size _).trans (hb4.mono (Nat.le_of_lt hlt0))⟩

/-- The reference's Recut answers as the program's: co is what is carried. -/
theorem rrecut_any (p : Pk) (os ds : List Int) (mtu : Int) (w : World) (hp : PkIn w p os ds) : Calls Tryd.prog 13 #[.agg (pkA p), .int .i64 mtu] w (RL (recutR p os ds (carryF os) mtu) w) := by
  unfold recutR
  by_cases h1 : headF p os = 0 ∨ mtu < 68 ∨ mtu > 65535
  · rw [if_pos h1]
    rw [headF_zero] at h1
    exact rrecut_err p os ds mtu w hp h1
  rw [if_neg h1]
  have h0 : rightF p os = true := by
    cases h : rightF p os
    · exact absurd (.inl ((headF_zero _ _).2 h)) h1
    · rfl
  have hm1 : 68 ≤ mtu := by omega
  have hm2 : mtu ≤ 65535 := by omega
  rw [rhead_head h0, hp.d.len]
  by_cases h2 : rheadF p + p.d.n ≤ mtu
  · rw [if_pos h2]
    exact rrecut_whole p os ds mtu w hp h0 hm1 hm2 h2
  rw [if_neg h2]
  by_cases h3 : p.v ≠ 4 ∨ p.df = true
  · rw [if_pos h3]
    exact rrecut_big p os ds mtu w hp h0 hm1 hm2 (by omega) h3
  rw [if_neg h3]
  obtain ⟨M, rfl⟩ : ∃ M : Nat, mtu = M := ⟨mtu.toNat, by omega⟩
  have hv : p.v = 4 := by
    by_cases h : p.v = 4
    · exact h
    · exact absurd (.inl h) h3
  have h4 : right4F p os = true := by unfold rightF at h0; rwa [if_pos hv] at h0
  have hrh : rheadF p = 20 + (p.o.n : Int) := by unfold rheadF; rw [if_pos hv]
  rw [hrh] at h2
  have := rrecut_cut p os ds M w hp hm1 hm2 h4 (by rw [hp.d.len]; omega) (by cases h : p.df; rfl; exact absurd (.inr h) h3)
  rw [hp.d.len] at this
  exact this
end Go.Proofs.YtleokgmflelkcaaDoor
