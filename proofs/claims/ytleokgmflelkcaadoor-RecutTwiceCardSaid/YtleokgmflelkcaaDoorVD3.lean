/- mosaicref11.Join, walked. -/
import Derived.Test.YtleokgmflelkcaaDoorVD4
import Derived.Test.YtleokgmflelkcaaDoorVC0
set_option linter.unusedSimpArgs false
set_option linter.unusedVariables false
namespace Go.Proofs.YtleokgmflelkcaaDoor
open Go Go.RowKit

/-- What the reference's Join answers. -/
def RR (r : JR) (w : World) (e : Ending) (w' : World) : Prop :=
  ∃ s1 s2 : Sl, e = .returned (.tuple #[.agg (pkA { r.p with o := s1, d := s2 }), .int .i64 r.e]) ∧ Own w.heap.size w' s1 r.os ∧ Own w.heap.size w' s2 r.ds ∧ Below w.heap.size w w'
theorem RR.err {r : JR} {e : Int} {w W : World} (h : r = joinE e) (hb : Below w.heap.size w W) : RR r w (.returned (.tuple #[.agg (pkA zPk), .int .i64 e])) W := by
  subst h
  exact ⟨⟨none, 0, 0⟩, ⟨none, 0, 0⟩, rfl, own_nil _ _, own_nil _ _, hb⟩
theorem RR.ok {r : JR} {w W : World} {q0 q : Pk} {os ds : List Int} {s1 sd : Sl} (h : r = ⟨0, q0, os, ds⟩) (hq : { q0 with o := s1, d := sd } = q) (h1 : Own w.heap.size W s1 os) (h2 : Own w.heap.size W sd ds) (hb : Below w.heap.size w W) :
    RR r w (.returned (.tuple #[.agg (pkA q), .int .i64 0])) W := by
  subst h
  exact ⟨s1, sd, by rw [hq], h1, h2, hb⟩
theorem RF.two {f : FuncId} {args : Array Value} {r : Option Int} {a : Int} {b : Bool} {w : World} (h1 : r.getD 0 = a) (h2 : r.isSome = b) (h : Calls Tryd.prog f args w (RF r w)) : Calls Tryd.prog f args w (RE2 a b w) := by
  subst h1; subst h2; exact h
/-- How long the data of a boxed packet are. -/
def lenAt (w : World) (b : Nat) : Nat := match w.cell? ⟨b, 45, none⟩ with | some (.slice _ n _) => n | _ => 0
theorem lenAt_of {w : World} {b : Nat} {t : TypeId} {p : Pk} (h : w.heap[b]? = some (.cells (pkA p) t (0, 0))) : lenAt w b = p.d.n := by
  unfold lenAt
  rw [(pk_at h).1 45 (by decide), pkA_45]
def RjRel (l : List Fp) (p : Pk) (os : List Int) (s1 : Sl) (e : Int) (n0 : Nat) (ds0 : List Int) (b B : Nat) (w : World) (wr : World) : Prop :=
  ∃ (f : Nat) (sd : Sl) (ds : List Int), refGo l e n0 ds0 = refGo l e f ds ∧ e - (ds.length : Int) ≤ f ∧ ds.length ≤ 200000 ∧ Bx w wr [(b, 28, pkA { p with o := s1, d := sd, more := false }), (w.heap.size, 28, pkA zPk)] ∧ Own B wr sd ds ∧ Own w.heap.size wr s1 os ∧ B ≤ wr.heap.size

set_option maxRecDepth 100000 in
set_option maxHeartbeats 1000000 in
theorem rjoin_no (s : Sl) (l : List Fp) (w : World) (hs : PkS w s l) (hm : s.n ≤ 925904528626) (hE : fitsR l = none) : Calls Tryd.prog 20 #[.slice s.a s.n s.c] w (RR (refR l) w) := by
  have hX := (Bx.start w).alloc (pkA zPk) 28
  have hend := Lib.hid (fun (V : World) (hb : Below w.heap.size w V) => RF.two (r := fitsR l) (a := 0) (b := false) (by rw [hE]; rfl) (by rw [hE]; rfl) (fits_a s l V (hs.below hb) hm))
  have hfin := Lib.hid (refR_no hE)
  clear hE
  go_enter Tryd.func20, Tryd.ntmps20
  go_wp2_with (first | (go_at_call 47; (with_reducible refine (hend.out _ hX.bel).mono ?_); rintro e w1 ⟨rfl, hb⟩; have hX := hX.call hb; clear hb) | (refine wpList_build_to rfl 28 #[] rfl (pkA zPk) (by kernel_rfl) ?_) | (refine wpList_storeA_bx rfl 28 (.tmp 2) (.tmp 16) rfl _ _ rfl rfl (bs := []) hX (by rw [pkA_size]; exact i28) ((pkA_size _).trans (pkA_size _).symm) (pkA_one _) ?_; intro W2 hX hg; have hX : Bx w W2 [_] := hX))
  exact bodyPost_ret (results_cell2 (q := 2) (t := 3) rfl _ _ _ _ _ (.int .i64 1) rfl rfl hX.h0 (g28 _) (by rw [pkA_size]; exact i28)) rfl (RR.err hfin.out hX.bel)

set_option maxRecDepth 100000 in
set_option maxHeartbeats 1000000 in
theorem rjoin_gap (s : Sl) (l : List Fp) (e : Int) (w : World) (hs : PkS w s l) (hm : s.n ≤ 925904528626) (hE : fitsR l = some e) (h0 : e < 0 ∨ getAt l 0 = none) : Calls Tryd.prog 20 #[.slice s.a s.n s.c] w (RR (refR l) w) := by
  have hX := (Bx.start w).alloc (pkA zPk) 28
  have hend := Lib.hid (fun (V : World) (hb : Below w.heap.size w V) => RF.two (r := fitsR l) (a := e) (b := true) (by rw [hE]; rfl) (by rw [hE]; rfl) (fits_a s l V (hs.below hb) hm))
  have hfin := Lib.hid (show refR l = joinE 110 by
    by_cases he : e < 0
    · exact refR_gap1 hE he
    · exact refR_gap2 hE (by omega) (h0.resolve_left he))
  have hat := Lib.hid (fun (V : World) (hb : Below w.heap.size w V) => at_any s l 0 V (hs.below hb) hm)
  by_cases he : e < 0
  · have he' : decide (e < 0) = true := by simpa using he
    clear hE h0 he
    go_enter Tryd.func20, Tryd.ntmps20
    go_wp2_with (first | go_big_skip | (go_at_call 47; (with_reducible refine (hend.out _ hX.bel).mono ?_); rintro e w1 ⟨rfl, hb⟩; have hX := hX.call hb; clear hb) | (go_at_call 48; (with_reducible refine (hat.out _ hX.bel).mono ?_); rintro e w1 ⟨rfl, hb⟩; have hX := hX.call hb; clear hb) | (refine wpList_build_to rfl 28 #[] rfl (pkA zPk) (by kernel_rfl) ?_) | (refine wpList_storeA_bx rfl 28 (.tmp 2) (.tmp 25) rfl _ _ rfl rfl (bs := []) hX (by rw [pkA_size]; exact i28) ((pkA_size _).trans (pkA_size _).symm) (pkA_one _) ?_; intro W2 hX hg; have hX : Bx w W2 [_] := hX))
    exact bodyPost_ret (results_cell2 (q := 2) (t := 3) rfl _ _ _ _ _ (.int .i64 110) rfl rfl hX.h0 (g28 _) (by rw [pkA_size]; exact i28)) rfl (RR.err hfin.out hX.bel)
  · have he' : decide (e < 0) = false := by simpa using he
    have hm1 : atF 0 0 l = -1 := by
      rcases atF_cases 0 l with h | ⟨k, x, h1, h2, h3, h4⟩
      · exact h.1
      · rw [h4] at h0; rcases h0 with h0 | h0
        · exact absurd h0 he
        · cases h0
    rw [hm1] at hat
    clear hE h0 he hm1
    go_enter Tryd.func20, Tryd.ntmps20
    go_wp2_with (first | go_big_skip | (go_at_call 47; (with_reducible refine (hend.out _ hX.bel).mono ?_); rintro e w1 ⟨rfl, hb⟩; have hX := hX.call hb; clear hb) | (go_at_call 48; (with_reducible refine (hat.out _ hX.bel).mono ?_); rintro e w1 ⟨rfl, hb⟩; have hX := hX.call hb; clear hb) | (refine wpList_build_to rfl 28 #[] rfl (pkA zPk) (by kernel_rfl) ?_) | (refine wpList_storeA_bx rfl 28 (.tmp 2) (.tmp 25) rfl _ _ rfl rfl (bs := []) hX (by rw [pkA_size]; exact i28) ((pkA_size _).trans (pkA_size _).symm) (pkA_one _) ?_; intro W2 hX hg; have hX : Bx w W2 [_] := hX))
    exact bodyPost_ret (results_cell2 (q := 2) (t := 3) rfl _ _ _ _ _ (.int .i64 110) rfl rfl hX.h0 (g28 _) (by rw [pkA_size]; exact i28)) rfl (RR.err hfin.out hX.bel)

set_option maxRecDepth 100000 in
set_option maxHeartbeats 4000000 in
theorem rjoin_go (s : Sl) (l : List Fp) (e : Int) (k : Nat) (x : Fp) (w : World) (hs : PkS w s l) (hm : s.n ≤ 925904528626) (hE : fitsR l = some e) (h0 : 0 ≤ e) (hk : atF 0 0 l = (k : Int)) (hx : l[k]? = some x) (hga : getAt l 0 = some x) : Calls Tryd.prog 20 #[.slice s.a s.n s.c] w (RR (refR l) w) := by
  have hX := (Bx.start w).alloc (pkA zPk) 28
  obtain ⟨hright, hends⟩ := fitsR_facts hE
  replace hends := Lib.hid (hends h0).2
  replace hright := Lib.hid hright
  have hend := Lib.hid (fun (V : World) (hb : Below w.heap.size w V) => RF.two (r := fitsR l) (a := e) (b := true) (by rw [hE]; rfl) (by rw [hE]; rfl) (fits_a s l V (hs.below hb) hm))
  have hat := Lib.hid (fun (V : World) (hb : Below w.heap.size w V) => at_any s l 0 V (hs.below hb) hm)
  rw [hk] at hat
  have hatL := Lib.hid (fun (off : Int) (V : World) (hb : Below w.heap.size w V) => at_any s l off V (hs.below hb) hm)
  have hlen := Lib.hid hs.len
  have hkn : k < s.n := by have := (List.getElem?_eq_some_iff.1 hx).1; rw [hlen.out] at this; exact this
  have hpx := Lib.hid (hs.pk x (List.mem_of_getElem? hx))
  have hrx := right_nums' (hright.out x (List.mem_of_getElem? hx))
  have hown1 := Lib.hid (fun (V : World) (hb : Below w.heap.size w V) => ref11own_any x.p.o x.os V (hpx.out.o.below hb) hpx.out.om)
  have hown2 := Lib.hid (fun (V : World) (hb : Below w.heap.size w V) => ref11own_any x.p.d x.ds V (hpx.out.d.below hb) hpx.out.dm)
  replace hs := Lib.hid hs
  obtain ⟨sa, n, c⟩ := s
  obtain ⟨b, o, hsa⟩ : ∃ b o, sa = some ⟨b, o, none⟩ := by
    rcases hs.out.at_ with ⟨_, h0, _⟩ | ⟨b, o, h1, _⟩
    · simp only at h0 hkn; omega
    · exact ⟨b, o, h1⟩
  subst hsa
  simp only at hm hkn hlen
  have hld := Lib.hid (fun (V : World) (hb : Below w.heap.size w V) => hs.out.load hx hb)
  have he' : decide (e < 0) = false := by simp; exact h0
  have hk0 : decide ((k : Int) < 0) = false := by simp
  have hdl := Lib.hid (show x.ds.length ≤ 65535 by rw [hpx.out.d.len]; omega)
  clear hk
  replace hx := Lib.hid hx
  replace hE := Lib.hid hE
  replace hga := Lib.hid hga
  replace hrx := Lib.hid hrx
  go_enter Tryd.func20, Tryd.ntmps20
  go_wp2_with (first | go_big_skip | (go_at_call 47; (with_reducible refine (hend.out _ hX.bel).mono ?_); rintro e w1 ⟨rfl, hb⟩; have hX := hX.call hb; have hlx := hld.out _ hX.bel; clear hb) | (go_at_call 48; (with_reducible refine (hat.out _ hX.bel).mono ?_); rintro e w1 ⟨rfl, hb⟩; have hX := hX.call hb; have hlx := hld.out _ hX.bel; clear hb) | (refine wpList_storeA_bx rfl 28 (.tmp 7) (.tmp 29) rfl _ _ rfl rfl (bs := []) (hX.alloc (pkA zPk) 28) (by rw [pkA_size]; exact i28) ((pkA_size _).trans (pkA_size _).symm) (pkA_one _) ?_; intro W1 hX1 hg; have hX1 : Bx w W1 [_, _] := hX1; obtain ⟨hr, hl, _, _⟩ := pk_at hX1.h0; clear hg; dsimp only [Act.put]) | (go_at_call 49; (with_reducible refine (hown1.out _ hX1.bel).mono ?_); rintro e W2 ⟨s1, rfl, hs1, hb⟩; have hs1 := hs1.mono hX1.bel.size; have hX2 := hX1.call hb; obtain ⟨hr, hl, _, _⟩ := pk_at hX2.h0; clear hb) | (refine wpList_store_bx rfl 26 (.tmp 33) (.tmp 32) rfl _ 44 _ rfl rfl (bs := []) hX2 (size26 _) rfl rfl (by rw [pkA_size]; decide) _ (pkA_set_o _ _ _ _) ?_; intro W3 hX3 hg; have hX3 : Bx w W3 [_, _] := hX3; have hs1 := hs1.box hX2.h0 (by decide) hg; obtain ⟨hr, hl, _, _⟩ := pk_at hX3.h0; clear hg; dsimp only [Act.put]) | (go_at_call 49; (with_reducible refine (hown2.out _ hX3.bel).mono ?_); rintro e W4 ⟨s2, rfl, hs2, hb⟩; have h1B := Lib.hid (ownsRow_lt hs1.1); have hB34 := hb.size; have hlt7 := hX3.lt _ (List.mem_cons_self ..); have hlt2 : w.heap.size < W3.heap.size := hX3.lt (w.heap.size, 28, pkA zPk) (by simp); have hs1 := hs1.below hb; have hX4 := hX3.call hb; obtain ⟨hr, hl, _, _⟩ := pk_at hX4.h0; clear hb) | (refine wpList_store_bx rfl 26 (.tmp 37) (.tmp 36) rfl _ 45 _ rfl rfl (bs := []) hX4 (size26 _) rfl rfl (by rw [pkA_size]; decide) _ (pkA_set_d _ _ _ _) ?_; intro W5 hX5 hg; have hX5 : Bx w W5 [_, _] := hX5; have hs1 := hs1.box hX4.h0 (by decide) hg; have hs2 := hs2.box hX4.h0 (by decide) hg; have hB34 := Nat.le_trans hB34 hg.size; obtain ⟨hr, hl, _, _⟩ := pk_at hX5.h0; clear hg; dsimp only [Act.put]) | (refine wpList_store_bx rfl 4 (.tmp 38) (.const _) rfl _ 41 _ rfl rfl (bs := []) hX5 (size4 _) rfl rfl (by rw [pkA_size]; decide) _ (pkA_set_more _ _) ?_; intro W6 hX6 hg; have hX6 : Bx w W6 [_, _] := hX6; have hs1 := hs1.box hX5.h0 (by decide) hg; have hs2 := hs2.box hX5.h0 (by decide) hg; have hB34 := Nat.le_trans hB34 hg.size; clear hg; dsimp only [Act.put]))
  clear hr hl
  have hX6 : Bx w W6 [(w1.heap.size, 28, pkA { x.p with o := s1, d := s2, more := false }), (w.heap.size, 28, pkA zPk)] := hX6
  clear hX hX1 hX2 hX3 hX4 hX5 hlx
  replace hlt7 : w1.heap.size < W3.heap.size := hlt7
  generalize hb7 : w1.heap.size = b7 at *
  generalize hB0 : W3.heap.size = B at *
  have hwB : w.heap.size ≤ B := Nat.le_of_lt hlt2
  have hlB := Lib.hid (fun (z : Nat × TypeId × Array Value) (a c : Array Value) (hz : z ∈ [(b7, 28, a), (w.heap.size, 28, c)]) => (show z.1 < B by simp only [List.mem_cons, List.not_mem_nil, or_false] at hz; rcases hz with rfl | rfl; (· exact hlt7); (· exact hlt2)))
  go_loopw [8] (fun i wr => RjRel l x.p x.os s1 e e.toNat x.ds b7 B w wr) (fun i wr => e.toNat - lenAt wr b7)
  case atStart => exact ⟨e.toNat, s2, x.ds, rfl, by omega, by have := hdl.out; omega, hX6, hs2, hs1, hB34⟩
  case round =>
    clear hX6 hs2 hs1 hB34
    obtain ⟨f, sd, ds, hval, hf, hd2, hX, hsd, hs1, hwr⟩ := hrel
    rename_i wr
    replace hval := Lib.hid hval
    have hsl : ds.length = sd.n := hsd.bs.len
    have hm1 := Lib.hid (lenAt_of hX.h0)
    obtain ⟨hr, hl, _, _⟩ := pk_at hX.h0
    by_cases hc : (sd.n : Int) < e
    · have hc' : decide ((sd.n : Int) < e) = true := by simpa using hc
      obtain ⟨f, rfl⟩ : ∃ g, f = g + 1 := ⟨f - 1, by omega⟩
      have hc2 := Lib.hid (show (ds.length : Int) < e by rw [hsl]; exact hc)
      rcases atF_cases sd.n l with ⟨h1, h2⟩ | ⟨i, y, h1, h2, h3, h4⟩
      · have hA := Lib.hid (fun (V : World) (hb : Below w.heap.size w V) => (by have := hatL.out sd.n V hb; rw [h1] at this; exact this : Calls Tryd.prog 48 #[.slice (some ⟨b, o, none⟩) n c, .int .i64 (sd.n : Int)] V (RB (.int .i64 (-1)) V)))
        have hgo := Lib.hid (show refGo l e e.toNat x.ds = none by rw [hval.out]; exact refGo_none hc2.out (by rw [hsl]; exact h2))
        clear h1 h2
        replace hsl := Lib.hid hsl
        go_wp2_with (first | (go_at_call 48; (with_reducible refine (hA.out _ hX.bel).mono ?_); rintro e w8 ⟨rfl, hb⟩; have hX := hX.call hb; clear hb) | (refine wpList_build_to rfl 28 #[] rfl (pkA zPk) (by kernel_rfl) ?_) | (refine wpList_storeA_bx rfl 28 (.tmp 2) (.tmp 51) rfl _ _ rfl rfl (bs := [_]) hX (by rw [pkA_size]; exact i28) ((pkA_size _).trans (pkA_size _).symm) (pkA_one _) ?_; intro W9 hX9 hg9))
        have hX9 : Bx w W9 [_, _] := hX9
        exact bodyPost_ret (results_cell2 (q := 2) (t := 3) rfl _ _ _ _ _ (.int .i64 110) rfl rfl hX9.h1 (g28 _) (by rw [pkA_size]; exact i28)) rfl (RR.err (refR_gap3 hE.out h0 hga.out hgo.out) hX9.bel)
      · have hin : i < n := by have := (List.getElem?_eq_some_iff.1 h2).1; rw [hlen.out] at this; exact this
        have hpy := Lib.hid (hs.out.pk y (List.mem_of_getElem? h2))
        have hry := right_nums' (hright.out y (List.mem_of_getElem? h2))
        have hny : 0 < y.p.d.n := by
          refine Nat.pos_of_ne_zero fun hz => ?_
          obtain ⟨e1, e2⟩ := right_empty (hright.out y (List.mem_of_getElem? h2)) hz
          have e3 := hends.out y (List.mem_of_getElem? h2) e2
          unfold endsF at e3
          have e4 := hpy.out.d.len
          omega
        have hA := Lib.hid (fun (V : World) (hb : Below w.heap.size w V) => (by have := hatL.out sd.n V hb; rw [h1] at this; exact this : Calls Tryd.prog 48 #[.slice (some ⟨b, o, none⟩) n c, .int .i64 (sd.n : Int)] V (RB (.int .i64 (i : Int)) V)))
        have hgo := Lib.hid (show refGo l e e.toNat x.ds = refGo l e f (ds ++ y.ds) by rw [hval.out]; exact refGo_go hc2.out (by rw [hsl]; exact h4))
        have hcy := Lib.hid (fun (V : World) (hb : Below w.heap.size w V) => (hs.out.fields h2 hb 45 (by decide)).trans (pkA_45 _))
        have hdy := Lib.hid hpy.out.d.len
        have h47 := Lib.hid (show sd.n + y.p.d.n ≤ 140737488355328 by omega)
        have hi0 : decide ((i : Int) < 0) = false := by simp
        have hyo := Lib.hid h3
        clear h1 h2 h3 h4
        replace hry := Lib.hid hry
        have hsl' := Lib.hid hsl
        clear hsl
        go_wp2_with (first | (go_at_call 48; (with_reducible refine (hA.out _ hX.bel).mono ?_); rintro e w8 ⟨rfl, hb⟩; have hX := hX.call hb; have hsd := hsd.below hb; have hs1 := hs1.below hb; have hwr := Nat.le_trans hwr hb.size; clear hb hr hl))
        obtain ⟨hr, hl, _, _⟩ := pk_at hX.h0
        have hcy1 := hcy.out _ hX.bel
        have hbd := Lib.hid (hpy.out.d.below hX.bel.drew)
        have hsdd := Lib.hid (hsd.below (Below.refl _ _).drew)
        have hfz := fz_at hX.h0
        go_region_law ((refine step_append_sl (by rfl) (.tmp 53) (.tmp 58) (by rfl) B sd ds (by rfl) hsdd.out y.p.d y.ds (by rfl) hbd.out h47.out hwr ?_; intro s3 W4 hs3 hn3 hb3; replace hn3 := Lib.hid hn3; have hB4 : Below B w8 W4 := (Below.refl _ _).drew.trans hb3; have hX4 := hX.call' hB4 hwB (fun z hz => hlB.out z _ _ hz); have hfz4 := fz_at hX4.h0; obtain ⟨hr4, hl4, _, _⟩ := pk_at hX4.h0))
        all_goals
          go_wp2_with fail
          obtain ⟨hY, hg⟩ := Bx.cell (bs := []) hX4 45 (.slice s3.a s3.n s3.c) _ (pkA_set_d _ _ _ _)
          have hs3 := hs3.box hX4.h0 (by decide) hg
          have hs1 := (hs1.under hB4 h1B.out).box hX4.h0 (by decide) hg
          have hwr := Nat.le_trans (Nat.le_trans hwr hB4.size) hg.size
          clear hg hfz4 hr4 hl4
          generalize World.setCell _ _ _ = W5 at hY hs3 hs1 hwr ⊢
          have hm2 := Lib.hid (lenAt_of hY.h0)
          go_roundw
          case rel =>
            refine ⟨f, s3, ds ++ y.ds, hgo.out, ?_, ?_, hY, hs3, hs1, hwr⟩
            · rw [List.length_append]; have := hdy.out; have := hny; omega
            · rw [List.length_append]; have := hdy.out; have := hry.out; have := hsl'.out; have := hyo.out; omega
          case measure =>
            have e1 := hm1.out
            have e2 := hm2.out
            have e3 := hn3.out
            simp only at e1 e2
            simp only [e1, e2]
            omega
    · have hc' : decide ((sd.n : Int) < e) = false := by simpa using hc
      have hgo := Lib.hid (show refGo l e e.toNat x.ds = some ds by rw [hval.out]; exact refGo_stop (by rw [hsl]; exact hc))
      have hl1 := Lib.hid (show s1.n = x.p.o.n by rw [← hs1.bs.len]; exact hpx.out.o.len)
      have hl2 := Lib.hid hsl.symm
      have hn1 : s1.n ≤ 140737488351232 := by have := hl1.out; have := hpx.out.om; omega
      have hn2 : sd.n ≤ 140737488351232 := by omega
      clear hsl
      by_cases hv6 : x.p.v = 6
      · skip
        have hvb : (x.p.v == 6) = true := by simpa using hv6
        have hq := Lib.hid (show ({ joinW x.p with o := s1, d := sd } : Pk) = { x.p with o := s1, d := sd, more := false, frag := false, id := 0 } by unfold joinW; rw [if_pos hv6])
        have hJ := Lib.hid (refR_ok hE.out h0 hga.out hgo.out s1 sd hl1.out hl2.out)
        rw [hq.out] at hJ
        have hhd := Lib.hid (fun (V : World) (h1 : Bs V s1 x.os) (h2 : Bs V sd ds) => ref11Right_any { x.p with o := s1, d := sd, more := false, frag := false, id := 0 } x.os ds V ⟨h1, h2, hn1, hn2⟩)
        generalize rightF { x.p with o := s1, d := sd, more := false, frag := false, id := 0 } x.os = H at hJ hhd
        clear hv6
        cases H
        · rw [if_pos rfl] at hJ
          go_wp2_with (first | go_big_skip | (refine wpList_store_bx rfl 4 (.tmp 64) (.const _) rfl _ 42 _ rfl rfl (bs := []) hX (size4 _) rfl rfl (by rw [pkA_size]; decide) _ (pkA_set_frag _ _) ?_; intro W5 hX5 hg; have hX5 : Bx w W5 [_, _] := hX5; have hs1 := hs1.box hX.h0 (by decide) hg; have hsd := hsd.box hX.h0 (by decide) hg; obtain ⟨hr, hl, _, _⟩ := pk_at hX5.h0; clear hg; dsimp only [Act.put]) | (refine wpList_store_bx rfl 25 (.tmp 65) (.const _) rfl _ 39 _ rfl rfl (bs := []) hX5 (size25 _) rfl rfl (by rw [pkA_size]; decide) _ (pkA_set_id _ _) ?_; intro W6 hX6 hg; have hX6 : Bx w W6 [_, _] := hX6; have hs1 := hs1.box hX5.h0 (by decide) hg; have hsd := hsd.box hX5.h0 (by decide) hg; obtain ⟨hr, hl, _, _⟩ := pk_at hX6.h0; clear hg; dsimp only [Act.put]) | (go_at_call 33; ((with_reducible refine (hhd.out _ hs1.bs hsd.bs).mono ?_); rintro e w7 ⟨rfl, hb⟩; have hX7 := hX6.call hb; have hs1 := hs1.below hb; have hsd := hsd.below hb; obtain ⟨hr, hl, _, _⟩ := pk_at hX7.h0; clear hb)) | (refine wpList_build_to rfl 28 #[] rfl (pkA zPk) (by kernel_rfl) ?_) | (refine wpList_storeA_bx rfl 28 (.tmp 2) (.tmp 69) rfl _ _ rfl rfl (bs := [_]) hX7 (by rw [pkA_size]; exact i28) ((pkA_size _).trans (pkA_size _).symm) (pkA_one _) ?_; intro W9 hX9 hg9))
          have hX9 : Bx w W9 [_, _] := hX9
          exact bodyPost_ret (results_cell2 (q := 2) (t := 3) rfl _ _ _ _ _ (.int .i64 1) rfl rfl hX9.h1 (g28 _) (by rw [pkA_size]; exact i28)) rfl (RR.err hJ.out hX9.bel)
        · rw [if_neg (by decide)] at hJ
          go_wp2_with (first | go_big_skip | (refine wpList_store_bx rfl 4 (.tmp 64) (.const _) rfl _ 42 _ rfl rfl (bs := []) hX (size4 _) rfl rfl (by rw [pkA_size]; decide) _ (pkA_set_frag _ _) ?_; intro W5 hX5 hg; have hX5 : Bx w W5 [_, _] := hX5; have hs1 := hs1.box hX.h0 (by decide) hg; have hsd := hsd.box hX.h0 (by decide) hg; obtain ⟨hr, hl, _, _⟩ := pk_at hX5.h0; clear hg; dsimp only [Act.put]) | (refine wpList_store_bx rfl 25 (.tmp 65) (.const _) rfl _ 39 _ rfl rfl (bs := []) hX5 (size25 _) rfl rfl (by rw [pkA_size]; decide) _ (pkA_set_id _ _) ?_; intro W6 hX6 hg; have hX6 : Bx w W6 [_, _] := hX6; have hs1 := hs1.box hX5.h0 (by decide) hg; have hsd := hsd.box hX5.h0 (by decide) hg; obtain ⟨hr, hl, _, _⟩ := pk_at hX6.h0; clear hg; dsimp only [Act.put]) | (go_at_call 33; ((with_reducible refine (hhd.out _ hs1.bs hsd.bs).mono ?_); rintro e w7 ⟨rfl, hb⟩; have hX7 := hX6.call hb; have hs1 := hs1.below hb; have hsd := hsd.below hb; obtain ⟨hr, hl, _, _⟩ := pk_at hX7.h0; clear hb)) | (refine wpList_storeA_bx rfl 28 (.tmp 2) (.tmp 70) rfl _ _ rfl rfl (bs := [_]) hX7 (by rw [pkA_size]; exact i28) ((pkA_size _).trans (pkA_size _).symm) (pkA_one _) ?_; intro W9 hX9 hg9; have hs1 := hs1.box hX7.h1 (by decide) hg9; have hsd := hsd.box hX7.h1 (by decide) hg9))
          have hX9 : Bx w W9 [_, _] := hX9
          exact bodyPost_ret (results_cell2 (q := 2) (t := 3) rfl _ _ _ _ _ (.int .i64 0) rfl rfl hX9.h1 (g28 _) (by rw [pkA_size]; exact i28)) rfl (RR.ok hJ.out hq.out hs1 (hsd.mono hwB) hX9.bel)
      · skip
        have hvb : (x.p.v == 6) = false := by simpa using hv6
        have hq := Lib.hid (show ({ joinW x.p with o := s1, d := sd } : Pk) = { x.p with o := s1, d := sd, more := false } by unfold joinW; rw [if_neg hv6])
        have hJ := Lib.hid (refR_ok hE.out h0 hga.out hgo.out s1 sd hl1.out hl2.out)
        rw [hq.out] at hJ
        have hhd := Lib.hid (fun (V : World) (h1 : Bs V s1 x.os) (h2 : Bs V sd ds) => ref11Right_any { x.p with o := s1, d := sd, more := false } x.os ds V ⟨h1, h2, hn1, hn2⟩)
        generalize rightF { x.p with o := s1, d := sd, more := false } x.os = H at hJ hhd
        clear hv6
        cases H
        · rw [if_pos rfl] at hJ
          go_wp2_with (first | go_big_skip | (go_at_call 33; ((with_reducible refine (hhd.out _ hs1.bs hsd.bs).mono ?_); rintro e w7 ⟨rfl, hb⟩; have hX7 := hX.call hb; have hs1 := hs1.below hb; have hsd := hsd.below hb; obtain ⟨hr, hl, _, _⟩ := pk_at hX7.h0; clear hb)) | (refine wpList_build_to rfl 28 #[] rfl (pkA zPk) (by kernel_rfl) ?_) | (refine wpList_storeA_bx rfl 28 (.tmp 2) (.tmp 69) rfl _ _ rfl rfl (bs := [_]) hX7 (by rw [pkA_size]; exact i28) ((pkA_size _).trans (pkA_size _).symm) (pkA_one _) ?_; intro W9 hX9 hg9))
          have hX9 : Bx w W9 [_, _] := hX9
          exact bodyPost_ret (results_cell2 (q := 2) (t := 3) rfl _ _ _ _ _ (.int .i64 1) rfl rfl hX9.h1 (g28 _) (by rw [pkA_size]; exact i28)) rfl (RR.err hJ.out hX9.bel)
        · rw [if_neg (by decide)] at hJ
          go_wp2_with (first | go_big_skip | (go_at_call 33; ((with_reducible refine (hhd.out _ hs1.bs hsd.bs).mono ?_); rintro e w7 ⟨rfl, hb⟩; have hX7 := hX.call hb; have hs1 := hs1.below hb; have hsd := hsd.below hb; obtain ⟨hr, hl, _, _⟩ := pk_at hX7.h0; clear hb)) | (refine wpList_storeA_bx rfl 28 (.tmp 2) (.tmp 70) rfl _ _ rfl rfl (bs := [_]) hX7 (by rw [pkA_size]; exact i28) ((pkA_size _).trans (pkA_size _).symm) (pkA_one _) ?_; intro W9 hX9 hg9; have hs1 := hs1.box hX7.h1 (by decide) hg9; have hsd := hsd.box hX7.h1 (by decide) hg9))
          have hX9 : Bx w W9 [_, _] := hX9
          exact bodyPost_ret (results_cell2 (q := 2) (t := 3) rfl _ _ _ _ _ (.int .i64 0) rfl rfl hX9.h1 (g28 _) (by rw [pkA_size]; exact i28)) rfl (RR.ok hJ.out hq.out hs1 (hsd.mono hwB) hX9.bel)

theorem rjoin_any (s : Sl) (l : List Fp) (w : World) (hs : PkS w s l) (hm : s.n ≤ 925904528626) : Calls Tryd.prog 20 #[.slice s.a s.n s.c] w (RR (refR l) w) := by
  cases hE : fitsR l with
  | none => exact rjoin_no s l w hs hm hE
  | some e =>
    by_cases h0 : e < 0
    · exact rjoin_gap s l e w hs hm hE (.inl h0)
    · rcases atF_cases 0 l with ⟨h1, h2⟩ | ⟨k, x, h1, h2, h3, h4⟩
      · exact rjoin_gap s l e w hs hm hE (.inr h2)
      · exact rjoin_go s l e k x w hs hm hE (by omega) h1 h2 h4
end Go.Proofs.YtleokgmflelkcaaDoor
