/- RecutAsks: the law, walked. -/
import Derived.Test.YtleokgmflelkcaaDoorVG5
import Derived.Test.YtleokgmflelkcaaDoorVD1
import Derived.Test.YtleokgmflelkcaaDoorVB8
set_option linter.unusedSimpArgs false
set_option linter.unusedVariables false
namespace Go.Proofs.YtleokgmflelkcaaDoor
open Go Go.RowKit

set_option maxRecDepth 100000 in
set_option maxHeartbeats 1000000 in
theorem asks_law (p : Pk) (os ds : List Int) (mtu : Int) (s : Sl) (l : List Fp) (w : World) (hp : PkIn w p os ds) (hs : PkS w s l) (hm : s.n ≤ 925904528626) (hS : Sh w) : Calls Tryd.prog 4 #[.agg (pkA p), .int .i64 mtu, .slice s.a s.n s.c] w (RB (.bool true) w) := by
  have hX := (Bx.start w).alloc (pkA p) 28
  obtain ⟨hr, hl, _, _⟩ := pk_at hX.h0
  have hol := Lib.hid hp.o.len
  have hdl := Lib.hid hp.d.len
  have hlens := Lib.hid hs.lens'
  have hlen := Lib.hid hs.len
  have hpk := Lib.hid (fun x (hx : x ∈ l) => (hs.pk x hx))
  have hown := Lib.hid (fun (V : World) (hb : Below w.heap.size w V) => lawown_any p os ds V (hp.below hb))
  have howns := Lib.hid (fun (V : World) (hb : Below w.heap.size w V) => owns_any s l V (hs.below hb) hm)
  have hIs := Lib.hid (fun (s1 s2 sx : Sl) (xs : List Fp) (V : World) (hb : Below w.heap.size w V) (h1 : Bs V s1 os) (h2 : Bs V s2 ds) (hx : PkS V sx xs) (h : xs.map Fp.mp = l.map Fp.mp) (hm : sx.n ≤ 925904528626) => (by
    have e1 : s1.n = p.o.n := by rw [← h1.len, hol.out]
    have e2 : s2.n = p.d.n := by rw [← h2.len, hdl.out]
    have := is_all { p with o := s1, d := s2 } os ds mtu sx xs V ⟨h1, h2, by simp only; rw [e1]; exact hp.om, by simp only; rw [e2]; exact hp.dm⟩ (hS.below hb) hx hm
    rwa [isR_sizes p os ds _ mtu xs s1 s2 e1 e2, isR_alike h hx.lens' hlens.out] at this : Calls Tryd.prog 16 #[.agg (pkA { p with o := s1, d := s2 }), .int .i64 mtu, .slice sx.a sx.n sx.c] V (RB (.bool (isR p os ds (carryF os) mtu l)) V)))
  have hRis := Lib.hid (fun (V : World) (hb : Below w.heap.size w V) => ris_any p os ds mtu s l V (hp.below hb) (hs.below hb) hm)
  generalize isR p os ds (carryF os) mtu l = T at hIs hRis
  have hkeep := Lib.hid (fun (W : World) (h : Bx w W [(w.heap.size, 28, pkA p)]) => (⟨h, (pk_at h.h0).2.1⟩ : Bx w W [(w.heap.size, 28, pkA p)] ∧ loadN Tryd.prog W ⟨w.heap.size, 0, none⟩ 46 = .ok (pkA p) W))
  replace hs := Lib.hid hs
  replace hp := Lib.hid hp
  replace hS := Lib.hid hS
  have htt : ∀ T : Bool, (T == T) = true := by decide
  cases T
  all_goals
    go_enter Tryd.func4, Tryd.ntmps4
    go_wp2
    go_region_held3 (fun W => Bx w W [(w.heap.size, 28, pkA p)] ∧ loadN Tryd.prog W ⟨w.heap.size, 0, none⟩ 46 = .ok (pkA p) W) ((refine hkeep.out _ ?_; first | exact hX | exact hX.drew | assumption)) (first | (go_at_call 14; (with_reducible refine (known_any _ (hS.out.below hX.drew.bel)).mono ?_); rintro e w1 ⟨rfl, hb⟩; have hX := hX.drew.call hb; clear hb) | (go_at_call 12; (with_reducible refine (hown.out _ hX.bel).mono ?_); rintro e w2 ⟨s1, s2, rfl, hs1, hs2, hb⟩; have hX := hX.call hb; clear hb) | (go_at_call 17; (with_reducible refine (howns.out _ hX.bel).mono ?_); rintro e w3 ⟨v, rfl, hrow, hb⟩; have hX := hX.call hb; have hs1 := hs1.below hb; have hs2 := hs2.below hb; clear hb; obtain ⟨sx, xs, rfl, hsx, hpx, hmp⟩ := hrow.reads (by intro m hm'; obtain ⟨x, hx, rfl⟩ := List.mem_map.1 hm'; exact ⟨by show x.os.length ≤ _; rw [(hlens.out x hx).2]; exact (hpk.out x hx).om, by show x.ds.length ≤ _; rw [(hlens.out x hx).1]; exact (hpk.out x hx).dm⟩); have hsn : sx.n ≤ 925904528626 := (by rw [hsx, List.length_map, hlen.out]; exact hm); replace hsx := Lib.hid hsx; replace hmp := Lib.hid hmp; clear hrow) | (go_at_call 16; (with_reducible refine (hIs.out s1 s2 sx xs _ hX.bel hs1.bs hs2.bs hpx hmp.out hsn).mono ?_); rintro e w4 ⟨rfl, hb⟩; have hX := hX.call hb; clear hb) | (go_at_call 18; (with_reducible refine (hRis.out _ hX.bel).mono ?_); rintro e w5 ⟨rfl, hb⟩; have hX := hX.call hb; clear hb))
  all_goals
    go_wp2_with fail
    go_ret
    exact RB.mk' rfl hX.bel
end Go.Proofs.YtleokgmflelkcaaDoor
