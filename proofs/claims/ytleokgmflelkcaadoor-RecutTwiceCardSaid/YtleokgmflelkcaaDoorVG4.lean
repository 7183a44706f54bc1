/- mosaicref11.Is: a list of two packets or more. -/
import Derived.Test.YtleokgmflelkcaaDoorVG3
set_option linter.unusedSimpArgs false
set_option linter.unusedVariables false
namespace Go.Proofs.YtleokgmflelkcaaDoor
open Go Go.RowKit

theorem rIsF_over {p : Pk} {ds co os' : List Int} {mtu : Int} {a : Nat} {x : Fp} {l : List Fp} (h : ds.length < a + x.ds.length) : rIsF p ds co mtu os' a (x :: l) = false := by rw [rIsF, if_pos h]
theorem rIsF_same {p : Pk} {ds co os' : List Int} {mtu : Int} {a : Nat} {x : Fp} {l : List Fp} (h : ¬ ds.length < a + x.ds.length) (h2 : sameP x.p { p with off := p.off + a, more := !l.isEmpty || p.more } x.os x.ds os' ((ds.drop a).take x.ds.length) = false) : rIsF p ds co mtu os' a (x :: l) = false := by rw [rIsF, if_neg h, if_pos h2]
theorem rIsF_right {p : Pk} {ds co os' : List Int} {mtu : Int} {a : Nat} {x : Fp} {l : List Fp} (h : ¬ ds.length < a + x.ds.length) (h2 : sameP x.p { p with off := p.off + a, more := !l.isEmpty || p.more } x.os x.ds os' ((ds.drop a).take x.ds.length) = true) (h3 : rightF x.p x.os = false ∨ mtu < rheadF x.p + x.ds.length) : rIsF p ds co mtu os' a (x :: l) = false := by
  rw [rIsF, if_neg h, if_neg (by rw [h2]; decide)]
  split
  · rfl
  · rename_i h4
    rw [if_pos (h3.resolve_left h4)]
theorem rIsF_go {p : Pk} {ds co os' : List Int} {mtu : Int} {a : Nat} {x : Fp} {l : List Fp} (h : ¬ ds.length < a + x.ds.length) (h2 : sameP x.p { p with off := p.off + a, more := !l.isEmpty || p.more } x.os x.ds os' ((ds.drop a).take x.ds.length) = true) (h3 : rightF x.p x.os = true) (h4 : ¬ mtu < rheadF x.p + x.ds.length) :
    rIsF p ds co mtu os' a (x :: l) = rIsF p ds co mtu co (a + x.ds.length) l := by rw [rIsF, if_neg h, if_neg (by rw [h2]; decide), if_neg (by rw [h3]; decide), if_neg h4]

def IsRl (p : Pk) (os ds co : List Int) (mtu : Int) (l : List Fp) (n b0 : Nat) (w : World) (ov av i : Value) (wr : World) : Prop :=
  ∃ (k : Nat) (so : Sl) (a : Nat) (os' : List Int), i = .int .i64 k ∧ ov = .slice so.a so.n so.c ∧ av = .int .i64 a ∧ k ≤ n ∧ a ≤ ds.length ∧ Bs wr so os' ∧ so.n ≤ 140737488351232 ∧ Bx w wr [(b0, 28, pkA p)] ∧ rIsF p ds co mtu os 0 l = rIsF p ds co mtu os' a (l.drop k)

set_option maxRecDepth 100000 in
set_option maxHeartbeats 4000000 in
theorem ris_list (p : Pk) (os ds : List Int) (mtu : Int) (b o n c : Nat) (l : List Fp) (w : World) (hp : PkIn w p os ds) (hs : PkS w ⟨some ⟨b, o, none⟩, n, c⟩ l) (hm : n ≤ 925904528626) (h0 : rightF p os = true) (h1 : 68 ≤ mtu) (h2 : mtu ≤ 65535) (h3 : 2 ≤ n) (h4 : p.v = 4) (h5 : p.df = false) :
    Calls Tryd.prog 18 #[.agg (pkA p), .int .i64 mtu, .slice (some ⟨b, o, none⟩) n c] w (RB (.bool (rIsF p ds (carryF os) mtu os 0 l)) w) := by
  have hX := (Bx.start w).alloc (pkA p) 28
  obtain ⟨hr, hl, hs', hd⟩ := pk_at hX.h0
  have hlen := Lib.hid hs.len
  have hol := Lib.hid hp.o.len
  have hdl := Lib.hid hp.d.len
  have hrn := right_nums' h0
  have hR := Lib.hid (fun (V : World) (hb : Below w.heap.size w V) => (h0 ▸ ref11Right_any p os ds V (hp.below hb) : Calls Tryd.prog 33 #[.agg (pkA p)] V (RB (.bool true) V)))
  have hcar := Lib.hid (fun (V : World) (hb : Below w.heap.size w V) => rcarry_any p.o os V (hp.o.below hb) hp.om)
  have hcf := Lib.hid (carry_facts hp.o.rng).1
  have hpc := Lib.hid (fun (so : Sl) (os' : List Int) (l u : Int) (more : Bool) (V : World) (hb : Below w.heap.size w V) (hso : Bs V so os') (hsm : so.n ≤ 140737488351232) (a : 0 ≤ l) (b : l ≤ u) (c : u ≤ p.d.n) => piece_any p os ds so os' l u more V (hp.below hb) hso hsm a b c hrn.1 (by omega))
  have e1 : decide (mtu < 68) = false := by simp; omega
  have e2 : decide (mtu > 65535) = false := by simp; omega
  have e3 : ((n : Int) == 0) = false := beq_eq_false_iff_ne.2 (by omega)
  have e4 : ((n : Int) == 1) = false := beq_eq_false_iff_ne.2 (by omega)
  have h6 : (p.v != 4) = false := by simp [h4]
  have hc40 : (pkA p)[40]? = some (.bool false) := by rw [pkA_40, h5]
  have hom := hp.om
  have hdn : p.d.n ≤ 65535 := by omega
  replace h4 := Lib.hid h4
  replace h5 := Lib.hid h5
  replace hs := Lib.hid hs
  replace hrn := Lib.hid hrn
  generalize hco : carryF os = co at *
  replace hco := Lib.hid hco
  clear h0
  go_enter Tryd.func18, Tryd.ntmps18
  go_wp2_with (first | go_big_skip | (go_at_call 33; (with_reducible refine (hR.out _ hX.bel).mono ?_); rintro e w1 ⟨rfl, hb⟩; have hX := hX.call hb; obtain ⟨hr, hl, hs', hd⟩ := pk_at hX.h0; have h40 := (hr 40 (by decide)).trans hc40; clear hb))
  go_loopw [7, 8, 9] (fun ov av i wr => IsRl p os ds co mtu l n w.heap.size w ov av i wr) (fun _ _ i _ => n - (intOf i).toNat)
  case atStart => exact ⟨0, p.o, 0, os, rfl, rfl, rfl, by omega, Nat.zero_le _, hp.o.below hX.bel, hom, hX, by simp⟩
  case round =>
    clear hX hr hl hs' hd h40
    obtain ⟨k, so, a, os', rfl, rfl, rfl, hk, ha, hso, hsm, hX, hval⟩ := hrel
    obtain ⟨hr, hl, hs', hd⟩ := pk_at hX.h0
    replace hval := Lib.hid hval
    have hdlen := hdl.out
    have hap : a ≤ p.d.n := by omega
    by_cases hlt : k < n
    · obtain ⟨x, hx⟩ : ∃ x, l[k]? = some x := ⟨_, List.getElem?_eq_getElem (by rw [hlen.out]; exact hlt)⟩
      have hdrop := Lib.hid (drop_cons hx)
      have hpx := Lib.hid (hs.out.pk x (List.mem_of_getElem? hx))
      have hxd := hpx.out.d.len
      have hxm := hpx.out.dm
      have hc45 := (hs.out.fields hx hX.bel 45 (by decide)).trans (pkA_45 _)
      have hld := Lib.hid (fun (V : World) (hb : Below w.heap.size w V) => hs.out.load hx hb)
      replace hx := Lib.hid hx
      by_cases hov : ds.length < a + x.ds.length
      · have hov' : decide ((a : Int) + (x.p.d.n : Int) > (p.d.n : Int)) = true := by simp; omega
        have hfin := Lib.hid (show rIsF p ds co mtu os 0 l = false by rw [hval.out, hdrop.out]; exact rIsF_over hov)
        clear hov hdlen hxd
        go_wp2_with (first | go_big_skip)
        go_ret
        exact RB.mk' (by rw [hfin.out]; rfl) hX.bel
      have hov' : decide ((a : Int) + (x.p.d.n : Int) > (p.d.n : Int)) = false := by simp; omega
      have hov2 : (a : Int) + (x.p.d.n : Int) ≤ (p.d.n : Int) := by omega
      have hxn : x.p.d.n ≤ 65535 := by omega
      have htk : ((ds.drop (a : Int).toNat).take (((a : Int) + (x.p.d.n : Int)).toNat - (a : Int).toNat)) = (ds.drop a).take x.ds.length := by rw [Int.toNat_natCast, show ((a : Int) + (x.p.d.n : Int)).toNat - a = x.p.d.n by omega, hxd]
      have htl : ((ds.drop a).take x.ds.length).length = x.p.d.n := by rw [List.length_take, List.length_drop]; omega
      by_cases hlast : k + 1 = n
      · have hlb : ((k : Int) == (n : Int) - 1) = true := by simp; omega
        have hle := Lib.hid (show (l.drop (k + 1)).isEmpty = true by rw [List.drop_eq_nil_of_le (by rw [hlen.out]; omega)]; rfl)
        have hPC := Lib.hid (fun (V : World) (hb : Below w.heap.size w V) (hsv : Bs V so os') => (htk ▸ hpc.out so os' a ((a : Int) + (x.p.d.n : Int)) p.more V hb hsv hsm (by omega) (by omega) (by omega) : Calls Tryd.prog 35 #[.agg (pkA p), .slice so.a so.n so.c, .int .i64 (a : Int), .int .i64 ((a : Int) + (x.p.d.n : Int)), .bool p.more] V (RPk { p with off := p.off + a, more := p.more } os' ((ds.drop a).take x.ds.length) V)))
        have hmo := Lib.hid (show (!(l.drop (k + 1)).isEmpty || p.more) = p.more by rw [hle.out]; rfl)
        replace hdlen := Lib.hid hdlen
        replace hxd := Lib.hid hxd
        replace hov := Lib.hid hov
        replace htk := Lib.hid htk
        replace htl := Lib.hid htl
        go_upto_region 17 with (first | go_big_skip | (go_at_call 35; (with_reducible refine (hPC.out _ hX.bel hso).mono ?_); rintro e w3 ⟨s1, s2, rfl, hs1, hs2, hb⟩; have hX := hX.call hb; clear hb) | (refine wpList_storeA_bx rfl 28 (.tmp 12) (.tmp 88) rfl _ _ rfl rfl (bs := []) (hX.alloc (pkA zPk) 28) (by rw [pkA_size]; exact i28) ((pkA_size _).trans (pkA_size _).symm) (pkA_one _) ?_; intro W4 hX4 hg; have hs1 := (hs1.alloc _).box (heap_alloc_new _ _) (by decide) hg; have hs2 := (hs2.alloc _).box (heap_alloc_new _ _) (by decide) hg; clear hg; dsimp only [Act.put]))
        obtain ⟨q, hq, hX⟩ : ∃ q : Pk, q = { p with off := p.off + a, more := p.more, o := s1, d := s2 } ∧ Bx w W4 [(w3.heap.size, 28, pkA q), (w.heap.size, 28, pkA p)] := ⟨_, rfl, hX4⟩
        rw [← hq]
        generalize hb12 : w3.heap.size = b12 at *
        have hs1n := hs1.bs.len
        have hs2n := hs2.bs.len
        rw [htl.out] at hs2n
        have hsol := hso.len
        have hqin := Lib.hid (fun (V : World) (h1 : Bs V s1 os') (h2 : Bs V s2 ((ds.drop a).take x.ds.length)) => (⟨by rw [hq]; exact h1, by rw [hq]; exact h2, by rw [hq]; simp only; omega, by rw [hq]; simp only; omega⟩ : PkIn V q os' ((ds.drop a).take x.ds.length)))
        have hS := Lib.hid (fun (V : World) (h : (fun V => Bx w V [(b12, 28, pkA q), (w.heap.size, 28, pkA p)] ∧ Bs V s1 os' ∧ Bs V s2 ((ds.drop a).take x.ds.length)) V) => Same_any x.p q x.os x.ds os' ((ds.drop a).take x.ds.length) V (hpx.out.below h.1.bel) (hqin.out V h.2.1 h.2.2))
        have hRq := Lib.hid (fun (V : World) (h : (fun V => Bx w V [(b12, 28, pkA q), (w.heap.size, 28, pkA p)] ∧ Bs V s1 os' ∧ Bs V s2 ((ds.drop a).take x.ds.length)) V) => ref11Right_any q os' ((ds.drop a).take x.ds.length) V (hqin.out V h.2.1 h.2.2))
        have hBq := Lib.hid (fun (V : World) => ref11Bytes_any q V (by rw [hq]; simp only; omega) (by rw [hq]; simp only; omega))
        have hsm' := Lib.hid (show sameP x.p { p with off := p.off + a, more := !(l.drop (k + 1)).isEmpty || p.more } x.os x.ds os' ((ds.drop a).take x.ds.length) = sameP x.p q x.os x.ds os' ((ds.drop a).take x.ds.length) by rw [hmo.out, hq]; rfl)
        have hlq := Lib.hid (fun (h : x.mp = (⟨q, os', (ds.drop a).take x.ds.length⟩ : Fp).mp) => fp_right (x := x) (y := ⟨q, os', (ds.drop a).take x.ds.length⟩) h ⟨hxd.out, hpx.out.o.len⟩ ⟨by rw [htl.out]; rw [hq]; exact hs2n, by rw [hq]; exact hs1n⟩)
        have hI : (fun V => Bx w V [(b12, 28, pkA q), (w.heap.size, 28, pkA p)] ∧ Bs V s1 os' ∧ Bs V s2 ((ds.drop a).take x.ds.length)) W4.drew := ⟨hX.drew, hs1.bs.below (Below.refl _ _).drew, hs2.bs.below (Below.refl _ _).drew⟩
        have stab := Lib.hid (fun (W W' : World) (h : (fun V => Bx w V [(b12, 28, pkA q), (w.heap.size, 28, pkA p)] ∧ Bs V s1 os' ∧ Bs V s2 ((ds.drop a).take x.ds.length)) W) (hb : Below W.heap.size W W') => (⟨h.1.call hb, h.2.1.below hb, h.2.2.below hb⟩ : (fun V => Bx w V [(b12, 28, pkA q), (w.heap.size, 28, pkA p)] ∧ Bs V s1 os' ∧ Bs V s2 ((ds.drop a).take x.ds.length)) W'))
        have hl0 := fun V : Wd (fun V => Bx w V [(b12, 28, pkA q), (w.heap.size, 28, pkA p)] ∧ Bs V s1 os' ∧ Bs V s2 ((ds.drop a).take x.ds.length)) => (pk_at V.h.1.h0).2.1
        have hl1 := fun V : Wd (fun V => Bx w V [(b12, 28, pkA q), (w.heap.size, 28, pkA p)] ∧ Bs V s1 os' ∧ Bs V s2 ((ds.drop a).take x.ds.length)) => hld.out V.w V.h.1.bel
        have hne : Nonempty (Wd (fun V => Bx w V [(b12, 28, pkA q), (w.heap.size, 28, pkA p)] ∧ Bs V s1 os' ∧ Bs V s2 ((ds.drop a).take x.ds.length))) := ⟨⟨_, hI⟩⟩
        have hqd : q.d.n = x.p.d.n := by rw [hq]; simp only; omega
        clear hr hl hs' hd hX4 hs1 hs2 hX hc45
        replace hq := Lib.hid hq
        replace hs1n := Lib.hid hs1n
        replace hs2n := Lib.hid hs2n
        replace hsol := Lib.hid hsol
        replace hqd := Lib.hid hqd
        cases hsame : sameP x.p q x.os x.ds os' ((ds.drop a).take x.ds.length)
        · rw [hsame] at hS hsm'
          have hfin := Lib.hid (show rIsF p ds co mtu os 0 l = false by rw [hval.out, hdrop.out]; exact rIsF_same hov.out hsm'.out)
          clear hsame
          refine wp_region_in (fun V => Bx w V [(b12, 28, pkA q), (w.heap.size, 28, pkA p)] ∧ Bs V s1 os' ∧ Bs V s2 ((ds.drop a).take x.ds.length)) (by kernel_rfl) (by kernel_rfl) hI ?_
          repeat (any_goals (first | go_big_quiet_step ((first | (go_at_call 21; exact call_ins stab.out (fun V => hS.out V.w V.h) _) | (go_at_call 33; exact call_ins stab.out (fun V => hRq.out V.w V.h) _) | (go_at_call 34; exact call_ins stab.out (fun V => hBq.out V.w) _))) | quiet_step ((first | (go_at_call 21; exact call_ins stab.out (fun V => hS.out V.w V.h) _) | (go_at_call 33; exact call_ins stab.out (fun V => hRq.out V.w V.h) _) | (go_at_call 34; exact call_ins stab.out (fun V => hBq.out V.w) _)))))
          refine wpQuiet_nil ?_
          rintro _ ⟨V, rfl⟩
          obtain ⟨hX, -, -⟩ := V.h
          obtain ⟨hr, hl, hs', hd⟩ := pk_at hX.tail.h0
          go_wp2
          go_ret
          exact RB.mk' (by rw [hfin.out]; rfl) hX.bel
        have hmp := sameP_iff.1 hsame
        obtain ⟨hrq, hbq⟩ := hlq.out hmp
        rw [hsame] at hS hsm'
        replace hbq : rheadF x.p + (x.p.d.n : Int) = rheadF q + (q.d.n : Int) := hbq
        replace hrq : rightF x.p x.os = rightF q os' := hrq
        rw [← hrq] at hRq
        rw [← hbq] at hBq
        clear hsame hmp hrq hbq hlq
        cases hrt : rightF x.p x.os
        · rw [hrt] at hRq
          have hfin := Lib.hid (show rIsF p ds co mtu os 0 l = false by rw [hval.out, hdrop.out]; exact rIsF_right hov.out hsm'.out (.inl hrt))
          clear hrt
          refine wp_region_in (fun V => Bx w V [(b12, 28, pkA q), (w.heap.size, 28, pkA p)] ∧ Bs V s1 os' ∧ Bs V s2 ((ds.drop a).take x.ds.length)) (by kernel_rfl) (by kernel_rfl) hI ?_
          repeat (any_goals (first | go_big_quiet_step ((first | (go_at_call 21; exact call_ins stab.out (fun V => hS.out V.w V.h) _) | (go_at_call 33; exact call_ins stab.out (fun V => hRq.out V.w V.h) _) | (go_at_call 34; exact call_ins stab.out (fun V => hBq.out V.w) _))) | quiet_step ((first | (go_at_call 21; exact call_ins stab.out (fun V => hS.out V.w V.h) _) | (go_at_call 33; exact call_ins stab.out (fun V => hRq.out V.w V.h) _) | (go_at_call 34; exact call_ins stab.out (fun V => hBq.out V.w) _)))))
          refine wpQuiet_nil ?_
          rintro _ ⟨V, rfl⟩
          obtain ⟨hX, -, -⟩ := V.h
          obtain ⟨hr, hl, hs', hd⟩ := pk_at hX.tail.h0
          go_wp2
          go_ret
          exact RB.mk' (by rw [hfin.out]; rfl) hX.bel
        rw [hrt] at hRq
        by_cases hby : mtu < rheadF x.p + (x.p.d.n : Int)
        · have hby' : decide (rheadF x.p + (x.p.d.n : Int) > mtu) = true := by simpa using hby
          have hfin := Lib.hid (show rIsF p ds co mtu os 0 l = false by rw [hval.out, hdrop.out]; exact rIsF_right hov.out hsm'.out (.inr (by rw [hxd.out]; exact hby)))
          generalize rheadF x.p = H at *
          clear hrt hby
          refine wp_region_in (fun V => Bx w V [(b12, 28, pkA q), (w.heap.size, 28, pkA p)] ∧ Bs V s1 os' ∧ Bs V s2 ((ds.drop a).take x.ds.length)) (by kernel_rfl) (by kernel_rfl) hI ?_
          repeat (any_goals (first | go_big_quiet_step ((first | (go_at_call 21; exact call_ins stab.out (fun V => hS.out V.w V.h) _) | (go_at_call 33; exact call_ins stab.out (fun V => hRq.out V.w V.h) _) | (go_at_call 34; exact call_ins stab.out (fun V => hBq.out V.w) _))) | quiet_step ((first | (go_at_call 21; exact call_ins stab.out (fun V => hS.out V.w V.h) _) | (go_at_call 33; exact call_ins stab.out (fun V => hRq.out V.w V.h) _) | (go_at_call 34; exact call_ins stab.out (fun V => hBq.out V.w) _)))))
          refine wpQuiet_nil ?_
          rintro _ ⟨V, rfl⟩
          obtain ⟨hX, -, -⟩ := V.h
          obtain ⟨hr, hl, hs', hd⟩ := pk_at hX.tail.h0
          go_wp2
          go_ret
          exact RB.mk' (by rw [hfin.out]; rfl) hX.bel
        · have hby' : decide (rheadF x.p + (x.p.d.n : Int) > mtu) = false := by simpa using hby
          have hfin := Lib.hid (show rIsF p ds co mtu os 0 l = rIsF p ds co mtu co (a + x.p.d.n) (l.drop (k + 1)) by rw [hval.out, hdrop.out, ← hxd.out]; exact rIsF_go hov.out hsm'.out hrt (by rw [hxd.out]; exact hby))
          generalize rheadF x.p = H at *
          clear hrt hby
          refine wp_region_in (fun V => Bx w V [(b12, 28, pkA q), (w.heap.size, 28, pkA p)] ∧ Bs V s1 os' ∧ Bs V s2 ((ds.drop a).take x.ds.length)) (by kernel_rfl) (by kernel_rfl) hI ?_
          repeat (any_goals (first | go_big_quiet_step ((first | (go_at_call 21; exact call_ins stab.out (fun V => hS.out V.w V.h) _) | (go_at_call 33; exact call_ins stab.out (fun V => hRq.out V.w V.h) _) | (go_at_call 34; exact call_ins stab.out (fun V => hBq.out V.w) _))) | quiet_step ((first | (go_at_call 21; exact call_ins stab.out (fun V => hS.out V.w V.h) _) | (go_at_call 33; exact call_ins stab.out (fun V => hRq.out V.w V.h) _) | (go_at_call 34; exact call_ins stab.out (fun V => hBq.out V.w) _)))))
          refine wpQuiet_nil ?_
          rintro _ ⟨V, rfl⟩
          obtain ⟨hX, -, -⟩ := V.h
          obtain ⟨hr, hl, hs', hd⟩ := pk_at hX.tail.h0
          go_wp2_with (first | go_big_skip | (go_at_call 36; (with_reducible refine (hcar.out _ hX.bel).mono ?_); rintro e w5 ⟨s5, rfl, hs5, hb⟩; have hX := hX.call hb; clear hb))
          go_roundw
          case rel => exact ⟨k + 1, s5, a + x.p.d.n, co, by go_num, rfl, by go_num, by omega, by have := hdl.out; omega, hs5.bs, by have h1 := hs5.bs.len; have h2 := hcf.out; have h3 := hol.out; omega, hX.tail, hfin.out⟩
          case measure => simp [intOf]; omega
      · have hlb : ((k : Int) == (n : Int) - 1) = false := beq_eq_false_iff_ne.2 (by omega)
        have hle := Lib.hid (show (l.drop (k + 1)).isEmpty = false by
          cases hq : l.drop (k + 1) with
          | nil => have := congrArg List.length hq; rw [List.length_drop, hlen.out] at this; simp at this; omega
          | cons y z => rfl)
        have hPC := Lib.hid (fun (V : World) (hb : Below w.heap.size w V) (hsv : Bs V so os') => (htk ▸ hpc.out so os' a ((a : Int) + (x.p.d.n : Int)) true V hb hsv hsm (by omega) (by omega) (by omega) : Calls Tryd.prog 35 #[.agg (pkA p), .slice so.a so.n so.c, .int .i64 (a : Int), .int .i64 ((a : Int) + (x.p.d.n : Int)), .bool true] V (RPk { p with off := p.off + a, more := true } os' ((ds.drop a).take x.ds.length) V)))
        have hmo := Lib.hid (show (!(l.drop (k + 1)).isEmpty || p.more) = true by rw [hle.out]; rfl)
        replace hdlen := Lib.hid hdlen
        replace hxd := Lib.hid hxd
        replace hov := Lib.hid hov
        replace htk := Lib.hid htk
        replace htl := Lib.hid htl
        go_upto_region 17 with (first | go_big_skip | (go_at_call 35; (with_reducible refine (hPC.out _ hX.bel hso).mono ?_); rintro e w3 ⟨s1, s2, rfl, hs1, hs2, hb⟩; have hX := hX.call hb; clear hb) | (refine wpList_storeA_bx rfl 28 (.tmp 12) (.tmp 88) rfl _ _ rfl rfl (bs := []) (hX.alloc (pkA zPk) 28) (by rw [pkA_size]; exact i28) ((pkA_size _).trans (pkA_size _).symm) (pkA_one _) ?_; intro W4 hX4 hg; have hs1 := (hs1.alloc _).box (heap_alloc_new _ _) (by decide) hg; have hs2 := (hs2.alloc _).box (heap_alloc_new _ _) (by decide) hg; clear hg; dsimp only [Act.put]))
        obtain ⟨q, hq, hX⟩ : ∃ q : Pk, q = { p with off := p.off + a, more := true, o := s1, d := s2 } ∧ Bx w W4 [(w3.heap.size, 28, pkA q), (w.heap.size, 28, pkA p)] := ⟨_, rfl, hX4⟩
        rw [← hq]
        generalize hb12 : w3.heap.size = b12 at *
        have hs1n := hs1.bs.len
        have hs2n := hs2.bs.len
        rw [htl.out] at hs2n
        have hsol := hso.len
        have hqin := Lib.hid (fun (V : World) (h1 : Bs V s1 os') (h2 : Bs V s2 ((ds.drop a).take x.ds.length)) => (⟨by rw [hq]; exact h1, by rw [hq]; exact h2, by rw [hq]; simp only; omega, by rw [hq]; simp only; omega⟩ : PkIn V q os' ((ds.drop a).take x.ds.length)))
        have hS := Lib.hid (fun (V : World) (h : (fun V => Bx w V [(b12, 28, pkA q), (w.heap.size, 28, pkA p)] ∧ Bs V s1 os' ∧ Bs V s2 ((ds.drop a).take x.ds.length)) V) => Same_any x.p q x.os x.ds os' ((ds.drop a).take x.ds.length) V (hpx.out.below h.1.bel) (hqin.out V h.2.1 h.2.2))
        have hRq := Lib.hid (fun (V : World) (h : (fun V => Bx w V [(b12, 28, pkA q), (w.heap.size, 28, pkA p)] ∧ Bs V s1 os' ∧ Bs V s2 ((ds.drop a).take x.ds.length)) V) => ref11Right_any q os' ((ds.drop a).take x.ds.length) V (hqin.out V h.2.1 h.2.2))
        have hBq := Lib.hid (fun (V : World) => ref11Bytes_any q V (by rw [hq]; simp only; omega) (by rw [hq]; simp only; omega))
        have hsm' := Lib.hid (show sameP x.p { p with off := p.off + a, more := !(l.drop (k + 1)).isEmpty || p.more } x.os x.ds os' ((ds.drop a).take x.ds.length) = sameP x.p q x.os x.ds os' ((ds.drop a).take x.ds.length) by rw [hmo.out, hq]; rfl)
        have hlq := Lib.hid (fun (h : x.mp = (⟨q, os', (ds.drop a).take x.ds.length⟩ : Fp).mp) => fp_right (x := x) (y := ⟨q, os', (ds.drop a).take x.ds.length⟩) h ⟨hxd.out, hpx.out.o.len⟩ ⟨by rw [htl.out]; rw [hq]; exact hs2n, by rw [hq]; exact hs1n⟩)
        have hI : (fun V => Bx w V [(b12, 28, pkA q), (w.heap.size, 28, pkA p)] ∧ Bs V s1 os' ∧ Bs V s2 ((ds.drop a).take x.ds.length)) W4.drew := ⟨hX.drew, hs1.bs.below (Below.refl _ _).drew, hs2.bs.below (Below.refl _ _).drew⟩
        have stab := Lib.hid (fun (W W' : World) (h : (fun V => Bx w V [(b12, 28, pkA q), (w.heap.size, 28, pkA p)] ∧ Bs V s1 os' ∧ Bs V s2 ((ds.drop a).take x.ds.length)) W) (hb : Below W.heap.size W W') => (⟨h.1.call hb, h.2.1.below hb, h.2.2.below hb⟩ : (fun V => Bx w V [(b12, 28, pkA q), (w.heap.size, 28, pkA p)] ∧ Bs V s1 os' ∧ Bs V s2 ((ds.drop a).take x.ds.length)) W'))
        have hl0 := fun V : Wd (fun V => Bx w V [(b12, 28, pkA q), (w.heap.size, 28, pkA p)] ∧ Bs V s1 os' ∧ Bs V s2 ((ds.drop a).take x.ds.length)) => (pk_at V.h.1.h0).2.1
        have hl1 := fun V : Wd (fun V => Bx w V [(b12, 28, pkA q), (w.heap.size, 28, pkA p)] ∧ Bs V s1 os' ∧ Bs V s2 ((ds.drop a).take x.ds.length)) => hld.out V.w V.h.1.bel
        have hne : Nonempty (Wd (fun V => Bx w V [(b12, 28, pkA q), (w.heap.size, 28, pkA p)] ∧ Bs V s1 os' ∧ Bs V s2 ((ds.drop a).take x.ds.length))) := ⟨⟨_, hI⟩⟩
        have hqd : q.d.n = x.p.d.n := by rw [hq]; simp only; omega
        clear hr hl hs' hd hX4 hs1 hs2 hX hc45
        replace hq := Lib.hid hq
        replace hs1n := Lib.hid hs1n
        replace hs2n := Lib.hid hs2n
        replace hsol := Lib.hid hsol
        replace hqd := Lib.hid hqd
        cases hsame : sameP x.p q x.os x.ds os' ((ds.drop a).take x.ds.length)
        · rw [hsame] at hS hsm'
          have hfin := Lib.hid (show rIsF p ds co mtu os 0 l = false by rw [hval.out, hdrop.out]; exact rIsF_same hov.out hsm'.out)
          clear hsame
          refine wp_region_in (fun V => Bx w V [(b12, 28, pkA q), (w.heap.size, 28, pkA p)] ∧ Bs V s1 os' ∧ Bs V s2 ((ds.drop a).take x.ds.length)) (by kernel_rfl) (by kernel_rfl) hI ?_
          repeat (any_goals (first | go_big_quiet_step ((first | (go_at_call 21; exact call_ins stab.out (fun V => hS.out V.w V.h) _) | (go_at_call 33; exact call_ins stab.out (fun V => hRq.out V.w V.h) _) | (go_at_call 34; exact call_ins stab.out (fun V => hBq.out V.w) _))) | quiet_step ((first | (go_at_call 21; exact call_ins stab.out (fun V => hS.out V.w V.h) _) | (go_at_call 33; exact call_ins stab.out (fun V => hRq.out V.w V.h) _) | (go_at_call 34; exact call_ins stab.out (fun V => hBq.out V.w) _)))))
          refine wpQuiet_nil ?_
          rintro _ ⟨V, rfl⟩
          obtain ⟨hX, -, -⟩ := V.h
          obtain ⟨hr, hl, hs', hd⟩ := pk_at hX.tail.h0
          go_wp2
          go_ret
          exact RB.mk' (by rw [hfin.out]; rfl) hX.bel
        have hmp := sameP_iff.1 hsame
        obtain ⟨hrq, hbq⟩ := hlq.out hmp
        rw [hsame] at hS hsm'
        replace hbq : rheadF x.p + (x.p.d.n : Int) = rheadF q + (q.d.n : Int) := hbq
        replace hrq : rightF x.p x.os = rightF q os' := hrq
        rw [← hrq] at hRq
        rw [← hbq] at hBq
        clear hsame hmp hrq hbq hlq
        cases hrt : rightF x.p x.os
        · rw [hrt] at hRq
          have hfin := Lib.hid (show rIsF p ds co mtu os 0 l = false by rw [hval.out, hdrop.out]; exact rIsF_right hov.out hsm'.out (.inl hrt))
          clear hrt
          refine wp_region_in (fun V => Bx w V [(b12, 28, pkA q), (w.heap.size, 28, pkA p)] ∧ Bs V s1 os' ∧ Bs V s2 ((ds.drop a).take x.ds.length)) (by kernel_rfl) (by kernel_rfl) hI ?_
          repeat (any_goals (first | go_big_quiet_step ((first | (go_at_call 21; exact call_ins stab.out (fun V => hS.out V.w V.h) _) | (go_at_call 33; exact call_ins stab.out (fun V => hRq.out V.w V.h) _) | (go_at_call 34; exact call_ins stab.out (fun V => hBq.out V.w) _))) | quiet_step ((first | (go_at_call 21; exact call_ins stab.out (fun V => hS.out V.w V.h) _) | (go_at_call 33; exact call_ins stab.out (fun V => hRq.out V.w V.h) _) | (go_at_call 34; exact call_ins stab.out (fun V => hBq.out V.w) _)))))
          refine wpQuiet_nil ?_
          rintro _ ⟨V, rfl⟩
          obtain ⟨hX, -, -⟩ := V.h
          obtain ⟨hr, hl, hs', hd⟩ := pk_at hX.tail.h0
          go_wp2
          go_ret
          exact RB.mk' (by rw [hfin.out]; rfl) hX.bel
        rw [hrt] at hRq
        by_cases hby : mtu < rheadF x.p + (x.p.d.n : Int)
        · have hby' : decide (rheadF x.p + (x.p.d.n : Int) > mtu) = true := by simpa using hby
          have hfin := Lib.hid (show rIsF p ds co mtu os 0 l = false by rw [hval.out, hdrop.out]; exact rIsF_right hov.out hsm'.out (.inr (by rw [hxd.out]; exact hby)))
          generalize rheadF x.p = H at *
          clear hrt hby
          refine wp_region_in (fun V => Bx w V [(b12, 28, pkA q), (w.heap.size, 28, pkA p)] ∧ Bs V s1 os' ∧ Bs V s2 ((ds.drop a).take x.ds.length)) (by kernel_rfl) (by kernel_rfl) hI ?_
          repeat (any_goals (first | go_big_quiet_step ((first | (go_at_call 21; exact call_ins stab.out (fun V => hS.out V.w V.h) _) | (go_at_call 33; exact call_ins stab.out (fun V => hRq.out V.w V.h) _) | (go_at_call 34; exact call_ins stab.out (fun V => hBq.out V.w) _))) | quiet_step ((first | (go_at_call 21; exact call_ins stab.out (fun V => hS.out V.w V.h) _) | (go_at_call 33; exact call_ins stab.out (fun V => hRq.out V.w V.h) _) | (go_at_call 34; exact call_ins stab.out (fun V => hBq.out V.w) _)))))
          refine wpQuiet_nil ?_
          rintro _ ⟨V, rfl⟩
          obtain ⟨hX, -, -⟩ := V.h
          obtain ⟨hr, hl, hs', hd⟩ := pk_at hX.tail.h0
          go_wp2
          go_ret
          exact RB.mk' (by rw [hfin.out]; rfl) hX.bel
        · have hby' : decide (rheadF x.p + (x.p.d.n : Int) > mtu) = false := by simpa using hby
          have hfin := Lib.hid (show rIsF p ds co mtu os 0 l = rIsF p ds co mtu co (a + x.p.d.n) (l.drop (k + 1)) by rw [hval.out, hdrop.out, ← hxd.out]; exact rIsF_go hov.out hsm'.out hrt (by rw [hxd.out]; exact hby))
          generalize rheadF x.p = H at *
          clear hrt hby
          refine wp_region_in (fun V => Bx w V [(b12, 28, pkA q), (w.heap.size, 28, pkA p)] ∧ Bs V s1 os' ∧ Bs V s2 ((ds.drop a).take x.ds.length)) (by kernel_rfl) (by kernel_rfl) hI ?_
          repeat (any_goals (first | go_big_quiet_step ((first | (go_at_call 21; exact call_ins stab.out (fun V => hS.out V.w V.h) _) | (go_at_call 33; exact call_ins stab.out (fun V => hRq.out V.w V.h) _) | (go_at_call 34; exact call_ins stab.out (fun V => hBq.out V.w) _))) | quiet_step ((first | (go_at_call 21; exact call_ins stab.out (fun V => hS.out V.w V.h) _) | (go_at_call 33; exact call_ins stab.out (fun V => hRq.out V.w V.h) _) | (go_at_call 34; exact call_ins stab.out (fun V => hBq.out V.w) _)))))
          refine wpQuiet_nil ?_
          rintro _ ⟨V, rfl⟩
          obtain ⟨hX, -, -⟩ := V.h
          obtain ⟨hr, hl, hs', hd⟩ := pk_at hX.tail.h0
          go_wp2_with (first | go_big_skip | (go_at_call 36; (with_reducible refine (hcar.out _ hX.bel).mono ?_); rintro e w5 ⟨s5, rfl, hs5, hb⟩; have hX := hX.call hb; clear hb))
          go_roundw
          case rel => exact ⟨k + 1, s5, a + x.p.d.n, co, by go_num, rfl, by go_num, by omega, by have := hdl.out; omega, hs5.bs, by have h1 := hs5.bs.len; have h2 := hcf.out; have h3 := hol.out; omega, hX.tail, hfin.out⟩
          case measure => simp [intOf]; omega
    · have hkn : k = n := by omega
      subst hkn
      have hfin := Lib.hid (show rIsF p ds co mtu os 0 l = decide (a = ds.length) by rw [hval.out, List.drop_eq_nil_of_le (by rw [hlen.out]; exact Nat.le_refl _), rIsF])
      go_wp2
      go_ret
      refine RB.mk' ?_ hX.bel
      rw [hfin.out]
      refine congrArg Value.bool ?_
      show ((a : Int) == (p.d.n : Int)) = _
      rw [Bool.eq_iff_iff, beq_iff_eq, decide_eq_true_iff]
      omega
end Go.Proofs.YtleokgmflelkcaaDoor
