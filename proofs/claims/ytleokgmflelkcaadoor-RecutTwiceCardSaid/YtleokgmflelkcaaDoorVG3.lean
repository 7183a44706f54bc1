/- mosaicref11.Is, walked. -/
import Derived.Test.YtleokgmflelkcaaDoorVG1
import Derived.Test.YtleokgmflelkcaaDoorVD5
set_option linter.unusedSimpArgs false
set_option linter.unusedVariables false
namespace Go.Proofs.YtleokgmflelkcaaDoor
open Go Go.RowKit

/-- The reference's pieces of a packet from place at on; os': the options that the next one must have. -/
def rIsF (p : Pk) (ds co : List Int) (mtu : Int) : List Int → Nat → List Fp → Bool
  | _, at_, [] => decide (at_ = ds.length)
  | os', at_, x :: l => if ds.length < at_ + x.ds.length then false
    else if sameP x.p { p with off := p.off + at_, more := !l.isEmpty || p.more } x.os x.ds os' ((ds.drop at_).take x.ds.length) = false then false
    else if rightF x.p x.os = false then false
    else if mtu < rheadF x.p + x.ds.length then false
    else rIsF p ds co mtu co (at_ + x.ds.length) l
def rIsR (p : Pk) (os ds co : List Int) (mtu : Int) (l : List Fp) : Bool :=
  if rightF p os = false ∨ mtu < 68 ∨ mtu > 65535 ∨ l.length = 0 then false
  else match l with
  | [x] => sameP x.p p x.os x.ds os ds && decide (rheadF p + ds.length ≤ mtu)
  | _ => if p.v ≠ 4 ∨ p.df = true then false else rIsF p ds co mtu os 0 l

theorem sameP_iff {p q : Pk} {os ds os' ds' : List Int} : sameP p q os ds os' ds' = true ↔ p.mp os ds = q.mp os' ds' := by
  constructor
  · intro h
    simp only [sameP, Bool.and_eq_true, decide_eq_true_eq, beq_iff_eq] at h
    obtain ⟨⟨⟨⟨h1, h2⟩, h3⟩, h4⟩, h5⟩ := h
    simp only [Pk.mp, h1, h2, h3, h4, h5]
  · exact sameP_mp
theorem fp_right {x y : Fp} (h : x.mp = y.mp) (hx : x.ds.length = x.p.d.n ∧ x.os.length = x.p.o.n) (hy : y.ds.length = y.p.d.n ∧ y.os.length = y.p.o.n) : rightF x.p x.os = rightF y.p y.os ∧ rheadF x.p + x.p.d.n = rheadF y.p + y.p.d.n := by
  have e : cn x = cn y := by unfold cn; rw [h]
  have h1 := cn_right hx
  have h2 := cn_right hy
  rw [e] at h1
  refine ⟨h1.symm.trans h2, ?_⟩
  simp only [Fp.mp, Pk.mp, Pk.bare, Mp.mk.injEq, Br.mk.injEq] at h
  obtain ⟨⟨a1, a2, a3, a4, a5, a6, a7, a8, a9, a10⟩, b1, b2, b3, b4⟩ := h
  have e1 : x.p.o.n = y.p.o.n := by rw [← hx.2, ← hy.2, b3]
  have e2 : x.p.d.n = y.p.d.n := by rw [← hx.1, ← hy.1, b4]
  unfold rheadF head6F
  rw [a1, a10, e1, e2]

set_option maxRecDepth 100000 in
set_option maxHeartbeats 1000000 in
theorem ris_err (p : Pk) (os ds : List Int) (mtu : Int) (s : Sl) (w : World) (hp : PkIn w p os ds) (h : rightF p os = false ∨ mtu < 68 ∨ mtu > 65535 ∨ s.n = 0) : Calls Tryd.prog 18 #[.agg (pkA p), .int .i64 mtu, .slice s.a s.n s.c] w (RB (.bool false) w) := by
  have hX := (Bx.start w).alloc (pkA p) 28
  obtain ⟨hr, hl, hs, hd⟩ := pk_at hX.h0
  have hR := Lib.hid (fun (V : World) (hb : Below w.heap.size w V) => ref11Right_any p os ds V (hp.below hb))
  generalize rightF p os = H at *
  cases H
  · clear h
    go_enter Tryd.func18, Tryd.ntmps18
    go_wp2_with (first | go_big_skip | (go_at_call 33; (with_reducible refine (hR.out _ hX.bel).mono ?_); rintro e w1 ⟨rfl, hb⟩; have hX := hX.call hb; clear hb))
    go_ret
    exact RB.mk' rfl hX.bel
  by_cases h1 : mtu < 68
  · have h1' : decide (mtu < 68) = true := by simpa using h1
    clear h h1
    go_enter Tryd.func18, Tryd.ntmps18
    go_wp2_with (first | go_big_skip | (go_at_call 33; (with_reducible refine (hR.out _ hX.bel).mono ?_); rintro e w1 ⟨rfl, hb⟩; have hX := hX.call hb; clear hb))
    go_ret
    exact RB.mk' rfl hX.bel
  have h1' : decide (mtu < 68) = false := by simpa using h1
  by_cases h2 : mtu > 65535
  · have h2' : decide (mtu > 65535) = true := by simpa using h2
    clear h h1 h2
    go_enter Tryd.func18, Tryd.ntmps18
    go_wp2_with (first | go_big_skip | (go_at_call 33; (with_reducible refine (hR.out _ hX.bel).mono ?_); rintro e w1 ⟨rfl, hb⟩; have hX := hX.call hb; clear hb))
    go_ret
    exact RB.mk' rfl hX.bel
  have h2' : decide (mtu > 65535) = false := by simpa using h2
  have h3 : s.n = 0 := by
    rcases h with h | h | h | h
    · cases h
    · exact absurd h h1
    · exact absurd h h2
    · exact h
  rw [h3]
  clear h h1 h2 h3
  go_enter Tryd.func18, Tryd.ntmps18
  go_wp2_with (first | go_big_skip | (go_at_call 33; (with_reducible refine (hR.out _ hX.bel).mono ?_); rintro e w1 ⟨rfl, hb⟩; have hX := hX.call hb; clear hb))
  go_ret
  exact RB.mk' rfl hX.bel

set_option maxRecDepth 100000 in
set_option maxHeartbeats 1000000 in
theorem ris_no (p : Pk) (os ds : List Int) (mtu : Int) (s : Sl) (w : World) (hp : PkIn w p os ds) (h0 : rightF p os = true) (h1 : 68 ≤ mtu) (h2 : mtu ≤ 65535) (h3 : 2 ≤ s.n) (h5 : p.v ≠ 4 ∨ p.df = true) : Calls Tryd.prog 18 #[.agg (pkA p), .int .i64 mtu, .slice s.a s.n s.c] w (RB (.bool false) w) := by
  have hX := (Bx.start w).alloc (pkA p) 28
  obtain ⟨hr, hl, hs, hd⟩ := pk_at hX.h0
  have hR := Lib.hid (fun (V : World) (hb : Below w.heap.size w V) => (h0 ▸ ref11Right_any p os ds V (hp.below hb) : Calls Tryd.prog 33 #[.agg (pkA p)] V (RB (.bool true) V)))
  have e1 : decide (mtu < 68) = false := by simp; omega
  have e2 : decide (mtu > 65535) = false := by simp; omega
  have e3 : ((s.n : Int) == 0) = false := beq_eq_false_iff_ne.2 (by omega)
  have e4 : ((s.n : Int) == 1) = false := beq_eq_false_iff_ne.2 (by omega)
  clear h0 h1 h2
  by_cases h6 : p.v = 4
  · have h7 : p.df = true := by simpa [h6] using h5
    have h6' : (p.v != 4) = false := by simp [h6]
    have hc40 : (pkA p)[40]? = some (.bool true) := by rw [pkA_40, h7]
    have hdf := Lib.hid h7
    clear h5 h6 h7
    go_enter Tryd.func18, Tryd.ntmps18
    go_wp2_with (first | go_big_skip | (go_at_call 33; (with_reducible refine (hR.out _ hX.bel).mono ?_); rintro e w1 ⟨rfl, hb⟩; have hX := hX.call hb; obtain ⟨hr, hl, hs, hd⟩ := pk_at hX.h0; have h40 := (hr 40 (by decide)).trans hc40; clear hb))
    all_goals
      go_ret
      exact RB.mk' rfl hX.bel
  · have h6' : (p.v != 4) = true := by simpa using h6
    clear h5 h6
    go_enter Tryd.func18, Tryd.ntmps18
    go_wp2_with (first | go_big_skip | (go_at_call 33; (with_reducible refine (hR.out _ hX.bel).mono ?_); rintro e w1 ⟨rfl, hb⟩; have hX := hX.call hb; obtain ⟨hr, hl, hs, hd⟩ := pk_at hX.h0; clear hb))
    go_ret
    exact RB.mk' rfl hX.bel

set_option maxRecDepth 100000 in
set_option maxHeartbeats 1000000 in
theorem ris_one (p : Pk) (os ds : List Int) (mtu : Int) (b o c : Nat) (x : Fp) (w : World) (hp : PkIn w p os ds) (hs : PkS w ⟨some ⟨b, o, none⟩, 1, c⟩ [x]) (h0 : rightF p os = true) (h1 : 68 ≤ mtu) (h2 : mtu ≤ 65535) : Calls Tryd.prog 18 #[.agg (pkA p), .int .i64 mtu, .slice (some ⟨b, o, none⟩) 1 c] w (RB (.bool (sameP x.p p x.os x.ds os ds && decide (rheadF p + ds.length ≤ mtu))) w) := by
  have hX := (Bx.start w).alloc (pkA p) 28
  obtain ⟨hrA, hlA, _, _⟩ := pk_at hX.h0
  have hR := Lib.hid (fun (V : World) (hb : Below w.heap.size w V) => (h0 ▸ ref11Right_any p os ds V (hp.below hb) : Calls Tryd.prog 33 #[.agg (pkA p)] V (RB (.bool true) V)))
  have hB := Lib.hid (fun (V : World) => ref11Bytes_any p V hp.om hp.dm)
  have hS := Lib.hid (fun (V : World) (h : Bx w V [(w.heap.size, 28, pkA p)]) => Same_any x.p p x.os x.ds os ds V ((hs.pk x (by simp)).below h.bel) (hp.below h.bel))
  have e1 : decide (mtu < 68) = false := by simp; omega
  have e2 : decide (mtu > 65535) = false := by simp; omega
  have hdl := hp.d.len
  rw [hdl]
  clear h0 h1 h2 hdl
  have hld := Lib.hid (fun (V : World) (hb : Below w.heap.size w V) => hs.load0 hb)
  have stab := Lib.hid (fun (W W' : World) (h : Bx w W [(w.heap.size, 28, pkA p)]) (hb : Below W.heap.size W W') => h.call hb)
  replace hs := Lib.hid hs
  generalize sameP x.p p x.os x.ds os ds = S at *
  generalize rheadF p = H at *
  cases S
  · go_enter Tryd.func18, Tryd.ntmps18
    go_wp2_with (first | go_big_skip | (go_at_call 33; (with_reducible refine (hR.out _ hX.bel).mono ?_); rintro e w1 ⟨rfl, hb⟩; have hX := hX.call hb; clear hb))
    have hl := fun V : Wd (fun V => Bx w V [(w.heap.size, 28, pkA p)]) => (pk_at V.h.h0).2.1
    have hl0 := fun V : Wd (fun V => Bx w V [(w.heap.size, 28, pkA p)]) => hld.out V.w V.h.bel
    have hne : Nonempty (Wd (fun V => Bx w V [(w.heap.size, 28, pkA p)])) := ⟨⟨_, hX.drew⟩⟩
    refine wp_region_in (fun V => Bx w V [(w.heap.size, 28, pkA p)]) (by kernel_rfl) (by kernel_rfl) hX.drew ?_
    repeat (any_goals (first | go_big_quiet_step ((first | (go_at_call 21; exact call_ins stab.out (fun V => hS.out V.w V.h) _) | (go_at_call 34; exact call_ins stab.out (fun V => hB.out V.w) _))) | quiet_step ((first | (go_at_call 21; exact call_ins stab.out (fun V => hS.out V.w V.h) _) | (go_at_call 34; exact call_ins stab.out (fun V => hB.out V.w) _)))))
    refine wpQuiet_nil ?_
    rintro _ ⟨V, rfl⟩
    have hX := V.h
    go_wp2
    go_ret
    exact RB.mk' rfl hX.bel
  · by_cases h3 : H + (p.d.n : Int) ≤ mtu
    · have h3' : decide (H + (p.d.n : Int) ≤ mtu) = true := by simpa using h3
      rw [h3']
      clear h3
      go_enter Tryd.func18, Tryd.ntmps18
      go_wp2_with (first | go_big_skip | (go_at_call 33; (with_reducible refine (hR.out _ hX.bel).mono ?_); rintro e w1 ⟨rfl, hb⟩; have hX := hX.call hb; clear hb))
      have hl := fun V : Wd (fun V => Bx w V [(w.heap.size, 28, pkA p)]) => (pk_at V.h.h0).2.1
      have hl0 := fun V : Wd (fun V => Bx w V [(w.heap.size, 28, pkA p)]) => hld.out V.w V.h.bel
      have hne : Nonempty (Wd (fun V => Bx w V [(w.heap.size, 28, pkA p)])) := ⟨⟨_, hX.drew⟩⟩
      refine wp_region_in (fun V => Bx w V [(w.heap.size, 28, pkA p)]) (by kernel_rfl) (by kernel_rfl) hX.drew ?_
      repeat (any_goals (first | go_big_quiet_step ((first | (go_at_call 21; exact call_ins stab.out (fun V => hS.out V.w V.h) _) | (go_at_call 34; exact call_ins stab.out (fun V => hB.out V.w) _))) | quiet_step ((first | (go_at_call 21; exact call_ins stab.out (fun V => hS.out V.w V.h) _) | (go_at_call 34; exact call_ins stab.out (fun V => hB.out V.w) _)))))
      refine wpQuiet_nil ?_
      rintro _ ⟨V, rfl⟩
      have hX := V.h
      go_wp2
      go_ret
      exact RB.mk' rfl hX.bel
    · have h3' : decide (H + (p.d.n : Int) ≤ mtu) = false := by simpa using h3
      rw [h3']
      clear h3
      go_enter Tryd.func18, Tryd.ntmps18
      go_wp2_with (first | go_big_skip | (go_at_call 33; (with_reducible refine (hR.out _ hX.bel).mono ?_); rintro e w1 ⟨rfl, hb⟩; have hX := hX.call hb; clear hb))
      have hl := fun V : Wd (fun V => Bx w V [(w.heap.size, 28, pkA p)]) => (pk_at V.h.h0).2.1
      have hl0 := fun V : Wd (fun V => Bx w V [(w.heap.size, 28, pkA p)]) => hld.out V.w V.h.bel
      have hne : Nonempty (Wd (fun V => Bx w V [(w.heap.size, 28, pkA p)])) := ⟨⟨_, hX.drew⟩⟩
      refine wp_region_in (fun V => Bx w V [(w.heap.size, 28, pkA p)]) (by kernel_rfl) (by kernel_rfl) hX.drew ?_
      repeat (any_goals (first | go_big_quiet_step ((first | (go_at_call 21; exact call_ins stab.out (fun V => hS.out V.w V.h) _) | (go_at_call 34; exact call_ins stab.out (fun V => hB.out V.w) _))) | quiet_step ((first | (go_at_call 21; exact call_ins stab.out (fun V => hS.out V.w V.h) _) | (go_at_call 34; exact call_ins stab.out (fun V => hB.out V.w) _)))))
      refine wpQuiet_nil ?_
      rintro _ ⟨V, rfl⟩
      have hX := V.h
      go_wp2
      go_ret
      exact RB.mk' rfl hX.bel
end Go.Proofs.YtleokgmflelkcaaDoor
