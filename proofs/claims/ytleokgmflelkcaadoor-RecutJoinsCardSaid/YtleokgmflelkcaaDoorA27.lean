/- recut.Is of one packet; of IPv6 or with DF. -/
import Derived.Test.YtleokgmflelkcaaDoorA13
import Derived.Test.YtleokgmflelkcaaDoorA26
set_option linter.unusedSimpArgs false
set_option linter.unusedVariables false
namespace Go.Proofs.YtleokgmflelkcaaDoor
open Go Go.RowKit

set_option maxRecDepth 100000 in
set_option maxHeartbeats 1000000 in
theorem is_no (p : Pk) (os ds : List Int) (mtu : Int) (s : Sl) (w : World) (hp : PkIn w p os ds) (hS : Sh w) (h0 : headF p os ≠ 0) (h1 : 68 ≤ mtu) (h2 : mtu ≤ 65535) (h3 : 2 ≤ s.n) (h4 : p.v ≠ 4 ∨ p.df = true) : Calls Tryd.prog 16 #[.agg (pkA p), .int .i64 mtu, .slice s.a s.n s.c] w (RB (.bool false) w) := by
  have hX := (Bx.start w).alloc (pkA p) 28
  obtain ⟨hr, hl, hs, hd⟩ := pk_at hX.h0
  generalize hH : headF p os = H at *
  have h0' : (H == 0) = false := by simpa using h0
  have h5 : ((s.n : Int) == 0) = false := by simp; omega
  have h6 : ((s.n : Int) == 1) = false := by simp; omega
  clear h0 h3
  by_cases h7 : p.v = 4
  · have h8 : p.df = true := by simpa [h7] using h4
    have h9 : (p.v != 4) = false := by simp [h7]
    clear h4 h7
    go_enter Tryd.func16, Tryd.ntmps16
    go_wp2_with (first | (go_at_call 31; (with_reducible refine (head_any p os ds _ (hp.below hX.bel) (hS.below hX.bel)).mono ?_); rintro e w1 ⟨rfl, hb⟩; rw [hH]; have hX := hX.call hb; obtain ⟨hr, hl, hs, hd⟩ := pk_at hX.h0; clear hb))
    go_ret
    exact RB.mk' rfl hX.bel
  · have h9 : (p.v != 4) = true := by simpa using h7
    clear h4 h7
    go_enter Tryd.func16, Tryd.ntmps16
    go_wp2_with (first | (go_at_call 31; (with_reducible refine (head_any p os ds _ (hp.below hX.bel) (hS.below hX.bel)).mono ?_); rintro e w1 ⟨rfl, hb⟩; rw [hH]; have hX := hX.call hb; obtain ⟨hr, hl, hs, hd⟩ := pk_at hX.h0; clear hb))
    go_ret
    exact RB.mk' rfl hX.bel

set_option maxRecDepth 100000 in
set_option maxHeartbeats 1000000 in
theorem is_one (p : Pk) (os ds : List Int) (mtu : Int) (s : Sl) (x : Fp) (w : World) (hp : PkIn w p os ds) (hS : Sh w) (hl1 : PkS w s [x]) (h0 : headF p os ≠ 0) (h1 : 68 ≤ mtu) (h2 : mtu ≤ 65535) : Calls Tryd.prog 16 #[.agg (pkA p), .int .i64 mtu, .slice s.a s.n s.c] w (RB (.bool (sameP p x.p os ds x.os x.ds && decide (headF p os + ds.length ≤ mtu))) w) := by
  have hX := (Bx.start w).alloc (pkA p) 28
  obtain ⟨hr, hl, hs, hd⟩ := pk_at hX.h0
  have hn := headF_nums hp.o.len
  generalize hH : headF p os = H at *
  have h0' : (H == 0) = false := by simpa using h0
  obtain ⟨sa, n, c⟩ := s
  obtain rfl : n = 1 := hl1.len.symm
  obtain ⟨b, o, rfl⟩ : ∃ b o, sa = some ⟨b, o, none⟩ := by
    rcases hl1.at_ with ⟨_, h0, _⟩ | ⟨b, o, h1, _⟩
    · cases h0
    · exact ⟨b, o, h1⟩
  have hpx := Lib.hid (hl1.pk x (by simp))
  have hl1 := Lib.hid hl1
  have hdl := Lib.hid hp.d.len
  have hdm := hp.dm
  obtain ⟨hn1, hn2⟩ := hn
  have stab := Lib.hid (fun (W W' : World) (h : Bx w W [(w.heap.size, 28, pkA p)]) (hb : Below W.heap.size W W') => h.call hb)
  have hsame := Lib.hid (fun (V : World) (h : Bx w V [(w.heap.size, 28, pkA p)]) => rsame_any p x.p os ds x.os x.ds V (hp.below h.bel) (hpx.out.below h.bel))
  have hr2 := fun V : Wd (fun V => Bx w V [(w.heap.size, 28, pkA p)]) => (pk_at V.h.h0).1
  have hl2 := fun V : Wd (fun V => Bx w V [(w.heap.size, 28, pkA p)]) => (pk_at V.h.h0).2.1
  have hl0 := fun V : Wd (fun V => Bx w V [(w.heap.size, 28, pkA p)]) => hl1.out.load0 V.h.bel
  clear h0
  cases hsm : sameP p x.p os ds x.os x.ds
  · rw [hsm] at hsame
    go_enter Tryd.func16, Tryd.ntmps16
    go_wp2_with (first | (go_at_call 31; (with_reducible refine (head_any p os ds _ (hp.below hX.bel) (hS.below hX.bel)).mono ?_); rintro e w1 ⟨rfl, hb⟩; rw [hH]; have hX := hX.call hb; obtain ⟨hr, hl, hs, hd⟩ := pk_at hX.h0; clear hb))
    have hI := hX.drew
    have hne : Nonempty (Wd (fun V => Bx w V [(w.heap.size, 28, pkA p)])) := ⟨⟨_, hI⟩⟩
    refine wp_region_in (fun V => Bx w V [(w.heap.size, 28, pkA p)]) (by kernel_rfl) (by kernel_rfl) hI ?_
    repeat (any_goals (first | go_big_quiet_step ((first | (go_at_call 38; exact call_ins stab.out (fun V => hsame.out V.w V.h) _))) | quiet_step ((first | (go_at_call 38; exact call_ins stab.out (fun V => hsame.out V.w V.h) _)))))
    refine wpQuiet_nil ?_
    rintro _ ⟨V, rfl⟩
    have hX := V.h
    go_wp2
    go_ret
    exact RB.mk' rfl hX.bel
  · rw [hsm] at hsame
    go_enter Tryd.func16, Tryd.ntmps16
    go_wp2_with (first | (go_at_call 31; (with_reducible refine (head_any p os ds _ (hp.below hX.bel) (hS.below hX.bel)).mono ?_); rintro e w1 ⟨rfl, hb⟩; rw [hH]; have hX := hX.call hb; obtain ⟨hr, hl, hs, hd⟩ := pk_at hX.h0; clear hb))
    have hI := hX.drew
    have hne : Nonempty (Wd (fun V => Bx w V [(w.heap.size, 28, pkA p)])) := ⟨⟨_, hI⟩⟩
    refine wp_region_in (fun V => Bx w V [(w.heap.size, 28, pkA p)]) (by kernel_rfl) (by kernel_rfl) hI ?_
    repeat (any_goals (first | go_big_quiet_step ((first | (go_at_call 38; exact call_ins stab.out (fun V => hsame.out V.w V.h) _))) | quiet_step ((first | (go_at_call 38; exact call_ins stab.out (fun V => hsame.out V.w V.h) _)))))
    refine wpQuiet_nil ?_
    rintro _ ⟨V, rfl⟩
    have hX := V.h
    go_wp2
    go_ret
    exact RB.mk' (by rw [hdl.out]; simp) hX.bel
end Go.Proofs.YtleokgmflelkcaaDoor
