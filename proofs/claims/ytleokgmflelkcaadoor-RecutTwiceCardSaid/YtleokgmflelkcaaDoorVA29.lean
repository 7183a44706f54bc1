/- recut.Is of one packet; of IPv6 or with DF. recut.Is: the loop. recut.Is, whole. -/
import Derived.Test.YtleokgmflelkcaaDoorVA13
import Derived.Test.YtleokgmflelkcaaDoorVA26
set_option linter.unusedSimpArgs false
set_option linter.unusedVariables false
namespace Go.Proofs.YtleokgmflelkcaaDoor
open Go Go.RowKit

set_option maxRecDepth 100000 in
set_option maxHeartbeats 1000000 in
theorem is_no (p : Pk) (os ds : List Int) (mtu : Int) (s : Sl) (w : World) (hp : PkIn w p os ds) (hS : Sh w) (h0 : headF p os ≠ 0) (h1 : 68 ≤ mtu) (h2 : mtu ≤ 65535) (h3 : 2 ≤ s.n) (h4 : p.v ≠ 4 ∨ p.df = true) : Calls Tryd.prog 16 #[.agg (pkA p), .int .i64 mtu, .slice s.a s.n s.c] w (RB (.bool false) w) := by
  have hX := (Bx.start w).alloc (pkA p) 28
  obtain ⟨hr, hl, hs, hd⟩ := pk_at hX.h0
  generalize hH : headF p os = H at *
  have h0' : (H == 0) = false := by simpa using h0
  have h5 : ((s.n : Int) == 0) = false := by simp; omega
  have h6 : ((s.n : Int) == 1) = false := by simp; omega
  clear h0 h3
  by_cases h7 : p.v = 4
  · have h8 : p.df = true := by simpa [h7] using h4
    have h9 : (p.v != 4) = false := by simp [h7]
    clear h4 h7
    go_enter Tryd.func16, Tryd.ntmps16
    go_wp2_with (first | (go_at_call 31; (with_reducible refine (head_any p os ds _ (hp.below hX.bel) (hS.below hX.bel)).mono ?_); rintro e w1 ⟨rfl, hb⟩; rw [hH]; have hX := hX.call hb; obtain ⟨hr, hl, hs, hd⟩ := pk_at hX.h0; clear hb))
    go_ret
    exact RB.mk' rfl hX.bel
  · have h9 : (p.v != 4) = true := by simpa using h7
    clear h4 h7
    go_enter Tryd.func16, Tryd.ntmps16
    go_wp2_with (first | (go_at_call 31; (with_reducible refine (head_any p os ds _ (hp.below hX.bel) (hS.below hX.bel)).mono ?_); rintro e w1 ⟨rfl, hb⟩; rw [hH]; have hX := hX.call hb; obtain ⟨hr, hl, hs, hd⟩ := pk_at hX.h0; clear hb))
    go_ret
    exact RB.mk' rfl hX.bel

set_option maxRecDepth 100000 in
set_option maxHeartbeats 1000000 in
theorem is_one (p : Pk) (os ds : List Int) (mtu : Int) (s : Sl) (x : Fp) (w : World) (hp : PkIn w p os ds) (hS : Sh w) (hl1 : PkS w s [x]) (h0 : headF p os ≠ 0) (h1 : 68 ≤ mtu) (h2 : mtu ≤ 65535) : Calls Tryd.prog 16 #[.agg (pkA p), .int .i64 mtu, .slice s.a s.n s.c] w (RB (.bool (sameP p x.p os ds x.os x.ds && decide (headF p os + ds.length ≤ mtu))) w) := by
  have hX := (Bx.start w).alloc (pkA p) 28
  obtain ⟨hr, hl, hs, hd⟩ := pk_at hX.h0
  have hn := headF_nums hp.o.len
  generalize hH : headF p os = H at *
  have h0' : (H == 0) = false := by simpa using h0
  obtain ⟨sa, n, c⟩ := s
  obtain rfl : n = 1 := hl1.len.symm
  obtain ⟨b, o, rfl⟩ : ∃ b o, sa = some ⟨b, o, none⟩ := by
    rcases hl1.at_ with ⟨_, h0, _⟩ | ⟨b, o, h1, _⟩
    · cases h0
    · exact ⟨b, o, h1⟩
  have hpx := Lib.hid (hl1.pk x (by simp))
  have hl1 := Lib.hid hl1
  have hdl := Lib.hid hp.d.len
  have hdm := hp.dm
  obtain ⟨hn1, hn2⟩ := hn
  have stab := Lib.hid (fun (W W' : World) (h : Bx w W [(w.heap.size, 28, pkA p)]) (hb : Below W.heap.size W W') => h.call hb)
  have hsame := Lib.hid (fun (V : World) (h : Bx w V [(w.heap.size, 28, pkA p)]) => rsame_any p x.p os ds x.os x.ds V (hp.below h.bel) (hpx.out.below h.bel))
  have hr2 := fun V : Wd (fun V => Bx w V [(w.heap.size, 28, pkA p)]) => (pk_at V.h.h0).1
  have hl2 := fun V : Wd (fun V => Bx w V [(w.heap.size, 28, pkA p)]) => (pk_at V.h.h0).2.1
  have hl0 := fun V : Wd (fun V => Bx w V [(w.heap.size, 28, pkA p)]) => hl1.out.load0 V.h.bel
  clear h0
  cases hsm : sameP p x.p os ds x.os x.ds
  · rw [hsm] at hsame
    go_enter Tryd.func16, Tryd.ntmps16
    go_wp2_with (first | (go_at_call 31; (with_reducible refine (head_any p os ds _ (hp.below hX.bel) (hS.below hX.bel)).mono ?_); rintro e w1 ⟨rfl, hb⟩; rw [hH]; have hX := hX.call hb; obtain ⟨hr, hl, hs, hd⟩ := pk_at hX.h0; clear hb))
    have hI := hX.drew
    have hne : Nonempty (Wd (fun V => Bx w V [(w.heap.size, 28, pkA p)])) := ⟨⟨_, hI⟩⟩
    refine wp_region_in (fun V => Bx w V [(w.heap.size, 28, pkA p)]) (by kernel_rfl) (by kernel_rfl) hI ?_
    repeat (any_goals (first | go_big_quiet_step ((first | (go_at_call 38; exact call_ins stab.out (fun V => hsame.out V.w V.h) _))) | quiet_step ((first | (go_at_call 38; exact call_ins stab.out (fun V => hsame.out V.w V.h) _)))))
    refine wpQuiet_nil ?_
    rintro _ ⟨V, rfl⟩
    have hX := V.h
    go_wp2
    go_ret
    exact RB.mk' rfl hX.bel
  · rw [hsm] at hsame
    go_enter Tryd.func16, Tryd.ntmps16
    go_wp2_with (first | (go_at_call 31; (with_reducible refine (head_any p os ds _ (hp.below hX.bel) (hS.below hX.bel)).mono ?_); rintro e w1 ⟨rfl, hb⟩; rw [hH]; have hX := hX.call hb; obtain ⟨hr, hl, hs, hd⟩ := pk_at hX.h0; clear hb))
    have hI := hX.drew
    have hne : Nonempty (Wd (fun V => Bx w V [(w.heap.size, 28, pkA p)])) := ⟨⟨_, hI⟩⟩
    refine wp_region_in (fun V => Bx w V [(w.heap.size, 28, pkA p)]) (by kernel_rfl) (by kernel_rfl) hI ?_
    repeat (any_goals (first | go_big_quiet_step ((first | (go_at_call 38; exact call_ins stab.out (fun V => hsame.out V.w V.h) _))) | quiet_step ((first | (go_at_call 38; exact call_ins stab.out (fun V => hsame.out V.w V.h) _)))))
    refine wpQuiet_nil ?_
    rintro _ ⟨V, rfl⟩
    have hX := V.h
    go_wp2
    go_ret
    exact RB.mk' (by rw [hdl.out]; simp) hX.bel
end Go.Proofs.YtleokgmflelkcaaDoor
namespace Go.Proofs.YtleokgmflelkcaaDoor
open Go Go.RowKit

/-- The loop's state: k packets seen, a bytes of data told. -/
def IsRel (p : Pk) (os ds co : List Int) (M : Int) (l : List Fp) (s3 : Sl) (n : Nat) (w : World) (at_ i : Value) (wr : World) : Prop :=
  ∃ (k a : Nat), at_ = .int .i64 a ∧ i = .int .i64 k ∧ k ≤ n ∧ a ≤ ds.length ∧ isF p os ds co M true 0 l = isF p os ds co M (k == 0) a (l.drop k) ∧ Bx w wr [(w.heap.size, 28, pkA p)] ∧ Own w.heap.size wr s3 co

structure II (p x : Pk) (w : World) (b1 : Nat) (s3 : Sl) (co : List Int) (V : World) : Prop where
  x : Bx w V [(b1, 28, pkA x), (w.heap.size, 28, pkA p)]
  o : Own w.heap.size V s3 co
theorem II.call {p x : Pk} {w : World} {b1 : Nat} {s3 : Sl} {co : List Int} {W W' : World} (h : II p x w b1 s3 co W) (hb : Below W.heap.size W W') : II p x w b1 s3 co W' := ⟨h.x.call hb, h.o.below hb⟩
theorem II.drew {p x : Pk} {w : World} {b1 : Nat} {s3 : Sl} {co : List Int} {W : World} (h : II p x w b1 s3 co W) : II p x w b1 s3 co W.drew := h.call ((Below.refl _ _).drew)

theorem isF_no1 {p : Pk} {os ds co : List Int} {M : Int} {f : Bool} {a : Nat} {x : Fp} {l : List Fp} (h : headF x.p x.os = 0 ∨ headF x.p x.os + x.ds.length > M ∨ x.p.bare ≠ p.bare ∨ x.os ≠ (if f then os else co)) : isF p os ds co M f a (x :: l) = false := by
  rw [isF, if_pos h]
theorem isF_no2 {p : Pk} {os ds co : List Int} {M : Int} {f : Bool} {a : Nat} {x : Fp} {l : List Fp} (h : x.p.off ≠ p.off + a ∨ ¬ x.ds <+: ds.drop a) : isF p os ds co M f a (x :: l) = false := by
  by_cases h' : headF x.p x.os = 0 ∨ headF x.p x.os + x.ds.length > M ∨ x.p.bare ≠ p.bare ∨ x.os ≠ (if f then os else co)
  · exact isF_no1 h'
  · rw [isF, if_neg h', if_pos h]
theorem isF_no3 {p : Pk} {os ds co : List Int} {M : Int} {f : Bool} {a : Nat} {x : Fp} {l : List Fp} (h : x.p.more ≠ (!(l.isEmpty) || p.more)) : isF p os ds co M f a (x :: l) = false := by
  by_cases h' : headF x.p x.os = 0 ∨ headF x.p x.os + x.ds.length > M ∨ x.p.bare ≠ p.bare ∨ x.os ≠ (if f then os else co)
  · exact isF_no1 h'
  · by_cases h2 : x.p.off ≠ p.off + a ∨ ¬ x.ds <+: ds.drop a
    · exact isF_no2 h2
    · rw [isF, if_neg h', if_neg h2, if_pos h]
theorem isF_go {p : Pk} {os ds co : List Int} {M : Int} {f : Bool} {a : Nat} {x : Fp} {l : List Fp} (h0 : headF x.p x.os ≠ 0) (h1 : ¬ headF x.p x.os + x.ds.length > M) (h2 : x.p.bare = p.bare) (h3 : x.os = (if f then os else co)) (h4 : x.p.off = p.off + a) (h5 : x.ds <+: ds.drop a)
    (h6 : x.p.more = (!(l.isEmpty) || p.more)) : isF p os ds co M f a (x :: l) = isF p os ds co M false (a + x.ds.length) l := by
  rw [isF, if_neg (by rintro (h | h | h | h) <;> contradiction), if_neg (by rintro (h | h) <;> contradiction), if_neg (by rintro h; contradiction)]

theorem drop_empty {l : List Fp} {n k : Nat} (hl : l.length = n) : (l.drop (k + 1)).isEmpty = decide (n ≤ k + 1) := by
  rw [Bool.eq_iff_iff, List.isEmpty_iff, List.drop_eq_nil_iff, hl]; simp

set_option maxRecDepth 100000 in
set_option maxHeartbeats 4000000 in
theorem is_list (p : Pk) (os ds co : List Int) (M : Int) (s : Sl) (l : List Fp) (w : World) (hp : PkIn w p os ds) (hS : Sh w) (hs : PkS w s l) (hm : s.n ≤ 925904528626) (h0 : right4F p os = true) (h1 : 68 ≤ M) (h2 : M ≤ 65535) (h3 : 2 ≤ s.n) (h5 : p.df = false)
    (hcar : ∀ W, Sh W → Bs W p.o os → Calls Tryd.prog 27 #[.slice p.o.a p.o.n p.o.c] W (RS co W)) : Calls Tryd.prog 16 #[.agg (pkA p), .int .i64 M, .slice s.a s.n s.c] w (RB (.bool (isF p os ds co M true 0 l)) w) := by
  have hX := (Bx.start w).alloc (pkA p) 28
  obtain ⟨hr, hl, hsr, hd⟩ := pk_at hX.h0
  obtain ⟨hn1, hn2, hn3, hn4, hn5, hn6⟩ := right4_nums h0
  have hH : headF p os = (20 : Int) + (p.o.n : Int) := by rw [headF_right hn6, if_pos h0]
  have hhd := Lib.hid (fun (V : World) (hb : Below w.heap.size w V) => hH ▸ head_any p os ds V (hp.below hb) (hS.below hb))
  obtain ⟨sa, n, c⟩ := s
  obtain ⟨b, o, rfl⟩ : ∃ b o, sa = some ⟨b, o, none⟩ := by
    rcases hs.at_ with ⟨_, h0, _⟩ | ⟨b, o, h1, _⟩
    · simp only at h0 h3; omega
    · exact ⟨b, o, h1⟩
  have hlen := Lib.hid hs.len
  simp only at hm h3 hlen
  have hdl := Lib.hid hp.d.len
  have h0' : (((20 : Int) + (p.o.n : Int)) == 0) = false := by simp; omega
  have h6 : (p.v != 4) = false := by simp [hn6]
  have hs := Lib.hid hs
  have hc0 : ((n : Int) == 0) = false := by simp; omega
  have hc1 : ((n : Int) == 1) = false := by simp; omega
  replace hn6 := Lib.hid hn6
  replace hn5 := Lib.hid hn5
  replace hH := Lib.hid hH
  clear h0
  go_enter Tryd.func16, Tryd.ntmps16
  go_wp2_with (first | (go_at_call 31; (with_reducible refine (hhd.out _ hX.bel).mono ?_); rintro e w1 ⟨rfl, hb⟩; have hX := hX.call hb; obtain ⟨hr, hl, _, _⟩ := pk_at hX.h0; clear hb) | (go_at_call 27; (with_reducible refine (hcar _ (hS.below hX.bel) (hp.o.below hX.bel)).mono ?_); rintro e w2 ⟨s3, rfl, hs3, hb⟩; have hs3 := hs3.mono (show w.heap.size ≤ _ from hX.bel.size); have hX := hX.call hb; obtain ⟨hr, hl, _, _⟩ := pk_at hX.h0; clear hb))
  try dsimp only [Act.put]
  go_loopw [8, 61] (fun at_ i wr => IsRel p os ds co M l s3 n w at_ i wr) (fun _ i _ => n - (intOf i).toNat)
  case atStart => exact ⟨0, 0, rfl, rfl, by omega, by omega, rfl, hX, hs3⟩
  case round =>
    clear hX hr hl hs3 hsr hd
    obtain ⟨k, a, rfl, rfl, hk, ha, hval, hX, hs3⟩ := hrel
    rename_i wr
    obtain ⟨hr, hl, _, _⟩ := pk_at hX.h0
    replace hval := Lib.hid hval
    have ha' : a ≤ p.d.n := by rw [← hdl.out]; exact ha
    by_cases hlt : k < n
    · obtain ⟨x, hx⟩ : ∃ x, l[k]? = some x := ⟨_, List.getElem?_eq_getElem (by rw [hlen.out]; exact hlt)⟩
      have hdrop := Lib.hid (show l.drop k = x :: l.drop (k + 1) by
        rw [List.drop_eq_getElem_cons (by rw [hlen.out]; exact hlt)]
        congr 1
        rw [List.getElem?_eq_getElem (by rw [hlen.out]; exact hlt)] at hx
        exact Option.some.inj hx)
      have hld := hs.out.load hx hX.bel
      have hpx := Lib.hid (hs.out.pk x (List.mem_of_getElem? hx))
      replace hx := Lib.hid hx
      have hdx := hpx.out.dm
      have hdxl := Lib.hid hpx.out.d.len
      have hhx := Lib.hid (fun (V : World) (hb : Below w.heap.size w V) => head_any x.p x.os x.ds V (hpx.out.below hb) (hS.below hb))
      have hnx := headF_nums hpx.out.o.len
      obtain ⟨hnx1, hnx2⟩ := hnx
      have hemp := Lib.hid (drop_empty (k := k) hlen.out)
      obtain ⟨sx, hsx1, hsx2, hsx3⟩ := sliced_bs hp.d a p.d.n ha' (Nat.le_refl _)
      rw [List.take_of_length_le (by simp [hp.d.len])] at hsx3
      have hcp := Lib.hid (fun (V : World) (h : Below w.heap.size w V) => hasPrefix_any sx x.p.d (ds.drop a) x.ds V (hsx3.below h) (hpx.out.d.below h) (by omega) hdx)
      have hsa0 : 0 ≤ (a : Int) := by omega
      have hsa1 : (a : Int) ≤ p.d.n := by omega
      replace hsx1 := Lib.hid (show sliced p.d.a (a : Int).toNat p.d.n p.d.c 1 = .slice sx.a sx.n sx.c from hsx1)
      clear hsx2 hsx3
      generalize hHH : headF x.p x.os = H at *
      replace hHH := Lib.hid hHH
      by_cases hk0 : k = 0
      · have hkb : ((k : Int) == 0) = true := by simp; omega
        have hkn : (k == 0) = true := by simp; omega
        rw [hkn] at hval
        clear hkn hk0
        by_cases hc1 : H = 0
        · have hz : (H == 0) = true := by simpa using hc1
          replace hc1 := Lib.hid hc1
          go_wp2_with (first | (refine wpList_storeA_bx rfl 28 (.tmp 11) (.tmp 65) rfl _ _ rfl rfl (bs := []) (hX.alloc (pkA zPk) 28) (by rw [pkA_size]; exact i28) (by rw [pkA_size, pkA_size]) (pkA_one _) ?_; intro W1 hX hg; have hX : Bx w W1 [_, _] := hX; have hs3 := (hs3.alloc _).box (heap_alloc_new _ _) (by decide) hg; obtain ⟨hr, hl, _, _⟩ := pk_at hX.h1; obtain ⟨hr', hl', _, _⟩ := pk_at hX.h0; clear hg) | (go_at_call 31; (with_reducible refine (hhx.out _ hX.bel).mono ?_); rintro e w1 ⟨rfl, hb⟩; have hX := hX.call hb; have hs3 := hs3.below hb; obtain ⟨hr, hl, _, _⟩ := pk_at hX.h1; obtain ⟨hr', hl', _, _⟩ := pk_at hX.h0; clear hb))
          go_ret
          exact RB.mk' (by rw [hval.out, hdrop.out, isF_no1 (.inl (by rw [hHH.out, hc1.out]))]; rfl) hX.bel
        have hz : (H == 0) = false := by simpa using hc1
        by_cases hc2 : M < H + (x.p.d.n : Int)
        · replace hc1 := Lib.hid hc1
          go_wp2_with (first | (refine wpList_storeA_bx rfl 28 (.tmp 11) (.tmp 65) rfl _ _ rfl rfl (bs := []) (hX.alloc (pkA zPk) 28) (by rw [pkA_size]; exact i28) (by rw [pkA_size, pkA_size]) (pkA_one _) ?_; intro W1 hX hg; have hX : Bx w W1 [_, _] := hX; have hs3 := (hs3.alloc _).box (heap_alloc_new _ _) (by decide) hg; obtain ⟨hr, hl, _, _⟩ := pk_at hX.h1; obtain ⟨hr', hl', _, _⟩ := pk_at hX.h0; clear hg) | (go_at_call 31; (with_reducible refine (hhx.out _ hX.bel).mono ?_); rintro e w1 ⟨rfl, hb⟩; have hX := hX.call hb; have hs3 := hs3.below hb; obtain ⟨hr, hl, _, _⟩ := pk_at hX.h1; obtain ⟨hr', hl', _, _⟩ := pk_at hX.h0; clear hb))
          go_ret
          exact RB.mk' (by rw [hval.out, hdrop.out, isF_no1 (.inr (.inl (by rw [hHH.out, hdxl.out]; exact hc2)))]; rfl) hX.bel
        replace hc1 := Lib.hid hc1
        go_wp2_with (first | (refine wpList_storeA_bx rfl 28 (.tmp 11) (.tmp 65) rfl _ _ rfl rfl (bs := []) (hX.alloc (pkA zPk) 28) (by rw [pkA_size]; exact i28) (by rw [pkA_size, pkA_size]) (pkA_one _) ?_; intro W1 hX hg; have hX : Bx w W1 [_, _] := hX; have hs3 := (hs3.alloc _).box (heap_alloc_new _ _) (by decide) hg; obtain ⟨hr, hl, _, _⟩ := pk_at hX.h1; obtain ⟨hr', hl', _, _⟩ := pk_at hX.h0; clear hg) | (go_at_call 31; (with_reducible refine (hhx.out _ hX.bel).mono ?_); rintro e w1 ⟨rfl, hb⟩; have hX := hX.call hb; have hs3 := hs3.below hb; obtain ⟨hr, hl, _, _⟩ := pk_at hX.h1; obtain ⟨hr', hl', _, _⟩ := pk_at hX.h0; clear hb))
        generalize wr.heap.size = b1 at *
        have hI : II p x.p w b1 s3 co w1 := ⟨hX, hs3⟩
        have hI := hI.drew
        have stab := Lib.hid (fun (W W' : World) (h : II p x.p w b1 s3 co W) (hb : Below W.heap.size W W') => h.call hb)
        have hce := Lib.hid (fun (V : World) (h : II p x.p w b1 s3 co V) => bytesEqual_any x.p.o p.o x.os os V (hpx.out.o.below h.x.bel) (hp.o.below h.x.bel))
        clear hr hl hr' hl'
        have hr := fun V : Wd (II p x.p w b1 s3 co) => (pk_at V.h.x.h1).1
        have hl := fun V : Wd (II p x.p w b1 s3 co) => (pk_at V.h.x.h1).2.1
        have hr' := fun V : Wd (II p x.p w b1 s3 co) => (pk_at V.h.x.h0).1
        have hl' := fun V : Wd (II p x.p w b1 s3 co) => (pk_at V.h.x.h0).2.1
        have hne : Nonempty (Wd (II p x.p w b1 s3 co)) := ⟨⟨_, hI⟩⟩
        by_cases hc3 : x.p.bare = p.bare
        case neg =>
          have hc3b : decide (x.p.bare = p.bare) = false := by simpa using hc3
          replace hc3 := Lib.hid hc3
          refine wp_region_in (II p x.p w b1 s3 co) (by kernel_rfl) (by kernel_rfl) hI ?_
          repeat (any_goals (first | go_big_quiet_step ((go_at_call 39; exact call_ins stab.out (fun V => fields_any _ _) _)) | quiet_step ((go_at_call 39; exact call_ins stab.out (fun V => fields_any _ _) _))))
          refine wpQuiet_nil ?_
          rintro _ ⟨V, rfl⟩
          have hI := V.h
          generalize V.w = W2 at *
          clear hr hl hr' hl'
          obtain ⟨hr, hl, _, _⟩ := pk_at hI.x.h1
          obtain ⟨hr', hl', _, _⟩ := pk_at hI.x.h0
          go_wp2
          go_ret
          exact RB.mk' (by rw [hval.out, hdrop.out, isF_no1 (.inr (.inr (.inl hc3.out)))]; rfl) hI.x.bel
        have hc3b : decide (x.p.bare = p.bare) = true := by simpa using hc3
        replace hc3 := Lib.hid hc3
        refine wp_region_in (II p x.p w b1 s3 co) (by kernel_rfl) (by kernel_rfl) hI ?_
        repeat (any_goals (first | go_big_quiet_step ((go_at_call 39; exact call_ins stab.out (fun V => fields_any _ _) _)) | quiet_step ((go_at_call 39; exact call_ins stab.out (fun V => fields_any _ _) _))))
        refine wpQuiet_nil ?_
        rintro _ ⟨V, rfl⟩
        have hI := V.h
        generalize V.w = W2 at *
        clear hr hl hr' hl'
        obtain ⟨hr, hl, _, _⟩ := pk_at hI.x.h1
        obtain ⟨hr', hl', _, _⟩ := pk_at hI.x.h0
        by_cases hc4 : x.os = os
        case neg =>
          have hc4b : decide (x.os = os) = false := by simpa using hc4
          replace hc4 := Lib.hid hc4
          rw [hc4b] at hce
          go_wp2_with (first | (go_at_call 40; (with_reducible refine (hce.out _ hI).mono ?_); rintro e w1 ⟨rfl, hb⟩; have hI := hI.call hb; obtain ⟨hr, hl, _, _⟩ := pk_at hI.x.h1; obtain ⟨hr', hl', _, _⟩ := pk_at hI.x.h0; clear hb))
          go_ret
          exact RB.mk' (by rw [hval.out, hdrop.out, isF_no1 (.inr (.inr (.inr hc4.out)))]; rfl) hI.x.bel
        have hc4b : decide (x.os = os) = true := by simpa using hc4
        replace hc4 := Lib.hid hc4
        rw [hc4b] at hce
        by_cases hc5 : x.p.off = p.off + a
        case neg =>
          have hc5b : (x.p.off != p.off + (a : Int)) = true := by simpa using hc5
          replace hc5 := Lib.hid hc5
          go_wp2_with (first | (go_at_call 40; (with_reducible refine (hce.out _ hI).mono ?_); rintro e w1 ⟨rfl, hb⟩; have hI := hI.call hb; obtain ⟨hr, hl, _, _⟩ := pk_at hI.x.h1; obtain ⟨hr', hl', _, _⟩ := pk_at hI.x.h0; clear hb))
          go_ret
          exact RB.mk' (by rw [hval.out, hdrop.out, isF_no2 (.inl hc5.out)]; rfl) hI.x.bel
        have hc5b : (x.p.off != p.off + (a : Int)) = false := by simpa using hc5
        replace hc5 := Lib.hid hc5
        go_wp2_with (first | (go_at_call 40; (with_reducible refine (hce.out _ hI).mono ?_); rintro e w1 ⟨rfl, hb⟩; have hI := hI.call hb; obtain ⟨hr, hl, _, _⟩ := pk_at hI.x.h1; obtain ⟨hr', hl', _, _⟩ := pk_at hI.x.h0; clear hb))
        by_cases hc6 : x.ds <+: ds.drop a
        case neg =>
          have hc6b : decide (x.ds <+: ds.drop a) = false := by simpa using hc6
          replace hc6 := Lib.hid hc6
          rw [hc6b] at hcp
          have hI := hI.drew
          clear hr hl hr' hl'
          have hr := fun V : Wd (II p x.p w b1 s3 co) => (pk_at V.h.x.h1).1
          have hr' := fun V : Wd (II p x.p w b1 s3 co) => (pk_at V.h.x.h0).1
          refine wp_region_in (II p x.p w b1 s3 co) (by kernel_rfl) (by kernel_rfl) hI ?_
          repeat (any_goals (first | (refine wpQuiet_slice_l rfl (.tmp 109) (.tmp 110) rfl p.d sx a rfl rfl hsx1.out hsa0 hsa1 ?_) | go_big_quiet_step ((go_at_call 41; exact call_ins stab.out (fun V => hcp.out V.w V.h.x.bel) _)) | quiet_step ((go_at_call 41; exact call_ins stab.out (fun V => hcp.out V.w V.h.x.bel) _))))
          refine wpQuiet_nil ?_
          rintro _ ⟨V, rfl⟩
          have hI := V.h
          generalize V.w = W2 at *
          clear hr hr'
          obtain ⟨hr, hl, _, _⟩ := pk_at hI.x.h1
          obtain ⟨hr', hl', _, _⟩ := pk_at hI.x.h0
          go_wp2
          go_ret
          exact RB.mk' (by rw [hval.out, hdrop.out, isF_no2 (.inr hc6.out)]; rfl) hI.x.bel
        have hc6b : decide (x.ds <+: ds.drop a) = true := by simpa using hc6
        rw [hc6b] at hcp
        have hlp : a + x.p.d.n ≤ p.d.n := by have := hc6.length_le; rw [List.length_drop, hdxl.out, hdl.out] at this; omega
        replace hc6 := Lib.hid hc6
        have hI := hI.drew
        clear hr hl hr' hl'
        have hr := fun V : Wd (II p x.p w b1 s3 co) => (pk_at V.h.x.h1).1
        have hr' := fun V : Wd (II p x.p w b1 s3 co) => (pk_at V.h.x.h0).1
        refine wp_region_in (II p x.p w b1 s3 co) (by kernel_rfl) (by kernel_rfl) hI ?_
        repeat (any_goals (first | (refine wpQuiet_slice_l rfl (.tmp 109) (.tmp 110) rfl p.d sx a rfl rfl hsx1.out hsa0 hsa1 ?_) | go_big_quiet_step ((go_at_call 41; exact call_ins stab.out (fun V => hcp.out V.w V.h.x.bel) _)) | quiet_step ((go_at_call 41; exact call_ins stab.out (fun V => hcp.out V.w V.h.x.bel) _))))
        refine wpQuiet_nil ?_
        rintro _ ⟨V, rfl⟩
        have hI := V.h
        generalize V.w = W2 at *
        clear hr hr'
        obtain ⟨hr, hl, _, _⟩ := pk_at hI.x.h1
        obtain ⟨hr', hl', _, _⟩ := pk_at hI.x.h0
        by_cases hla : k + 1 = n
        · have hkl : ((k : Int) == (n : Int) - 1) = true := by simp; omega
          have hem := Lib.hid (show (l.drop (k + 1)).isEmpty = true by rw [hemp.out]; simp; omega)
          cases hxm : x.p.more
          · have hxm2 := Lib.hid hxm
            cases hpm : p.more
            · have hpm2 := Lib.hid hpm
              go_wp2
              go_roundw
              case rel => exact ⟨k + 1, a + x.p.d.n, by go_num, by go_num, by omega, by rw [hdl.out]; exact hlp, by rw [hval.out, hdrop.out, isF_go (fun h => hc1.out (hHH.out ▸ h)) (by rw [hHH.out, hdxl.out]; omega) hc3.out (by rw [if_pos rfl]; exact hc4.out) hc5.out hc6.out (by rw [hem.out, hpm2.out, hxm2.out]; rfl), hdxl.out]; rfl, hI.x.tail, hI.o⟩
              case measure => simp [intOf]; omega
            · have hpm2 := Lib.hid hpm
              go_wp2
              go_ret
              exact RB.mk' (by rw [hval.out, hdrop.out, isF_no3 (by rw [hem.out, hxm2.out, hpm2.out]; simp)]; rfl) hI.x.bel
          · have hxm2 := Lib.hid hxm
            cases hpm : p.more
            · have hpm2 := Lib.hid hpm
              go_wp2
              go_ret
              exact RB.mk' (by rw [hval.out, hdrop.out, isF_no3 (by rw [hem.out, hxm2.out, hpm2.out]; simp)]; rfl) hI.x.bel
            · have hpm2 := Lib.hid hpm
              go_wp2
              go_roundw
              case rel => exact ⟨k + 1, a + x.p.d.n, by go_num, by go_num, by omega, by rw [hdl.out]; exact hlp, by rw [hval.out, hdrop.out, isF_go (fun h => hc1.out (hHH.out ▸ h)) (by rw [hHH.out, hdxl.out]; omega) hc3.out (by rw [if_pos rfl]; exact hc4.out) hc5.out hc6.out (by rw [hem.out, hpm2.out, hxm2.out]; rfl), hdxl.out]; rfl, hI.x.tail, hI.o⟩
              case measure => simp [intOf]; omega
        · have hkl : ((k : Int) == (n : Int) - 1) = false := by simp; omega
          have hem := Lib.hid (show (l.drop (k + 1)).isEmpty = false by rw [hemp.out]; simp; omega)
          cases hxm : x.p.more
          · have hxm2 := Lib.hid hxm
            go_wp2
            go_ret
            exact RB.mk' (by rw [hval.out, hdrop.out, isF_no3 (by rw [hem.out, hxm2.out]; simp)]; rfl) hI.x.bel
          · have hxm2 := Lib.hid hxm
            go_wp2
            go_roundw
            case rel => exact ⟨k + 1, a + x.p.d.n, by go_num, by go_num, by omega, by rw [hdl.out]; exact hlp, by rw [hval.out, hdrop.out, isF_go (fun h => hc1.out (hHH.out ▸ h)) (by rw [hHH.out, hdxl.out]; omega) hc3.out (by rw [if_pos rfl]; exact hc4.out) hc5.out hc6.out (by rw [hem.out, hxm2.out]; rfl), hdxl.out]; rfl, hI.x.tail, hI.o⟩
            case measure => simp [intOf]; omega
      · have hkb : ((k : Int) == 0) = false := by simp; omega
        have hkn : (k == 0) = false := by simp; omega
        rw [hkn] at hval
        clear hkn hk0
        by_cases hc1 : H = 0
        · have hz : (H == 0) = true := by simpa using hc1
          replace hc1 := Lib.hid hc1
          go_wp2_with (first | (refine wpList_storeA_bx rfl 28 (.tmp 11) (.tmp 65) rfl _ _ rfl rfl (bs := []) (hX.alloc (pkA zPk) 28) (by rw [pkA_size]; exact i28) (by rw [pkA_size, pkA_size]) (pkA_one _) ?_; intro W1 hX hg; have hX : Bx w W1 [_, _] := hX; have hs3 := (hs3.alloc _).box (heap_alloc_new _ _) (by decide) hg; obtain ⟨hr, hl, _, _⟩ := pk_at hX.h1; obtain ⟨hr', hl', _, _⟩ := pk_at hX.h0; clear hg) | (go_at_call 31; (with_reducible refine (hhx.out _ hX.bel).mono ?_); rintro e w1 ⟨rfl, hb⟩; have hX := hX.call hb; have hs3 := hs3.below hb; obtain ⟨hr, hl, _, _⟩ := pk_at hX.h1; obtain ⟨hr', hl', _, _⟩ := pk_at hX.h0; clear hb))
          go_ret
          exact RB.mk' (by rw [hval.out, hdrop.out, isF_no1 (.inl (by rw [hHH.out, hc1.out]))]; rfl) hX.bel
        have hz : (H == 0) = false := by simpa using hc1
        by_cases hc2 : M < H + (x.p.d.n : Int)
        · replace hc1 := Lib.hid hc1
          go_wp2_with (first | (refine wpList_storeA_bx rfl 28 (.tmp 11) (.tmp 65) rfl _ _ rfl rfl (bs := []) (hX.alloc (pkA zPk) 28) (by rw [pkA_size]; exact i28) (by rw [pkA_size, pkA_size]) (pkA_one _) ?_; intro W1 hX hg; have hX : Bx w W1 [_, _] := hX; have hs3 := (hs3.alloc _).box (heap_alloc_new _ _) (by decide) hg; obtain ⟨hr, hl, _, _⟩ := pk_at hX.h1; obtain ⟨hr', hl', _, _⟩ := pk_at hX.h0; clear hg) | (go_at_call 31; (with_reducible refine (hhx.out _ hX.bel).mono ?_); rintro e w1 ⟨rfl, hb⟩; have hX := hX.call hb; have hs3 := hs3.below hb; obtain ⟨hr, hl, _, _⟩ := pk_at hX.h1; obtain ⟨hr', hl', _, _⟩ := pk_at hX.h0; clear hb))
          go_ret
          exact RB.mk' (by rw [hval.out, hdrop.out, isF_no1 (.inr (.inl (by rw [hHH.out, hdxl.out]; exact hc2)))]; rfl) hX.bel
        replace hc1 := Lib.hid hc1
        go_wp2_with (first | (refine wpList_storeA_bx rfl 28 (.tmp 11) (.tmp 65) rfl _ _ rfl rfl (bs := []) (hX.alloc (pkA zPk) 28) (by rw [pkA_size]; exact i28) (by rw [pkA_size, pkA_size]) (pkA_one _) ?_; intro W1 hX hg; have hX : Bx w W1 [_, _] := hX; have hs3 := (hs3.alloc _).box (heap_alloc_new _ _) (by decide) hg; obtain ⟨hr, hl, _, _⟩ := pk_at hX.h1; obtain ⟨hr', hl', _, _⟩ := pk_at hX.h0; clear hg) | (go_at_call 31; (with_reducible refine (hhx.out _ hX.bel).mono ?_); rintro e w1 ⟨rfl, hb⟩; have hX := hX.call hb; have hs3 := hs3.below hb; obtain ⟨hr, hl, _, _⟩ := pk_at hX.h1; obtain ⟨hr', hl', _, _⟩ := pk_at hX.h0; clear hb))
        generalize wr.heap.size = b1 at *
        have hI : II p x.p w b1 s3 co w1 := ⟨hX, hs3⟩
        have hI := hI.drew
        have stab := Lib.hid (fun (W W' : World) (h : II p x.p w b1 s3 co W) (hb : Below W.heap.size W W') => h.call hb)
        have hce := Lib.hid (fun (V : World) (h : II p x.p w b1 s3 co V) => bytesEqual_any x.p.o s3 x.os co V (hpx.out.o.below h.x.bel) (h.o.bs))
        clear hr hl hr' hl'
        have hr := fun V : Wd (II p x.p w b1 s3 co) => (pk_at V.h.x.h1).1
        have hl := fun V : Wd (II p x.p w b1 s3 co) => (pk_at V.h.x.h1).2.1
        have hr' := fun V : Wd (II p x.p w b1 s3 co) => (pk_at V.h.x.h0).1
        have hl' := fun V : Wd (II p x.p w b1 s3 co) => (pk_at V.h.x.h0).2.1
        have hne : Nonempty (Wd (II p x.p w b1 s3 co)) := ⟨⟨_, hI⟩⟩
        by_cases hc3 : x.p.bare = p.bare
        case neg =>
          have hc3b : decide (x.p.bare = p.bare) = false := by simpa using hc3
          replace hc3 := Lib.hid hc3
          refine wp_region_in (II p x.p w b1 s3 co) (by kernel_rfl) (by kernel_rfl) hI ?_
          repeat (any_goals (first | go_big_quiet_step ((go_at_call 39; exact call_ins stab.out (fun V => fields_any _ _) _)) | quiet_step ((go_at_call 39; exact call_ins stab.out (fun V => fields_any _ _) _))))
          refine wpQuiet_nil ?_
          rintro _ ⟨V, rfl⟩
          have hI := V.h
          generalize V.w = W2 at *
          clear hr hl hr' hl'
          obtain ⟨hr, hl, _, _⟩ := pk_at hI.x.h1
          obtain ⟨hr', hl', _, _⟩ := pk_at hI.x.h0
          go_wp2
          go_ret
          exact RB.mk' (by rw [hval.out, hdrop.out, isF_no1 (.inr (.inr (.inl hc3.out)))]; rfl) hI.x.bel
        have hc3b : decide (x.p.bare = p.bare) = true := by simpa using hc3
        replace hc3 := Lib.hid hc3
        refine wp_region_in (II p x.p w b1 s3 co) (by kernel_rfl) (by kernel_rfl) hI ?_
        repeat (any_goals (first | go_big_quiet_step ((go_at_call 39; exact call_ins stab.out (fun V => fields_any _ _) _)) | quiet_step ((go_at_call 39; exact call_ins stab.out (fun V => fields_any _ _) _))))
        refine wpQuiet_nil ?_
        rintro _ ⟨V, rfl⟩
        have hI := V.h
        generalize V.w = W2 at *
        clear hr hl hr' hl'
        obtain ⟨hr, hl, _, _⟩ := pk_at hI.x.h1
        obtain ⟨hr', hl', _, _⟩ := pk_at hI.x.h0
        by_cases hc4 : x.os = co
        case neg =>
          have hc4b : decide (x.os = co) = false := by simpa using hc4
          replace hc4 := Lib.hid hc4
          rw [hc4b] at hce
          go_wp2_with (first | (go_at_call 40; (with_reducible refine (hce.out _ hI).mono ?_); rintro e w1 ⟨rfl, hb⟩; have hI := hI.call hb; obtain ⟨hr, hl, _, _⟩ := pk_at hI.x.h1; obtain ⟨hr', hl', _, _⟩ := pk_at hI.x.h0; clear hb))
          go_ret
          exact RB.mk' (by rw [hval.out, hdrop.out, isF_no1 (.inr (.inr (.inr hc4.out)))]; rfl) hI.x.bel
        have hc4b : decide (x.os = co) = true := by simpa using hc4
        replace hc4 := Lib.hid hc4
        rw [hc4b] at hce
        by_cases hc5 : x.p.off = p.off + a
        case neg =>
          have hc5b : (x.p.off != p.off + (a : Int)) = true := by simpa using hc5
          replace hc5 := Lib.hid hc5
          go_wp2_with (first | (go_at_call 40; (with_reducible refine (hce.out _ hI).mono ?_); rintro e w1 ⟨rfl, hb⟩; have hI := hI.call hb; obtain ⟨hr, hl, _, _⟩ := pk_at hI.x.h1; obtain ⟨hr', hl', _, _⟩ := pk_at hI.x.h0; clear hb))
          go_ret
          exact RB.mk' (by rw [hval.out, hdrop.out, isF_no2 (.inl hc5.out)]; rfl) hI.x.bel
        have hc5b : (x.p.off != p.off + (a : Int)) = false := by simpa using hc5
        replace hc5 := Lib.hid hc5
        go_wp2_with (first | (go_at_call 40; (with_reducible refine (hce.out _ hI).mono ?_); rintro e w1 ⟨rfl, hb⟩; have hI := hI.call hb; obtain ⟨hr, hl, _, _⟩ := pk_at hI.x.h1; obtain ⟨hr', hl', _, _⟩ := pk_at hI.x.h0; clear hb))
        by_cases hc6 : x.ds <+: ds.drop a
        case neg =>
          have hc6b : decide (x.ds <+: ds.drop a) = false := by simpa using hc6
          replace hc6 := Lib.hid hc6
          rw [hc6b] at hcp
          have hI := hI.drew
          clear hr hl hr' hl'
          have hr := fun V : Wd (II p x.p w b1 s3 co) => (pk_at V.h.x.h1).1
          have hr' := fun V : Wd (II p x.p w b1 s3 co) => (pk_at V.h.x.h0).1
          refine wp_region_in (II p x.p w b1 s3 co) (by kernel_rfl) (by kernel_rfl) hI ?_
          repeat (any_goals (first | (refine wpQuiet_slice_l rfl (.tmp 109) (.tmp 110) rfl p.d sx a rfl rfl hsx1.out hsa0 hsa1 ?_) | go_big_quiet_step ((go_at_call 41; exact call_ins stab.out (fun V => hcp.out V.w V.h.x.bel) _)) | quiet_step ((go_at_call 41; exact call_ins stab.out (fun V => hcp.out V.w V.h.x.bel) _))))
          refine wpQuiet_nil ?_
          rintro _ ⟨V, rfl⟩
          have hI := V.h
          generalize V.w = W2 at *
          clear hr hr'
          obtain ⟨hr, hl, _, _⟩ := pk_at hI.x.h1
          obtain ⟨hr', hl', _, _⟩ := pk_at hI.x.h0
          go_wp2
          go_ret
          exact RB.mk' (by rw [hval.out, hdrop.out, isF_no2 (.inr hc6.out)]; rfl) hI.x.bel
        have hc6b : decide (x.ds <+: ds.drop a) = true := by simpa using hc6
        rw [hc6b] at hcp
        have hlp : a + x.p.d.n ≤ p.d.n := by have := hc6.length_le; rw [List.length_drop, hdxl.out, hdl.out] at this; omega
        replace hc6 := Lib.hid hc6
        have hI := hI.drew
        clear hr hl hr' hl'
        have hr := fun V : Wd (II p x.p w b1 s3 co) => (pk_at V.h.x.h1).1
        have hr' := fun V : Wd (II p x.p w b1 s3 co) => (pk_at V.h.x.h0).1
        refine wp_region_in (II p x.p w b1 s3 co) (by kernel_rfl) (by kernel_rfl) hI ?_
        repeat (any_goals (first | (refine wpQuiet_slice_l rfl (.tmp 109) (.tmp 110) rfl p.d sx a rfl rfl hsx1.out hsa0 hsa1 ?_) | go_big_quiet_step ((go_at_call 41; exact call_ins stab.out (fun V => hcp.out V.w V.h.x.bel) _)) | quiet_step ((go_at_call 41; exact call_ins stab.out (fun V => hcp.out V.w V.h.x.bel) _))))
        refine wpQuiet_nil ?_
        rintro _ ⟨V, rfl⟩
        have hI := V.h
        generalize V.w = W2 at *
        clear hr hr'
        obtain ⟨hr, hl, _, _⟩ := pk_at hI.x.h1
        obtain ⟨hr', hl', _, _⟩ := pk_at hI.x.h0
        by_cases hla : k + 1 = n
        · have hkl : ((k : Int) == (n : Int) - 1) = true := by simp; omega
          have hem := Lib.hid (show (l.drop (k + 1)).isEmpty = true by rw [hemp.out]; simp; omega)
          cases hxm : x.p.more
          · have hxm2 := Lib.hid hxm
            cases hpm : p.more
            · have hpm2 := Lib.hid hpm
              go_wp2
              go_roundw
              case rel => exact ⟨k + 1, a + x.p.d.n, by go_num, by go_num, by omega, by rw [hdl.out]; exact hlp, by rw [hval.out, hdrop.out, isF_go (fun h => hc1.out (hHH.out ▸ h)) (by rw [hHH.out, hdxl.out]; omega) hc3.out (by rw [if_neg (by decide)]; exact hc4.out) hc5.out hc6.out (by rw [hem.out, hpm2.out, hxm2.out]; rfl), hdxl.out]; rfl, hI.x.tail, hI.o⟩
              case measure => simp [intOf]; omega
            · have hpm2 := Lib.hid hpm
              go_wp2
              go_ret
              exact RB.mk' (by rw [hval.out, hdrop.out, isF_no3 (by rw [hem.out, hxm2.out, hpm2.out]; simp)]; rfl) hI.x.bel
          · have hxm2 := Lib.hid hxm
            cases hpm : p.more
            · have hpm2 := Lib.hid hpm
              go_wp2
              go_ret
              exact RB.mk' (by rw [hval.out, hdrop.out, isF_no3 (by rw [hem.out, hxm2.out, hpm2.out]; simp)]; rfl) hI.x.bel
            · have hpm2 := Lib.hid hpm
              go_wp2
              go_roundw
              case rel => exact ⟨k + 1, a + x.p.d.n, by go_num, by go_num, by omega, by rw [hdl.out]; exact hlp, by rw [hval.out, hdrop.out, isF_go (fun h => hc1.out (hHH.out ▸ h)) (by rw [hHH.out, hdxl.out]; omega) hc3.out (by rw [if_neg (by decide)]; exact hc4.out) hc5.out hc6.out (by rw [hem.out, hpm2.out, hxm2.out]; rfl), hdxl.out]; rfl, hI.x.tail, hI.o⟩
              case measure => simp [intOf]; omega
        · have hkl : ((k : Int) == (n : Int) - 1) = false := by simp; omega
          have hem := Lib.hid (show (l.drop (k + 1)).isEmpty = false by rw [hemp.out]; simp; omega)
          cases hxm : x.p.more
          · have hxm2 := Lib.hid hxm
            go_wp2
            go_ret
            exact RB.mk' (by rw [hval.out, hdrop.out, isF_no3 (by rw [hem.out, hxm2.out]; simp)]; rfl) hI.x.bel
          · have hxm2 := Lib.hid hxm
            go_wp2
            go_roundw
            case rel => exact ⟨k + 1, a + x.p.d.n, by go_num, by go_num, by omega, by rw [hdl.out]; exact hlp, by rw [hval.out, hdrop.out, isF_go (fun h => hc1.out (hHH.out ▸ h)) (by rw [hHH.out, hdxl.out]; omega) hc3.out (by rw [if_neg (by decide)]; exact hc4.out) hc5.out hc6.out (by rw [hem.out, hxm2.out]; rfl), hdxl.out]; rfl, hI.x.tail, hI.o⟩
            case measure => simp [intOf]; omega
    · go_wp2
      go_ret
      have : k = n := by omega
      subst this
      refine RB.mk' ?_ hX.bel
      rw [hval.out, List.drop_eq_nil_of_le (by rw [hlen.out]; exact Nat.le_refl _), isF, hdl.out]
      rw [show decide (a = p.d.n) = ((a : Int) == (p.d.n : Int)) by rw [Bool.eq_iff_iff]; simp; omega]
      rfl
end Go.Proofs.YtleokgmflelkcaaDoor
namespace Go.Proofs.YtleokgmflelkcaaDoor
open Go Go.RowKit

/-- Is of any packet and any list; of Carry is asked only what it is asked for. -/
theorem is_any (p : Pk) (os ds co : List Int) (mtu : Int) (s : Sl) (l : List Fp) (w : World) (hp : PkIn w p os ds) (hS : Sh w) (hs : PkS w s l) (hm : s.n ≤ 925904528626)
    (hcar : right4F p os = true → p.df = false → 2 ≤ l.length → ∀ W, Sh W → Bs W p.o os → Calls Tryd.prog 27 #[.slice p.o.a p.o.n p.o.c] W (RS co W)) :
    Calls Tryd.prog 16 #[.agg (pkA p), .int .i64 mtu, .slice s.a s.n s.c] w (RB (.bool (isR p os ds co mtu l)) w) := by
  have hlen := hs.len
  by_cases h1 : headF p os = 0 ∨ mtu < 68 ∨ mtu > 65535 ∨ s.n = 0
  · have : isR p os ds co mtu l = false := by unfold isR; rw [hlen, if_pos h1]
    rw [this]
    exact is_err p os ds mtu s w hp hS (by omega)
  have hb : headF p os ≠ 0 ∧ 68 ≤ mtu ∧ mtu ≤ 65535 ∧ s.n ≠ 0 := ⟨fun h => h1 (.inl h), by omega, by omega, fun h => h1 (.inr (.inr (.inr h)))⟩
  match l, hlen, hs, hcar with
  | [], hlen, _, _ => exact absurd hlen.symm hb.2.2.2
  | [x], hlen, hs, _ =>
    have : isR p os ds co mtu [x] = (sameP p x.p os ds x.os x.ds && decide (headF p os + ds.length ≤ mtu)) := by unfold isR; rw [hlen, if_neg h1]
    rw [this]
    exact is_one p os ds mtu s x w hp hS hs hb.1 hb.2.1 hb.2.2.1
  | x :: y :: l, hlen, hs, hcar =>
    have h2 : 2 ≤ s.n := by rw [← hlen]; simp
    by_cases h3 : p.v ≠ 4 ∨ p.df = true
    · have : isR p os ds co mtu (x :: y :: l) = false := by unfold isR; rw [hlen, if_neg h1]; exact if_pos h3
      rw [this]
      exact is_no p os ds mtu s w hp hS hb.1 hb.2.1 hb.2.2.1 h2 h3
    · have : isR p os ds co mtu (x :: y :: l) = isF p os ds co mtu true 0 (x :: y :: l) := by unfold isR; rw [hlen, if_neg h1]; exact if_neg h3
      rw [this]
      have h4 : p.v = 4 := by by_cases h : p.v = 4; exact h; exact absurd (.inl h) h3
      have h5 : p.df = false := by cases h : p.df; rfl; exact absurd (.inr h) h3
      have h6 := headF_right (os := os) h4
      have h7 : right4F p os = true := by
        cases h : right4F p os
        · rw [h] at h6; exact absurd (by simpa using h6) hb.1
        · rfl
      exact is_list p os ds co mtu s _ w hp hS hs hm h7 hb.2.1 hb.2.2.1 h2 h5 (hcar h7 h5 (by simp))
end Go.Proofs.YtleokgmflelkcaaDoor
