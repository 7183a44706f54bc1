/- recut.end. recut.Is: what it computes; its refusals. -/
import Derived.Test.YtleokgmflelkcaaDoorVA24
set_option linter.unusedSimpArgs false
set_option linter.unusedVariables false
namespace Go.Proofs.YtleokgmflelkcaaDoor
open Go Go.RowKit

/-- The one packet without More from place i on, at: what was found before; none: the list is refused. -/
def endF (k0 : Ky) : Nat → Int → List Fp → Option Int
  | _, at_, [] => some at_
  | i, at_, x :: l => if headF x.p x.os = 0 ∨ x.p.key ≠ k0 ∨ (x.p.more = false ∧ 0 ≤ at_) then none else endF k0 (i + 1) (if x.p.more then at_ else i) l
def endR (l : List Fp) : Option Int :=
  match l with
  | [] => some (-1)
  | x :: _ => endF x.p.key 0 (-1) l
def RE (r : Option Int) (w : World) (e : Ending) (w' : World) : Prop := e = .returned (.tuple #[.int .i64 (r.getD 0), .bool r.isSome]) ∧ Below w.heap.size w w'

theorem PkS.load0 {w : World} {b o n c : Nat} {x : Fp} {l : List Fp} (h : PkS w ⟨some ⟨b, o, none⟩, n, c⟩ (x :: l)) {W : World} (hb : Below w.heap.size w W) : loadN Tryd.prog W ⟨b, o, none⟩ 46 = .ok (pkA x.p) W := by
  simpa using h.load (i := 0) (x := x) rfl hb

def EndRel (l : List Fp) (n : Nat) (w : World) (at_ i : Value) (wr : World) : Prop :=
  ∃ (k : Nat) (a : Int), i = .int .i64 k ∧ at_ = .int .i64 a ∧ k ≤ n ∧ -1 ≤ a ∧ a < (k : Int) ∧ (∀ x0 l0, l = x0 :: l0 → endR l = endF x0.p.key k a (l.drop k)) ∧ Below w.heap.size w wr

set_option maxRecDepth 100000 in
set_option maxHeartbeats 1000000 in
theorem end_any (s : Sl) (l : List Fp) (w : World) (hs : PkS w s l) (hm : s.n ≤ 925904528626) (hS : Sh w) : Calls Tryd.prog 42 #[.slice s.a s.n s.c] w (RE (endR l) w) := by
  have hlen := Lib.hid hs.len
  by_cases hn : s.n = 0
  · have : l = [] := List.eq_nil_of_length_eq_zero (by rw [hs.len, hn])
    subst this
    rw [hn]
    go_enter Tryd.func42, Tryd.ntmps42
    go_wp2
    go_loopw [4, 9] (fun at_ i wr => at_ = .int .i64 (-1) ∧ i = .int .i64 0 ∧ wr = w) (fun _ _ _ => 0)
    case atStart => exact ⟨rfl, rfl, rfl⟩
    case round =>
      obtain ⟨rfl, rfl, rfl⟩ := hrel
      go_wp2
      go_ret2
      exact ⟨rfl, Below.refl _ _⟩
  obtain ⟨x0, l0, rfl⟩ : ∃ x0 l0, l = x0 :: l0 := by
    cases l with
    | nil => exact absurd hs.len.symm hn
    | cons a l => exact ⟨a, l, rfl⟩
  obtain ⟨sa, n, c⟩ := s
  simp only at hm hn
  obtain ⟨b, o, rfl⟩ : ∃ b o, sa = some ⟨b, o, none⟩ := by
    rcases hs.at_ with ⟨_, h0, _⟩ | ⟨b, o, h1, _⟩
    · exact absurd h0 hn
    · exact ⟨b, o, h1⟩
  have hn0 : 0 < n := by omega
  replace hs := Lib.hid hs
  clear hn
  go_enter Tryd.func42, Tryd.ntmps42
  go_wp2
  go_loopw [4, 9] (fun at_ i wr => EndRel (x0 :: l0) n w at_ i wr) (fun _ i _ => n - (intOf i).toNat)
  case atStart => exact ⟨0, -1, rfl, rfl, by omega, by omega, by omega, fun x0 l0 h => by cases h; rfl, Below.refl _ _⟩
  case round =>
    obtain ⟨k, a, rfl, rfl, hk, ha1, ha2, hval, hB⟩ := hrel
    replace hval := Lib.hid (hval x0 l0 rfl)
    rename_i wr
    by_cases hlt : k < n
    · obtain ⟨x, hx⟩ : ∃ x, (x0 :: l0)[k]? = some x := ⟨_, List.getElem?_eq_getElem (by rw [hlen.out]; exact hlt)⟩
      have hdrop := Lib.hid (show (x0 :: l0).drop k = x :: (x0 :: l0).drop (k + 1) by
        rw [List.drop_eq_getElem_cons (by rw [hlen.out]; exact hlt)]
        congr 1
        rw [List.getElem?_eq_getElem (by rw [hlen.out]; exact hlt)] at hx
        exact Option.some.inj hx)
      have hld := hs.out.load hx hB
      have hpx := Lib.hid (hs.out.pk x (List.mem_of_getElem? hx))
      replace hx := Lib.hid hx
      have hX0 : Bx w wr [] := ⟨hB, (fun x h => by cases h), List.nodup_nil⟩
      have hX := hX0.alloc (pkA zPk) 28
      go_wp2_with (first | (refine wpList_storeA_bx rfl 28 (.tmp 6) (.tmp 13) rfl _ _ rfl rfl (bs := []) hX (by rw [pkA_size]; exact i28) (by rw [pkA_size, pkA_size]) (pkA_one _) ?_; intro W1 hX hg; have hX : Bx w W1 [_] := hX; clear hg))
      generalize hb6 : wr.heap.size = b6 at *
      have hI := hX.drew
      have stab := Lib.hid (fun (W W' : World) (h : Bx w W [(b6, 28, pkA x.p)]) (hb : Below W.heap.size W W') => h.call hb)
      have hhd := Lib.hid (fun (V : World) (h : Bx w V [(b6, 28, pkA x.p)]) => head_any x.p x.os x.ds V (hpx.out.below h.bel) (hS.below h.bel))
      have hr := fun V : Wd (fun V => Bx w V [(b6, 28, pkA x.p)]) => (pk_at V.h.h0).1
      have hl := fun V : Wd (fun V => Bx w V [(b6, 28, pkA x.p)]) => (pk_at V.h.h0).2.1
      have hl0 := fun V : Wd (fun V => Bx w V [(b6, 28, pkA x.p)]) => hs.out.load0 V.h.bel
      have hne : Nonempty (Wd (fun V => Bx w V [(b6, 28, pkA x.p)])) := ⟨⟨_, hI⟩⟩
      clear hX0 hld
      by_cases h1 : headF x.p x.os = 0
      · have h1' : (headF x.p x.os == 0) = true := by simpa using h1
        have hcond := Lib.hid (show headF x.p x.os = 0 ∨ x.p.key ≠ x0.p.key ∨ (x.p.more = false ∧ 0 ≤ a) from .inl h1)
        clear h1
        refine wp_region_in (fun V => Bx w V [(b6, 28, pkA x.p)]) (by kernel_rfl) (by kernel_rfl) hI ?_
        repeat (any_goals (first | go_big_quiet_step ((first | (go_at_call 31; exact call_ins stab.out (fun V => hhd.out V.w V.h) _) | (go_at_call 68; exact call_ins stab.out (fun V => key_any _ _) _))) | quiet_step ((first | (go_at_call 31; exact call_ins stab.out (fun V => hhd.out V.w V.h) _) | (go_at_call 68; exact call_ins stab.out (fun V => key_any _ _) _)))))
        refine wpQuiet_nil ?_
        rintro _ ⟨V, rfl⟩
        have hX := V.h
        obtain ⟨hr1, hl1, _, _⟩ := pk_at hX.h0
        go_wp2
        go_ret2
        rw [hval.out, hdrop.out, endF, if_pos hcond.out]
        exact ⟨rfl, hX.bel⟩
      have h1' : (headF x.p x.os == 0) = false := by simpa using h1
      by_cases h2 : x.p.key = x0.p.key
      case neg =>
        have h2' : decide (x.p.key = x0.p.key) = false := by simpa using h2
        have hcond := Lib.hid (show headF x.p x.os = 0 ∨ x.p.key ≠ x0.p.key ∨ (x.p.more = false ∧ 0 ≤ a) from .inr (.inl h2))
        clear h1 h2
        refine wp_region_in (fun V => Bx w V [(b6, 28, pkA x.p)]) (by kernel_rfl) (by kernel_rfl) hI ?_
        repeat (any_goals (first | go_big_quiet_step ((first | (go_at_call 31; exact call_ins stab.out (fun V => hhd.out V.w V.h) _) | (go_at_call 68; exact call_ins stab.out (fun V => key_any _ _) _))) | quiet_step ((first | (go_at_call 31; exact call_ins stab.out (fun V => hhd.out V.w V.h) _) | (go_at_call 68; exact call_ins stab.out (fun V => key_any _ _) _)))))
        refine wpQuiet_nil ?_
        rintro _ ⟨V, rfl⟩
        have hX := V.h
        obtain ⟨hr1, hl1, _, _⟩ := pk_at hX.h0
        go_wp2
        go_ret2
        rw [hval.out, hdrop.out, endF, if_pos hcond.out]
        exact ⟨rfl, hX.bel⟩
      have h2' : decide (x.p.key = x0.p.key) = true := by simpa using h2
      cases hmore : x.p.more
      · by_cases h3 : 0 ≤ a
        · have hcond := Lib.hid (show headF x.p x.os = 0 ∨ x.p.key ≠ x0.p.key ∨ (x.p.more = false ∧ 0 ≤ a) from .inr (.inr ⟨hmore, h3⟩))
          clear h1 h2
          refine wp_region_in (fun V => Bx w V [(b6, 28, pkA x.p)]) (by kernel_rfl) (by kernel_rfl) hI ?_
          repeat (any_goals (first | go_big_quiet_step ((first | (go_at_call 31; exact call_ins stab.out (fun V => hhd.out V.w V.h) _) | (go_at_call 68; exact call_ins stab.out (fun V => key_any _ _) _))) | quiet_step ((first | (go_at_call 31; exact call_ins stab.out (fun V => hhd.out V.w V.h) _) | (go_at_call 68; exact call_ins stab.out (fun V => key_any _ _) _)))))
          refine wpQuiet_nil ?_
          rintro _ ⟨V, rfl⟩
          have hX := V.h
          obtain ⟨hr1, hl1, _, _⟩ := pk_at hX.h0
          go_wp2
          go_ret2
          rw [hval.out, hdrop.out, endF, if_pos hcond.out]
          exact ⟨rfl, hX.bel⟩
        · have hcond := Lib.hid (show ¬ (headF x.p x.os = 0 ∨ x.p.key ≠ x0.p.key ∨ (x.p.more = false ∧ 0 ≤ a)) from fun h => h.elim h1 (fun h => h.elim (fun h => h h2) (fun h => h3 h.2)))
          have h3' : a < 0 := by omega
          clear h1 h2 h3
          refine wp_region_in (fun V => Bx w V [(b6, 28, pkA x.p)]) (by kernel_rfl) (by kernel_rfl) hI ?_
          repeat (any_goals (first | go_big_quiet_step ((first | (go_at_call 31; exact call_ins stab.out (fun V => hhd.out V.w V.h) _) | (go_at_call 68; exact call_ins stab.out (fun V => key_any _ _) _))) | quiet_step ((first | (go_at_call 31; exact call_ins stab.out (fun V => hhd.out V.w V.h) _) | (go_at_call 68; exact call_ins stab.out (fun V => key_any _ _) _)))))
          refine wpQuiet_nil ?_
          rintro _ ⟨V, rfl⟩
          have hX := V.h
          obtain ⟨hr1, hl1, _, _⟩ := pk_at hX.h0
          go_wp2
          go_roundw
          case rel => exact ⟨k + 1, k, by go_num, rfl, by omega, by omega, by omega, fun x1 l1 h => (by cases h; rw [hval.out, hdrop.out, endF, if_neg hcond.out]; simp [hmore]), hX.bel⟩
          case measure => simp [intOf]; omega
      · have hcond := Lib.hid (show ¬ (headF x.p x.os = 0 ∨ x.p.key ≠ x0.p.key ∨ (x.p.more = false ∧ 0 ≤ a)) from fun h => h.elim h1 (fun h => h.elim (fun h => h h2) (fun h => by rw [hmore] at h; exact absurd h.1 (by decide))))
        clear h1 h2
        refine wp_region_in (fun V => Bx w V [(b6, 28, pkA x.p)]) (by kernel_rfl) (by kernel_rfl) hI ?_
        repeat (any_goals (first | go_big_quiet_step ((first | (go_at_call 31; exact call_ins stab.out (fun V => hhd.out V.w V.h) _) | (go_at_call 68; exact call_ins stab.out (fun V => key_any _ _) _))) | quiet_step ((first | (go_at_call 31; exact call_ins stab.out (fun V => hhd.out V.w V.h) _) | (go_at_call 68; exact call_ins stab.out (fun V => key_any _ _) _)))))
        refine wpQuiet_nil ?_
        rintro _ ⟨V, rfl⟩
        have hX := V.h
        obtain ⟨hr1, hl1, _, _⟩ := pk_at hX.h0
        go_wp2
        go_roundw
        case rel => exact ⟨k + 1, a, by go_num, rfl, by omega, by omega, by omega, fun x1 l1 h => (by cases h; rw [hval.out, hdrop.out, endF, if_neg hcond.out]; simp [hmore]), hX.bel⟩
        case measure => simp [intOf]; omega
    · go_wp2
      go_ret2
      have : k = n := by omega
      subst this
      rw [hval.out, List.drop_eq_nil_of_le (by rw [hlen.out]; exact Nat.le_refl _)]
      exact ⟨rfl, hB⟩
end Go.Proofs.YtleokgmflelkcaaDoor
namespace Go.Proofs.YtleokgmflelkcaaDoor
open Go Go.RowKit

/-- Pieces of a packet from place at on (i: is it the first?). -/
def isF (p : Pk) (os ds co : List Int) (mtu : Int) : Bool → Nat → List Fp → Bool
  | _, at_, [] => decide (at_ = ds.length)
  | first, at_, x :: l => if headF x.p x.os = 0 ∨ headF x.p x.os + x.ds.length > mtu ∨ x.p.bare ≠ p.bare ∨ x.os ≠ (if first then os else co) then false
    else if x.p.off ≠ p.off + at_ ∨ ¬ x.ds <+: ds.drop at_ then false
    else if x.p.more ≠ (!(l.isEmpty) || p.more) then false
    else isF p os ds co mtu false (at_ + x.ds.length) l
def isR (p : Pk) (os ds co : List Int) (mtu : Int) (l : List Fp) : Bool :=
  if headF p os = 0 ∨ mtu < 68 ∨ mtu > 65535 ∨ l.length = 0 then false
  else match l with
  | [x] => sameP p x.p os ds x.os x.ds && decide (headF p os + ds.length ≤ mtu)
  | _ => if p.v ≠ 4 ∨ p.df = true then false else isF p os ds co mtu true 0 l

set_option maxRecDepth 100000 in
set_option maxHeartbeats 1000000 in
theorem is_err (p : Pk) (os ds : List Int) (mtu : Int) (s : Sl) (w : World) (hp : PkIn w p os ds) (hS : Sh w) (h : headF p os = 0 ∨ mtu < 68 ∨ mtu > 65535 ∨ s.n = 0) : Calls Tryd.prog 16 #[.agg (pkA p), .int .i64 mtu, .slice s.a s.n s.c] w (RB (.bool false) w) := by
  have hX := (Bx.start w).alloc (pkA p) 28
  obtain ⟨hr, hl, hs, hd⟩ := pk_at hX.h0
  generalize hH : headF p os = H at *
  by_cases h0 : H = 0
  · subst h0
    clear h
    go_enter Tryd.func16, Tryd.ntmps16
    go_wp2_with (first | (go_at_call 31; (with_reducible refine (head_any p os ds _ (hp.below hX.bel) (hS.below hX.bel)).mono ?_); rintro e w1 ⟨rfl, hb⟩; rw [hH]; have hX := hX.call hb; obtain ⟨hr, hl, hs, hd⟩ := pk_at hX.h0; clear hb))
    go_ret
    exact RB.mk' rfl hX.bel
  have h0' : (H == 0) = false := by simpa using h0
  by_cases h1 : mtu < 68
  · clear h h0
    go_enter Tryd.func16, Tryd.ntmps16
    go_wp2_with (first | (go_at_call 31; (with_reducible refine (head_any p os ds _ (hp.below hX.bel) (hS.below hX.bel)).mono ?_); rintro e w1 ⟨rfl, hb⟩; rw [hH]; have hX := hX.call hb; obtain ⟨hr, hl, hs, hd⟩ := pk_at hX.h0; clear hb))
    go_ret
    exact RB.mk' rfl hX.bel
  have h1' : 68 ≤ mtu := by omega
  by_cases h2 : 65535 < mtu
  · clear h h0 h1
    go_enter Tryd.func16, Tryd.ntmps16
    go_wp2_with (first | (go_at_call 31; (with_reducible refine (head_any p os ds _ (hp.below hX.bel) (hS.below hX.bel)).mono ?_); rintro e w1 ⟨rfl, hb⟩; rw [hH]; have hX := hX.call hb; obtain ⟨hr, hl, hs, hd⟩ := pk_at hX.h0; clear hb))
    go_ret
    exact RB.mk' rfl hX.bel
  have h2' : mtu ≤ 65535 := by omega
  have h3 : s.n = 0 := by omega
  rw [h3]
  clear h h0 h1 h2
  go_enter Tryd.func16, Tryd.ntmps16
  go_wp2_with (first | (go_at_call 31; (with_reducible refine (head_any p os ds _ (hp.below hX.bel) (hS.below hX.bel)).mono ?_); rintro e w1 ⟨rfl, hb⟩; rw [hH]; have hX := hX.call hb; obtain ⟨hr, hl, hs, hd⟩ := pk_at hX.h0; clear hb))
  go_ret
  exact RB.mk' rfl hX.bel
end Go.Proofs.YtleokgmflelkcaaDoor
