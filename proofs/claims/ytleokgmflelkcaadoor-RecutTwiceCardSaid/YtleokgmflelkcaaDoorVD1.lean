/- mosaicref11.at and mosaiclaw11.owns. mosaicref11.fits. -/
import Derived.Test.YtleokgmflelkcaaDoorVA22
import Derived.Test.YtleokgmflelkcaaDoorVA18
import Derived.Test.YtleokgmflelkcaaDoorVB4
set_option linter.unusedSimpArgs false
set_option linter.unusedVariables false
namespace Go.Proofs.YtleokgmflelkcaaDoor
open Go Go.RowKit

theorem dropC {α : Type} {l : List α} {k : Nat} {x : α} (h : l[k]? = some x) : l.drop k = x :: l.drop (k + 1) := by
  have hk := (List.getElem?_eq_some_iff.1 h).1
  rw [List.drop_eq_getElem_cons hk]
  congr 1
  rw [List.getElem?_eq_getElem hk] at h
  exact Option.some.inj h
theorem takeS {α : Type} {l : List α} {k : Nat} {x : α} (h : l[k]? = some x) : l.take (k + 1) = l.take k ++ [x] := by
  rw [List.take_add_one, h]; rfl

/-- The place of the first packet that begins there; -1: none does. -/
def atF (off : Int) : Nat → List Fp → Int
  | _, [] => -1
  | i, x :: l => if x.p.off = off then i else atF off (i + 1) l

def AtRel (l : List Fp) (off : Int) (n : Nat) (i : Value) : Prop := ∃ k : Nat, i = .int .i64 k ∧ k ≤ n ∧ atF off 0 l = atF off k (l.drop k)

theorem PkS.fields {w : World} {b o n c : Nat} {l : List Fp} (h : PkS w ⟨some ⟨b, o, none⟩, n, c⟩ l) {i : Nat} {x : Fp} (hx : l[i]? = some x) {W : World} (hb : Below w.heap.size w W) (j : Nat) (hj : j < 46) :
    W.cell? ⟨b, o + i * 46 + j, none⟩ = (pkA x.p)[j]? := by
  rcases h.at_ with ⟨h0, _⟩ | ⟨b', o', h1, h2, h3⟩
  · cases h0
  · cases h1
    exact (h3 i x hx).below hb h2 j (by rw [pkA_size]; exact hj)

set_option maxRecDepth 100000 in
theorem at_any (s : Sl) (l : List Fp) (off : Int) (w : World) (hs : PkS w s l) (hm : s.n ≤ 925904528626) : Calls Tryd.prog 48 #[.slice s.a s.n s.c, .int .i64 off] w (RB (.int .i64 (atF off 0 l)) w) := by
  have hlen := Lib.hid hs.len
  obtain ⟨sa, n, c⟩ := s
  simp only at hm hlen
  rcases hs.at_ with ⟨rfl, rfl, rfl⟩ | ⟨b, o, rfl, hb, _⟩
  · obtain rfl : l = [] := List.eq_nil_of_length_eq_zero hlen.out
    go_enter Tryd.func48, Tryd.ntmps48
    go_wp2
    go_loop [5] (fun i => i = .int .i64 0) (fun _ => 0)
    case atStart => rfl
    case round =>
      subst hrel
      go_wp2
      go_ret
      exact RB.mk' rfl (Below.refl _ _)
  replace hs := Lib.hid hs
  go_enter Tryd.func48, Tryd.ntmps48
  go_wp2
  go_loop [5] (fun i => AtRel l off n i) (fun i => n - (intOf i).toNat)
  case atStart => exact ⟨0, rfl, by omega, rfl⟩
  case round =>
    obtain ⟨k, rfl, hk, hval⟩ := hrel
    replace hval := Lib.hid hval
    by_cases hlt : k < n
    · obtain ⟨x, hx⟩ : ∃ x, l[k]? = some x := ⟨_, List.getElem?_eq_getElem (by rw [hlen.out]; exact hlt)⟩
      have hdrop := Lib.hid (dropC hx)
      have hc := (hs.out.fields hx (Below.refl _ _) 43 (by decide)).trans (pkA_43 _)
      replace hx := Lib.hid hx
      by_cases he : x.p.off = off
      · have he' : (x.p.off == off) = true := by simpa using he
        replace he := Lib.hid he
        go_wp2
        go_ret
        exact RB.mk' (by rw [hval.out, hdrop.out, atF, if_pos he.out]; rfl) (Below.refl _ _)
      · have he' : (x.p.off == off) = false := by simpa using he
        replace he := Lib.hid he
        go_wp2
        go_round
        case rel => exact ⟨k + 1, by go_num, by omega, by rw [hval.out, hdrop.out, atF, if_neg he.out]⟩
        case measure => simp [intOf]; omega
    · go_wp2
      go_ret
      have : k = n := by omega
      subst this
      exact RB.mk' (by rw [hval.out, List.drop_eq_nil_of_le (by rw [hlen.out]; exact Nat.le_refl _)]; rfl) (Below.refl _ _)

/-- A list of packets in the call's own memory. -/
def RPs (l : List Mp) (w : World) (e : Ending) (w' : World) : Prop := ∃ v, e = .returned v ∧ PkRow w.heap.size w' v l.length l ∧ Below w.heap.size w w'

def OwRel (l : List Fp) (n : Nat) (w : World) (out i : Value) (wr : World) : Prop :=
  ∃ (k : Nat) (v : Sl), i = .int .i64 k ∧ out = .slice v.a v.n v.c ∧ k ≤ n ∧ PkRow w.heap.size wr (.slice v.a v.n v.c) k ((l.take k).map Fp.mp) ∧ Below w.heap.size w wr

set_option maxRecDepth 100000 in
set_option maxHeartbeats 1000000 in
theorem owns_any (s : Sl) (l : List Fp) (w : World) (hs : PkS w s l) (hm : s.n ≤ 925904528626) : Calls Tryd.prog 17 #[.slice s.a s.n s.c] w (RPs (l.map Fp.mp) w) := by
  have hlen := Lib.hid hs.len
  obtain ⟨sa, n, c⟩ := s
  simp only at hm hlen
  rcases hs.at_ with ⟨rfl, rfl, rfl⟩ | ⟨b, o, rfl, hb, _⟩
  · obtain rfl : l = [] := List.eq_nil_of_length_eq_zero hlen.out
    go_enter Tryd.func17, Tryd.ntmps17
    go_wp2
    go_loop [3, 4] (fun o i => o = .slice none 0 0 ∧ i = .int .i64 0) (fun _ _ => 0)
    case atStart => exact ⟨rfl, rfl⟩
    case round =>
      obtain ⟨rfl, rfl⟩ := hrel
      go_wp2
      go_ret
      exact ⟨_, rfl, PkRow.nil _ _, Below.refl _ _⟩
  replace hs := Lib.hid hs
  go_enter Tryd.func17, Tryd.ntmps17
  go_wp2
  go_loopw [3, 4] (fun out i wr => OwRel l n w out i wr) (fun _ i _ => n - (intOf i).toNat)
  case atStart => exact ⟨0, ⟨none, 0, 0⟩, rfl, rfl, by omega, PkRow.nil _ _, Below.refl _ _⟩
  case round =>
    obtain ⟨k, v, rfl, rfl, hk, hrow, hB⟩ := hrel
    rename_i wr
    by_cases hlt : k < n
    · obtain ⟨x, hx⟩ : ∃ x, l[k]? = some x := ⟨_, List.getElem?_eq_getElem (by rw [hlen.out]; exact hlt)⟩
      have htake := Lib.hid (takeS hx)
      have hld := hs.out.load hx hB
      have hpx := Lib.hid (hs.out.pk x (List.mem_of_getElem? hx))
      have hk2 := Lib.hid (show k ≤ 925904528626 by omega)
      replace hx := Lib.hid hx
      go_wp2_with (first | (go_at_call 12; (with_reducible refine (lawown_any x.p x.os x.ds _ (hpx.out.below hB)).mono ?_); rintro e w1 ⟨s1, s2, rfl, hs1, hs2, hb⟩; have hs1 := hs1.mono hB.size; have hs2 := hs2.mono hB.size; have hrow := hrow.below hb; have hB1 := hB.trans (hb.mono hB.size); clear hb) | (refine wpList_build_pk rfl (.tmp 16) rfl { x.p with o := s1, d := s2 } rfl ?_) | (at_builtin; refine wpList_append_pk rfl _ _ rfl w.heap.size _ k _ rfl (hrow.below ((Below.refl _ _).alloc (Nat.le_refl _) _)) { x.p with o := s1, d := s2 } x.mp _ rfl (heap_alloc_new _ _) ⟨rfl, rfl, rfl, hs1.alloc _, hs2.alloc _⟩ hk2.out (size_le_alloc hB1.size _) ?_; intro v' w4 hrow4 hb4 _; obtain ⟨-, s4, rfl, -⟩ := hrow4.form))
      go_roundw
      case rel => exact ⟨k + 1, s4, by go_num, rfl, by omega, by rw [htake.out, List.map_append]; exact hrow4, (hB1.alloc hB1.size _).trans hb4⟩
      case measure => simp [intOf]; omega
    · go_wp2
      go_ret
      have : k = n := by omega
      subst this
      refine ⟨_, rfl, ?_, hB⟩
      rw [List.take_of_length_le (by rw [hlen.out]; exact Nat.le_refl _)] at hrow
      rw [List.length_map, hlen.out]
      exact hrow
end Go.Proofs.YtleokgmflelkcaaDoor
namespace Go.Proofs.YtleokgmflelkcaaDoor
open Go Go.RowKit

theorem right_nums' {p : Pk} {os : List Int} (h : rightF p os = true) : 0 ≤ p.off ∧ p.off + p.d.n ≤ 65535 ∧ (p.v = 4 ∨ p.v = 6) := by
  refine right_nums (os := os) ?_
  unfold headF
  rw [if_pos h]
  by_cases h4 : p.v = 4
  · rw [if_pos h4]; omega
  · rw [if_neg h4]; unfold head6F; split <;> omega

/-- Have the ranges of two packets an offset in common? -/
def ovl (x y : Fp) : Bool := decide (y.p.off < endsF x) && decide (x.p.off < endsF y)
def fitsGo (k0 : Ky) (l : List Fp) : Nat → Int → List Fp → Option Int
  | _, e, [] => some e
  | i, e, x :: r =>
    if rightF x.p x.os = false ∨ x.p.key ≠ k0 then none
    else if x.p.more = false ∧ 0 ≤ e then none
    else if (l.take i).any (ovl x) = true then none
    else fitsGo k0 l (i + 1) (if x.p.more then e else endsF x) r
def behind (e : Int) (y : Fp) : Bool := decide (e < endsF y) || (y.p.more && decide (e ≤ y.p.off))
/-- What fits answers; none: the list is refused. -/
def fitsR (l : List Fp) : Option Int :=
  match l with
  | [] => some (-1)
  | x :: _ => match fitsGo x.p.key l 0 (-1) l with
    | none => none
    | some e => if 0 ≤ e ∧ l.any (behind e) = true then none else some e

theorem fitsGo_no1 {k0 : Ky} {l r : List Fp} {i : Nat} {e : Int} {x : Fp} (h : rightF x.p x.os = false ∨ x.p.key ≠ k0) : fitsGo k0 l i e (x :: r) = none := by rw [fitsGo, if_pos h]
theorem fitsGo_no2 {k0 : Ky} {l r : List Fp} {i : Nat} {e : Int} {x : Fp} (h : x.p.more = false ∧ 0 ≤ e) : fitsGo k0 l i e (x :: r) = none := by
  rw [fitsGo]; split
  · rfl
  · first | rfl | rw [if_pos h]
theorem fitsGo_no3 {k0 : Ky} {l r : List Fp} {i : Nat} {e : Int} {x : Fp} (h : (l.take i).any (ovl x) = true) : fitsGo k0 l i e (x :: r) = none := by
  rw [fitsGo]; split
  · rfl
  · split
    · rfl
    · first | rfl | rw [if_pos h]
theorem fitsGo_go {k0 : Ky} {l r : List Fp} {i : Nat} {e e' : Int} {x : Fp} (h1 : rightF x.p x.os = true) (h2 : x.p.key = k0) (h3 : ¬ (x.p.more = false ∧ 0 ≤ e)) (h4 : (l.take i).any (ovl x) = false) (h5 : (if x.p.more then e else endsF x) = e') :
    fitsGo k0 l i e (x :: r) = fitsGo k0 l (i + 1) e' r := by
  rw [fitsGo, if_neg (by rw [h1]; simp [h2]), if_neg h3, if_neg (by rw [h4]; simp), h5]

def FitRel (l : List Fp) (n : Nat) (w : World) (e i : Value) (wr : World) : Prop :=
  ∃ (k : Nat) (a : Int), i = .int .i64 k ∧ e = .int .i64 a ∧ k ≤ n ∧ -1 ≤ a ∧ a ≤ 65535 ∧ (∀ x ∈ l.take k, rightF x.p x.os = true) ∧ (∀ x0 l0, l = x0 :: l0 → fitsGo x0.p.key l 0 (-1) l = fitsGo x0.p.key l k a (l.drop k)) ∧ Below w.heap.size w wr
def InRel (l : List Fp) (x : Fp) (k : Nat) (w : World) (j : Value) (wr : World) : Prop :=
  ∃ m : Nat, j = .int .i64 m ∧ m ≤ k ∧ (l.take k).any (ovl x) = ((l.take k).drop m).any (ovl x) ∧ Below w.heap.size w wr
def ChRel (l : List Fp) (e : Int) (n : Nat) (w : World) (i : Value) (wr : World) : Prop :=
  ∃ m : Nat, i = .int .i64 m ∧ m ≤ n ∧ l.any (behind e) = (l.drop m).any (behind e) ∧ Below w.heap.size w wr
def RF (r : Option Int) (w : World) (e : Ending) (w' : World) : Prop := e = .returned (.tuple #[.int .i64 (r.getD 0), .bool r.isSome]) ∧ Below w.heap.size w w'

theorem fits_nil (w : World) (c : Nat) : Calls Tryd.prog 47 #[.slice none 0 c] w (RF (some (-1)) w) := by
  go_enter Tryd.func47, Tryd.ntmps47
  go_wp2
  go_loop [4, 5] (fun e i => e = .int .i64 (-1) ∧ i = .int .i64 0) (fun _ _ => 0)
  case atStart => exact ⟨rfl, rfl⟩
  case round =>
    obtain ⟨rfl, rfl⟩ := hrel
    go_wp2
    go_loop [7] (fun i => i = .int .i64 0) (fun _ => 0)
    case atStart => rfl
    case round =>
      subst hrel
      go_wp2
      go_ret2
      exact ⟨rfl, Below.refl _ _⟩

set_option maxRecDepth 100000 in
set_option maxHeartbeats 8000000 in
theorem fits_a (s : Sl) (l : List Fp) (w : World) (hs : PkS w s l) (hm : s.n ≤ 925904528626) : Calls Tryd.prog 47 #[.slice s.a s.n s.c] w (RF (fitsR l) w) := by
  have hlen := Lib.hid hs.len
  obtain ⟨sa, n, c⟩ := s
  simp only at hm hlen
  rcases hs.at_ with ⟨rfl, rfl, rfl⟩ | ⟨b, o, rfl, hb, _⟩
  · obtain rfl : l = [] := List.eq_nil_of_length_eq_zero hlen.out
    exact fits_nil w _
  cases l with
  | nil =>
    have hn : n = 0 := hlen.out.symm
    subst hn
    go_enter Tryd.func47, Tryd.ntmps47
    go_wp2
    go_loop [4, 5] (fun e i => e = .int .i64 (-1) ∧ i = .int .i64 0) (fun _ _ => 0)
    case atStart => exact ⟨rfl, rfl⟩
    case round =>
      obtain ⟨rfl, rfl⟩ := hrel
      go_wp2
      go_loop [7] (fun i => i = .int .i64 0) (fun _ => 0)
      case atStart => rfl
      case round =>
        subst hrel
        go_wp2
        go_ret2
        exact ⟨rfl, Below.refl _ _⟩
  | cons x0 l0 =>
  have hn0 : 0 < n := by have := hlen.out; simp at this; omega
  replace hs := Lib.hid hs
  have hfits := Lib.hid (show fitsR (x0 :: l0) = (match fitsGo x0.p.key (x0 :: l0) 0 (-1) (x0 :: l0) with | none => none | some e => if 0 ≤ e ∧ (x0 :: l0).any (behind e) = true then none else some e) from rfl)
  have hl0' : ∀ W, Below w.heap.size w W → loadN Tryd.prog W ⟨b, o, none⟩ 46 = .ok (pkA x0.p) W := fun W h => hs.out.load0 h
  generalize hL : x0 :: l0 = l at *
  replace hL := Lib.hid hL
  replace hl0' := Lib.hid hl0'
  go_enter Tryd.func47, Tryd.ntmps47
  go_wp2
  go_loopw [4, 5] (fun e i wr => FitRel l n w e i wr) (fun _ i _ => n - (intOf i).toNat)
  case atStart => exact ⟨0, -1, rfl, rfl, by omega, by omega, by omega, (fun x h => by simp at h), (fun x0 l0 h => by simp), Below.refl _ _⟩
  case round =>
    obtain ⟨k, a, rfl, rfl, hk, ha1, ha2, hall, hval, hB⟩ := hrel
    replace hval := Lib.hid (hval x0 l0 hL.out.symm)
    replace hall := Lib.hid hall
    rename_i wr
    have stab := Lib.hid (fun (W W' : World) (h : Below w.heap.size w W) (hb : Below W.heap.size W W') => h.trans (hb.mono h.size))
    by_cases hlt : k < n
    · obtain ⟨x, hx⟩ : ∃ x, l[k]? = some x := ⟨_, List.getElem?_eq_getElem (by rw [hlen.out]; exact hlt)⟩
      have hdrop := Lib.hid (drop_cons hx)
      have hpx := Lib.hid (hs.out.pk x (List.mem_of_getElem? hx))
      have hl := fun V : Wd (fun V => Below w.heap.size w V) => hs.out.load hx V.h
      have hl0 := fun V : Wd (fun V => Below w.heap.size w V) => hl0'.out V.w V.h
      have hne : Nonempty (Wd (fun V => Below w.heap.size w V)) := ⟨⟨_, hB.drew⟩⟩
      have hsnoc := Lib.hid (take_snoc' hx)
      replace hx := Lib.hid hx
      cases hr : rightF x.p x.os
      · have hR := Lib.hid (fun (V : World) (h : Below w.heap.size w V) => (by have := ref11Right_any x.p x.os x.ds V (hpx.out.below h); rw [hr] at this; exact this : Calls Tryd.prog 33 #[.agg (pkA x.p)] V (RB (.bool false) V)))
        have hA := Lib.hid (alike_any x.p x0.p)
        replace hr := Lib.hid hr
        go_wp2
        refine wp_region_in (fun V => Below w.heap.size w V) (by kernel_rfl) (by kernel_rfl) hB.drew ?_
        repeat (any_goals (first | go_big_quiet_step ((first | (go_at_call 33; exact call_ins stab.out (fun V => hR.out V.w V.h) _) | (go_at_call 72; exact call_ins stab.out (fun V => hA.out V.w) _))) | quiet_step ((first | (go_at_call 33; exact call_ins stab.out (fun V => hR.out V.w V.h) _) | (go_at_call 72; exact call_ins stab.out (fun V => hA.out V.w) _)))))
        refine wpQuiet_nil ?_
        rintro _ ⟨V, rfl⟩
        have hB := V.h
        go_wp2
        go_ret2
        rw [hfits.out, hval.out, hdrop.out, fitsGo_no1 (.inl hr.out)]
        exact ⟨rfl, hB⟩
      have hR := Lib.hid (fun (V : World) (h : Below w.heap.size w V) => (by have := ref11Right_any x.p x.os x.ds V (hpx.out.below h); rw [hr] at this; exact this : Calls Tryd.prog 33 #[.agg (pkA x.p)] V (RB (.bool true) V)))
      have hrn := right_nums' hr
      replace hr := Lib.hid hr
      have hex := Lib.hid (fun W => ends_any x.p W hrn.1 (by omega) hpx.out.dm)
      have henx := Lib.hid (show endsF x = x.p.off + (x.p.d.n : Int) by unfold endsF; rw [hpx.out.d.len])
      by_cases h2 : x.p.key = x0.p.key
      case neg =>
        have hA := Lib.hid (fun V => (by have := alike_any x.p x0.p V; rw [decide_eq_false h2] at this; exact this : Calls Tryd.prog 72 #[.agg (pkA x.p), .agg (pkA x0.p)] V (RB (.bool false) V)))
        replace h2 := Lib.hid h2
        go_wp2
        refine wp_region_in (fun V => Below w.heap.size w V) (by kernel_rfl) (by kernel_rfl) hB.drew ?_
        repeat (any_goals (first | go_big_quiet_step ((first | (go_at_call 33; exact call_ins stab.out (fun V => hR.out V.w V.h) _) | (go_at_call 72; exact call_ins stab.out (fun V => hA.out V.w) _))) | quiet_step ((first | (go_at_call 33; exact call_ins stab.out (fun V => hR.out V.w V.h) _) | (go_at_call 72; exact call_ins stab.out (fun V => hA.out V.w) _)))))
        refine wpQuiet_nil ?_
        rintro _ ⟨V, rfl⟩
        have hB := V.h
        go_wp2
        go_ret2
        rw [hfits.out, hval.out, hdrop.out, fitsGo_no1 (.inr h2.out)]
        exact ⟨rfl, hB⟩
      have hA := Lib.hid (fun V => (by have := alike_any x.p x0.p V; rw [decide_eq_true h2] at this; exact this : Calls Tryd.prog 72 #[.agg (pkA x.p), .agg (pkA x0.p)] V (RB (.bool true) V)))
      replace h2 := Lib.hid h2
      have hcm := fun V : Wd (fun V => Below w.heap.size w V) => (hs.out.fields hx.out V.h 41 (by decide)).trans (pkA_41 _)
      cases hmore : x.p.more
      · by_cases h3 : 0 ≤ a
        · have hcond := Lib.hid (show x.p.more = false ∧ 0 ≤ a from ⟨hmore, h3⟩)
          have h3' : decide (0 ≤ a) = true := by simpa using h3
          rw [hmore] at hcm
          replace hmore := Lib.hid hmore
          go_wp2
          refine wp_region_in (fun V => Below w.heap.size w V) (by kernel_rfl) (by kernel_rfl) hB.drew ?_
          repeat (any_goals (first | go_big_quiet_step ((first | (go_at_call 33; exact call_ins stab.out (fun V => hR.out V.w V.h) _) | (go_at_call 72; exact call_ins stab.out (fun V => hA.out V.w) _))) | quiet_step ((first | (go_at_call 33; exact call_ins stab.out (fun V => hR.out V.w V.h) _) | (go_at_call 72; exact call_ins stab.out (fun V => hA.out V.w) _)))))
          refine wpQuiet_nil ?_
          rintro _ ⟨V, rfl⟩
          have hB := V.h
          have hcm := hcm V
          go_wp2
          go_ret2
          rw [hfits.out, hval.out, hdrop.out, fitsGo_no2 hcond.out]
          exact ⟨rfl, hB⟩
        · have hcond := Lib.hid (show ¬ (x.p.more = false ∧ 0 ≤ a) from fun h => h3 h.2)
          have h3' : decide (0 ≤ a) = false := by simpa using h3
          have h3'' : a < 0 := by omega
          rw [hmore] at hcm
          replace hmore := Lib.hid hmore
          clear h3
          go_wp2
          refine wp_region_in (fun V => Below w.heap.size w V) (by kernel_rfl) (by kernel_rfl) hB.drew ?_
          repeat (any_goals (first | go_big_quiet_step ((first | (go_at_call 33; exact call_ins stab.out (fun V => hR.out V.w V.h) _) | (go_at_call 72; exact call_ins stab.out (fun V => hA.out V.w) _))) | quiet_step ((first | (go_at_call 33; exact call_ins stab.out (fun V => hR.out V.w V.h) _) | (go_at_call 72; exact call_ins stab.out (fun V => hA.out V.w) _)))))
          refine wpQuiet_nil ?_
          rintro _ ⟨V, rfl⟩
          have hB := V.h
          have hcm1 := hcm V
          have hl1 := hl V
          clear hcm
          go_wp2_with (go_at_call 73; (with_reducible refine (hex.out _).mono ?_); rintro e w1 ⟨rfl, hb⟩; have hB := hB.trans (hb.mono hB.size); clear hb)
          clear hcm1 hl1
          have hfin := Lib.hid (show (if x.p.more then a else endsF x) = x.p.off + (x.p.d.n : Int) by rw [hmore.out, henx.out]; rfl)
          have ha3 : -1 ≤ x.p.off + (x.p.d.n : Int) := by omega
          have ha4 : x.p.off + (x.p.d.n : Int) ≤ 65535 := by omega
          clear hl hl0 hne
          go_loopw [6] (fun j wr => InRel l x k w j wr) (fun j _ => k - (intOf j).toNat)
          case atStart => exact ⟨0, rfl, by omega, rfl, hB⟩
          case round =>
            obtain ⟨m, rfl, hmk, hin, hB⟩ := hrel
            rename_i wr2
            replace hin := Lib.hid hin
            by_cases hlt2 : m < k
            · obtain ⟨y, hy⟩ : ∃ y, l[m]? = some y := ⟨_, List.getElem?_eq_getElem (by rw [hlen.out]; omega)⟩
              have hy2 : (l.take k)[m]? = some y := by rw [List.getElem?_take, if_pos hlt2]; exact hy
              have hdrop2 := Lib.hid (drop_cons hy2)
              have hry := right_nums' (hall.out y (List.mem_of_getElem? hy2))
              have hpy := Lib.hid (hs.out.pk y (List.mem_of_getElem? hy))
              have hey := Lib.hid (fun W => ends_any y.p W hry.1 (by omega) hpy.out.dm)
              have heny := Lib.hid (show endsF y = y.p.off + (y.p.d.n : Int) by unfold endsF; rw [hpy.out.d.len])
              have hl := fun V : Wd (fun V => Below w.heap.size w V) => hs.out.load hx.out V.h
              have hly := fun V : Wd (fun V => Below w.heap.size w V) => hs.out.load hy V.h
              have hcx := fun V : Wd (fun V => Below w.heap.size w V) => (hs.out.fields hx.out V.h 43 (by decide)).trans (pkA_43 _)
              have hcy := fun V : Wd (fun V => Below w.heap.size w V) => (hs.out.fields hy V.h 43 (by decide)).trans (pkA_43 _)
              have hne : Nonempty (Wd (fun V => Below w.heap.size w V)) := ⟨⟨_, hB.drew⟩⟩
              have hmn : m < n := by omega
              clear hy2
              replace hy := Lib.hid hy
              replace hry := Lib.hid hry
              by_cases hc1 : y.p.off < x.p.off + (x.p.d.n : Int)
              · have hc1' : decide (y.p.off < x.p.off + (x.p.d.n : Int)) = true := by simpa using hc1
                by_cases hc2 : x.p.off < y.p.off + (y.p.d.n : Int)
                · have hc2' : decide (x.p.off < y.p.off + (y.p.d.n : Int)) = true := by simpa using hc2
                  have ho := Lib.hid (show ovl x y = true by unfold ovl; rw [henx.out, heny.out]; simp [hc1, hc2])
                  go_wp2
                  refine wp_region_in (fun V => Below w.heap.size w V) (by kernel_rfl) (by kernel_rfl) hB.drew ?_
                  repeat (any_goals (first | go_big_quiet_step ((go_at_call 73; first | exact call_ins stab.out (fun V => hex.out V.w) _ | exact call_ins stab.out (fun V => hey.out V.w) _)) | quiet_step ((go_at_call 73; first | exact call_ins stab.out (fun V => hex.out V.w) _ | exact call_ins stab.out (fun V => hey.out V.w) _))))
                  refine wpQuiet_nil ?_
                  rintro _ ⟨V, rfl⟩
                  have hB := V.h
                  go_wp2
                  go_ret2
                  rw [hfits.out, hval.out, hdrop.out, fitsGo_no3 (by rw [hin.out, hdrop2.out, List.any_cons, ho.out]; rfl)]
                  exact ⟨rfl, hB⟩
                · have hc2' : decide (x.p.off < y.p.off + (y.p.d.n : Int)) = false := by simpa using hc2
                  have ho := Lib.hid (show ovl x y = false by unfold ovl; rw [henx.out, heny.out]; simp [hc2])
                  go_wp2
                  refine wp_region_in (fun V => Below w.heap.size w V) (by kernel_rfl) (by kernel_rfl) hB.drew ?_
                  repeat (any_goals (first | go_big_quiet_step ((go_at_call 73; first | exact call_ins stab.out (fun V => hex.out V.w) _ | exact call_ins stab.out (fun V => hey.out V.w) _)) | quiet_step ((go_at_call 73; first | exact call_ins stab.out (fun V => hex.out V.w) _ | exact call_ins stab.out (fun V => hey.out V.w) _))))
                  refine wpQuiet_nil ?_
                  rintro _ ⟨V, rfl⟩
                  have hB := V.h
                  go_wp2
                  go_roundw
                  case rel => exact ⟨m + 1, by go_num, by omega, by rw [hin.out, hdrop2.out, List.any_cons, ho.out, Bool.false_or], hB⟩
                  case measure => simp [intOf]; omega
              · have hc1' : decide (y.p.off < x.p.off + (x.p.d.n : Int)) = false := by simpa using hc1
                have ho := Lib.hid (show ovl x y = false by unfold ovl; rw [henx.out, heny.out]; simp [hc1])
                go_wp2
                refine wp_region_in (fun V => Below w.heap.size w V) (by kernel_rfl) (by kernel_rfl) hB.drew ?_
                repeat (any_goals (first | go_big_quiet_step ((go_at_call 73; first | exact call_ins stab.out (fun V => hex.out V.w) _ | exact call_ins stab.out (fun V => hey.out V.w) _)) | quiet_step ((go_at_call 73; first | exact call_ins stab.out (fun V => hex.out V.w) _ | exact call_ins stab.out (fun V => hey.out V.w) _))))
                refine wpQuiet_nil ?_
                rintro _ ⟨V, rfl⟩
                have hB := V.h
                go_wp2
                go_roundw
                case rel => exact ⟨m + 1, by go_num, by omega, by rw [hin.out, hdrop2.out, List.any_cons, ho.out, Bool.false_or], hB⟩
                case measure => simp [intOf]; omega
            · have hno := Lib.hid (show (l.take k).any (ovl x) = false by rw [hin.out, List.drop_eq_nil_of_le (by rw [List.length_take]; omega)]; rfl)
              go_wp2
              go_roundw
              case rel => exact ⟨k + 1, _, by go_num, rfl, by omega, ha3, ha4, (by rw [hsnoc.out]; intro z hz; rcases List.mem_append.1 hz with hz | hz; (· exact hall.out z hz); (· rw [List.mem_singleton.1 hz]; exact hr.out)), (fun x1 l1 h => by rw [← hL.out, List.cons.injEq] at h; obtain ⟨rfl, rfl⟩ := h; rw [hval.out, hdrop.out]; exact fitsGo_go hr.out h2.out hcond.out hno.out hfin.out), hB⟩
              case measure => simp [intOf]; omega
      · have hcond := Lib.hid (show ¬ (x.p.more = false ∧ 0 ≤ a) from fun h => by rw [hmore] at h; exact absurd h.1 (by decide))
        have hfin := Lib.hid (show (if x.p.more then a else endsF x) = a by rw [hmore]; rfl)
        rw [hmore] at hcm
        replace hmore := Lib.hid hmore
        go_wp2
        refine wp_region_in (fun V => Below w.heap.size w V) (by kernel_rfl) (by kernel_rfl) hB.drew ?_
        repeat (any_goals (first | go_big_quiet_step ((first | (go_at_call 33; exact call_ins stab.out (fun V => hR.out V.w V.h) _) | (go_at_call 72; exact call_ins stab.out (fun V => hA.out V.w) _))) | quiet_step ((first | (go_at_call 33; exact call_ins stab.out (fun V => hR.out V.w V.h) _) | (go_at_call 72; exact call_ins stab.out (fun V => hA.out V.w) _)))))
        refine wpQuiet_nil ?_
        rintro _ ⟨V, rfl⟩
        have hB := V.h
        have hcm1 := hcm V
        clear hcm
        go_wp2
        clear hcm1
        clear hl hl0 hne
        go_loopw [6] (fun j wr => InRel l x k w j wr) (fun j _ => k - (intOf j).toNat)
        case atStart => exact ⟨0, rfl, by omega, rfl, hB⟩
        case round =>
          obtain ⟨m, rfl, hmk, hin, hB⟩ := hrel
          rename_i wr2
          replace hin := Lib.hid hin
          by_cases hlt2 : m < k
          · obtain ⟨y, hy⟩ : ∃ y, l[m]? = some y := ⟨_, List.getElem?_eq_getElem (by rw [hlen.out]; omega)⟩
            have hy2 : (l.take k)[m]? = some y := by rw [List.getElem?_take, if_pos hlt2]; exact hy
            have hdrop2 := Lib.hid (drop_cons hy2)
            have hry := right_nums' (hall.out y (List.mem_of_getElem? hy2))
            have hpy := Lib.hid (hs.out.pk y (List.mem_of_getElem? hy))
            have hey := Lib.hid (fun W => ends_any y.p W hry.1 (by omega) hpy.out.dm)
            have heny := Lib.hid (show endsF y = y.p.off + (y.p.d.n : Int) by unfold endsF; rw [hpy.out.d.len])
            have hl := fun V : Wd (fun V => Below w.heap.size w V) => hs.out.load hx.out V.h
            have hly := fun V : Wd (fun V => Below w.heap.size w V) => hs.out.load hy V.h
            have hcx := fun V : Wd (fun V => Below w.heap.size w V) => (hs.out.fields hx.out V.h 43 (by decide)).trans (pkA_43 _)
            have hcy := fun V : Wd (fun V => Below w.heap.size w V) => (hs.out.fields hy V.h 43 (by decide)).trans (pkA_43 _)
            have hne : Nonempty (Wd (fun V => Below w.heap.size w V)) := ⟨⟨_, hB.drew⟩⟩
            have hmn : m < n := by omega
            clear hy2
            replace hy := Lib.hid hy
            replace hry := Lib.hid hry
            by_cases hc1 : y.p.off < x.p.off + (x.p.d.n : Int)
            · have hc1' : decide (y.p.off < x.p.off + (x.p.d.n : Int)) = true := by simpa using hc1
              by_cases hc2 : x.p.off < y.p.off + (y.p.d.n : Int)
              · have hc2' : decide (x.p.off < y.p.off + (y.p.d.n : Int)) = true := by simpa using hc2
                have ho := Lib.hid (show ovl x y = true by unfold ovl; rw [henx.out, heny.out]; simp [hc1, hc2])
                go_wp2
                refine wp_region_in (fun V => Below w.heap.size w V) (by kernel_rfl) (by kernel_rfl) hB.drew ?_
                repeat (any_goals (first | go_big_quiet_step ((go_at_call 73; first | exact call_ins stab.out (fun V => hex.out V.w) _ | exact call_ins stab.out (fun V => hey.out V.w) _)) | quiet_step ((go_at_call 73; first | exact call_ins stab.out (fun V => hex.out V.w) _ | exact call_ins stab.out (fun V => hey.out V.w) _))))
                refine wpQuiet_nil ?_
                rintro _ ⟨V, rfl⟩
                have hB := V.h
                go_wp2
                go_ret2
                rw [hfits.out, hval.out, hdrop.out, fitsGo_no3 (by rw [hin.out, hdrop2.out, List.any_cons, ho.out]; rfl)]
                exact ⟨rfl, hB⟩
              · have hc2' : decide (x.p.off < y.p.off + (y.p.d.n : Int)) = false := by simpa using hc2
                have ho := Lib.hid (show ovl x y = false by unfold ovl; rw [henx.out, heny.out]; simp [hc2])
                go_wp2
                refine wp_region_in (fun V => Below w.heap.size w V) (by kernel_rfl) (by kernel_rfl) hB.drew ?_
                repeat (any_goals (first | go_big_quiet_step ((go_at_call 73; first | exact call_ins stab.out (fun V => hex.out V.w) _ | exact call_ins stab.out (fun V => hey.out V.w) _)) | quiet_step ((go_at_call 73; first | exact call_ins stab.out (fun V => hex.out V.w) _ | exact call_ins stab.out (fun V => hey.out V.w) _))))
                refine wpQuiet_nil ?_
                rintro _ ⟨V, rfl⟩
                have hB := V.h
                go_wp2
                go_roundw
                case rel => exact ⟨m + 1, by go_num, by omega, by rw [hin.out, hdrop2.out, List.any_cons, ho.out, Bool.false_or], hB⟩
                case measure => simp [intOf]; omega
            · have hc1' : decide (y.p.off < x.p.off + (x.p.d.n : Int)) = false := by simpa using hc1
              have ho := Lib.hid (show ovl x y = false by unfold ovl; rw [henx.out, heny.out]; simp [hc1])
              go_wp2
              refine wp_region_in (fun V => Below w.heap.size w V) (by kernel_rfl) (by kernel_rfl) hB.drew ?_
              repeat (any_goals (first | go_big_quiet_step ((go_at_call 73; first | exact call_ins stab.out (fun V => hex.out V.w) _ | exact call_ins stab.out (fun V => hey.out V.w) _)) | quiet_step ((go_at_call 73; first | exact call_ins stab.out (fun V => hex.out V.w) _ | exact call_ins stab.out (fun V => hey.out V.w) _))))
              refine wpQuiet_nil ?_
              rintro _ ⟨V, rfl⟩
              have hB := V.h
              go_wp2
              go_roundw
              case rel => exact ⟨m + 1, by go_num, by omega, by rw [hin.out, hdrop2.out, List.any_cons, ho.out, Bool.false_or], hB⟩
              case measure => simp [intOf]; omega
          · have hno := Lib.hid (show (l.take k).any (ovl x) = false by rw [hin.out, List.drop_eq_nil_of_le (by rw [List.length_take]; omega)]; rfl)
            go_wp2
            go_roundw
            case rel => exact ⟨k + 1, a, by go_num, rfl, by omega, ha1, ha2, (by rw [hsnoc.out]; intro z hz; rcases List.mem_append.1 hz with hz | hz; (· exact hall.out z hz); (· rw [List.mem_singleton.1 hz]; exact hr.out)), (fun x1 l1 h => by rw [← hL.out, List.cons.injEq] at h; obtain ⟨rfl, rfl⟩ := h; rw [hval.out, hdrop.out]; exact fitsGo_go hr.out h2.out hcond.out hno.out hfin.out), hB⟩
            case measure => simp [intOf]; omega
    · have hkn : k = n := by omega
      subst hkn
      have hgo := Lib.hid (show fitsGo x0.p.key l 0 (-1) l = some a by rw [hval.out, List.drop_eq_nil_of_le (by rw [hlen.out]; exact Nat.le_refl _)]; rfl)
      rw [List.take_of_length_le (by rw [hlen.out]; exact Nat.le_refl _)] at hall
      go_wp2
      go_loopw [7] (fun i wr => ChRel l a k w i wr) (fun i _ => k - (intOf i).toNat)
      case atStart => exact ⟨0, rfl, by omega, rfl, hB⟩
      case round =>
        obtain ⟨m, rfl, hmk, hin, hB⟩ := hrel
        rename_i wr2
        replace hin := Lib.hid hin
        by_cases ha0 : 0 ≤ a
        · have ha0' : decide (0 ≤ a) = true := by simpa using ha0
          by_cases hlt2 : m < k
          · obtain ⟨y, hy⟩ : ∃ y, l[m]? = some y := ⟨_, List.getElem?_eq_getElem (by rw [hlen.out]; omega)⟩
            have hdrop2 := Lib.hid (drop_cons hy)
            have hry := right_nums' (hall.out y (List.mem_of_getElem? hy))
            have hpy := Lib.hid (hs.out.pk y (List.mem_of_getElem? hy))
            have heny := Lib.hid (show endsF y = y.p.off + (y.p.d.n : Int) by unfold endsF; rw [hpy.out.d.len])
            have hey := Lib.hid (fun W => ends_any y.p W hry.1 (by omega) hpy.out.dm)
            have hld := hs.out.load hy hB
            replace hry := Lib.hid hry
            by_cases hc1 : a < y.p.off + (y.p.d.n : Int)
            · have hc1' : decide (y.p.off + (y.p.d.n : Int) > a) = true := by simpa using hc1
              have ho := Lib.hid (show behind a y = true by unfold behind; rw [heny.out]; simp [hc1])
              replace hy := Lib.hid hy
              go_wp2_with (first | go_big_skip | (go_at_call 73; (with_reducible refine (hey.out _).mono ?_); rintro e w1 ⟨rfl, hb⟩; have hB := hB.trans (hb.mono hB.size); clear hb))
              go_ret2
              rw [hfits.out, hgo.out]
              simp only
              rw [if_pos ⟨ha0, by rw [hin.out, hdrop2.out, List.any_cons, ho.out]; rfl⟩]
              exact ⟨rfl, hB⟩
            · have hc1' : decide (y.p.off + (y.p.d.n : Int) > a) = false := by simpa using hc1
              have hc1'' : y.p.off + (y.p.d.n : Int) ≤ a := by omega
              have hym := fun W (h : Below w.heap.size w W) => (hs.out.fields hy h 41 (by decide)).trans (pkA_41 _)
              have hyo := fun W (h : Below w.heap.size w W) => (hs.out.fields hy h 43 (by decide)).trans (pkA_43 _)
              replace hy := Lib.hid hy
              have hyo := Lib.hid hyo
              by_cases hc2 : y.p.more = true ∧ a ≤ y.p.off
              · have ho := Lib.hid (show behind a y = true by unfold behind; simp [hc2.1, hc2.2])
                obtain ⟨hc3, hc4⟩ := hc2
                rw [hc3] at hym
                have hym := Lib.hid hym
                have hc4' : decide (y.p.off ≥ a) = true := by simpa using hc4
                replace hc3 := Lib.hid hc3
                go_wp2_with (first | go_big_skip | (go_at_call 73; (with_reducible refine (hey.out _).mono ?_); rintro e w1 ⟨rfl, hb⟩; have hB := hB.trans (hb.mono hB.size); have hym1 := hym.out _ hB; have hyo1 := hyo.out _ hB; clear hb))
                go_ret2
                rw [hfits.out, hgo.out]
                simp only
                rw [if_pos ⟨ha0, by rw [hin.out, hdrop2.out, List.any_cons, ho.out]; rfl⟩]
                exact ⟨rfl, hB⟩
              · have ho := Lib.hid (show behind a y = false by
                  unfold behind
                  rw [heny.out]
                  cases hmy : y.p.more
                  · simp; omega
                  · have : ¬ a ≤ y.p.off := fun h => hc2 ⟨hmy, h⟩
                    simp; omega)
                cases hmy : y.p.more
                · rw [hmy] at hym
                  have hym := Lib.hid hym
                  replace hmy := Lib.hid hmy
                  clear hc2
                  go_wp2_with (first | go_big_skip | (go_at_call 73; (with_reducible refine (hey.out _).mono ?_); rintro e w1 ⟨rfl, hb⟩; have hB := hB.trans (hb.mono hB.size); have hym1 := hym.out _ hB; have hyo1 := hyo.out _ hB; clear hb))
                  go_roundw
                  case rel => exact ⟨m + 1, by go_num, by omega, by rw [hin.out, hdrop2.out, List.any_cons, ho.out, Bool.false_or], hB⟩
                  case measure => simp [intOf]; omega
                · have hc4' : decide (y.p.off ≥ a) = false := by simp; exact Int.not_le.1 fun h => hc2 ⟨hmy, h⟩
                  rw [hmy] at hym
                  have hym := Lib.hid hym
                  replace hmy := Lib.hid hmy
                  clear hc2
                  go_wp2_with (first | go_big_skip | (go_at_call 73; (with_reducible refine (hey.out _).mono ?_); rintro e w1 ⟨rfl, hb⟩; have hB := hB.trans (hb.mono hB.size); have hym1 := hym.out _ hB; have hyo1 := hyo.out _ hB; clear hb))
                  go_roundw
                  case rel => exact ⟨m + 1, by go_num, by omega, by rw [hin.out, hdrop2.out, List.any_cons, ho.out, Bool.false_or], hB⟩
                  case measure => simp [intOf]; omega
          · have hno := Lib.hid (show l.any (behind a) = false by rw [hin.out, List.drop_eq_nil_of_le (by rw [hlen.out]; omega)]; rfl)
            go_wp2
            go_ret2
            rw [hfits.out, hgo.out]
            simp only
            rw [if_neg (by rw [hno.out]; simp)]
            exact ⟨rfl, hB⟩
        · have ha0' : decide (0 ≤ a) = false := by simpa using ha0
          have hf := Lib.hid (show fitsR l = some a by rw [hfits.out, hgo.out]; simp only; rw [if_neg (fun h => ha0 h.1)])
          by_cases hlt2 : m < k
          all_goals
            go_wp2
            go_ret2
            rw [hf.out]
            exact ⟨rfl, hB⟩
end Go.Proofs.YtleokgmflelkcaaDoor
