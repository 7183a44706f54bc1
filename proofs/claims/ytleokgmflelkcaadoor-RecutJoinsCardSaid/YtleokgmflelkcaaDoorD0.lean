/- mosaicref11.at and mosaiclaw11.owns. -/
import Derived.Test.YtleokgmflelkcaaDoorA22
import Derived.Test.YtleokgmflelkcaaDoorA17
set_option linter.unusedSimpArgs false
set_option linter.unusedVariables false
namespace Go.Proofs.YtleokgmflelkcaaDoor
open Go Go.RowKit

theorem dropC {α : Type} {l : List α} {k : Nat} {x : α} (h : l[k]? = some x) : l.drop k = x :: l.drop (k + 1) := by
  have hk := (List.getElem?_eq_some_iff.1 h).1
  rw [List.drop_eq_getElem_cons hk]
  congr 1
  rw [List.getElem?_eq_getElem hk] at h
  exact Option.some.inj h
theorem takeS {α : Type} {l : List α} {k : Nat} {x : α} (h : l[k]? = some x) : l.take (k + 1) = l.take k ++ [x] := by
  rw [List.take_add_one, h]; rfl

/-- The place of the first packet that begins there; -1: none does. -/
def atF (off : Int) : Nat → List Fp → Int
  | _, [] => -1
  | i, x :: l => if x.p.off = off then i else atF off (i + 1) l

def AtRel (l : List Fp) (off : Int) (n : Nat) (i : Value) : Prop := ∃ k : Nat, i = .int .i64 k ∧ k ≤ n ∧ atF off 0 l = atF off k (l.drop k)

theorem PkS.fields {w : World} {b o n c : Nat} {l : List Fp} (h : PkS w ⟨some ⟨b, o, none⟩, n, c⟩ l) {i : Nat} {x : Fp} (hx : l[i]? = some x) {W : World} (hb : Below w.heap.size w W) (j : Nat) (hj : j < 46) :
    W.cell? ⟨b, o + i * 46 + j, none⟩ = (pkA x.p)[j]? := by
  rcases h.at_ with ⟨h0, _⟩ | ⟨b', o', h1, h2, h3⟩
  · cases h0
  · cases h1
    exact (h3 i x hx).below hb h2 j (by rw [pkA_size]; exact hj)

set_option maxRecDepth 100000 in
theorem at_any (s : Sl) (l : List Fp) (off : Int) (w : World) (hs : PkS w s l) (hm : s.n ≤ 925904528626) : Calls Tryd.prog 48 #[.slice s.a s.n s.c, .int .i64 off] w (RB (.int .i64 (atF off 0 l)) w) := by
  have hlen := Lib.hid hs.len
  obtain ⟨sa, n, c⟩ := s
  simp only at hm hlen
  rcases hs.at_ with ⟨rfl, rfl, rfl⟩ | ⟨b, o, rfl, hb, _⟩
  · obtain rfl : l = [] := List.eq_nil_of_length_eq_zero hlen.out
    go_enter Tryd.func48, Tryd.ntmps48
    go_wp2
    go_loop [5] (fun i => i = .int .i64 0) (fun _ => 0)
    case atStart => rfl
    case round =>
      subst hrel
      go_wp2
      go_ret
      exact RB.mk' rfl (Below.refl _ _)
  replace hs := Lib.hid hs
  go_enter Tryd.func48, Tryd.ntmps48
  go_wp2
  go_loop [5] (fun i => AtRel l off n i) (fun i => n - (intOf i).toNat)
  case atStart => exact ⟨0, rfl, by omega, rfl⟩
  case round =>
    obtain ⟨k, rfl, hk, hval⟩ := hrel
    replace hval := Lib.hid hval
    by_cases hlt : k < n
    · obtain ⟨x, hx⟩ : ∃ x, l[k]? = some x := ⟨_, List.getElem?_eq_getElem (by rw [hlen.out]; exact hlt)⟩
      have hdrop := Lib.hid (dropC hx)
      have hc := (hs.out.fields hx (Below.refl _ _) 43 (by decide)).trans (pkA_43 _)
      replace hx := Lib.hid hx
      by_cases he : x.p.off = off
      · have he' : (x.p.off == off) = true := by simpa using he
        replace he := Lib.hid he
        go_wp2
        go_ret
        exact RB.mk' (by rw [hval.out, hdrop.out, atF, if_pos he.out]; rfl) (Below.refl _ _)
      · have he' : (x.p.off == off) = false := by simpa using he
        replace he := Lib.hid he
        go_wp2
        go_round
        case rel => exact ⟨k + 1, by go_num, by omega, by rw [hval.out, hdrop.out, atF, if_neg he.out]⟩
        case measure => simp [intOf]; omega
    · go_wp2
      go_ret
      have : k = n := by omega
      subst this
      exact RB.mk' (by rw [hval.out, List.drop_eq_nil_of_le (by rw [hlen.out]; exact Nat.le_refl _)]; rfl) (Below.refl _ _)

/-- A list of packets in the call's own memory. -/
def RPs (l : List Mp) (w : World) (e : Ending) (w' : World) : Prop := ∃ v, e = .returned v ∧ PkRow w.heap.size w' v l.length l ∧ Below w.heap.size w w'

def OwRel (l : List Fp) (n : Nat) (w : World) (out i : Value) (wr : World) : Prop :=
  ∃ (k : Nat) (v : Sl), i = .int .i64 k ∧ out = .slice v.a v.n v.c ∧ k ≤ n ∧ PkRow w.heap.size wr (.slice v.a v.n v.c) k ((l.take k).map Fp.mp) ∧ Below w.heap.size w wr

set_option maxRecDepth 100000 in
set_option maxHeartbeats 1000000 in
theorem owns_any (s : Sl) (l : List Fp) (w : World) (hs : PkS w s l) (hm : s.n ≤ 925904528626) : Calls Tryd.prog 17 #[.slice s.a s.n s.c] w (RPs (l.map Fp.mp) w) := by
  have hlen := Lib.hid hs.len
  obtain ⟨sa, n, c⟩ := s
  simp only at hm hlen
  rcases hs.at_ with ⟨rfl, rfl, rfl⟩ | ⟨b, o, rfl, hb, _⟩
  · obtain rfl : l = [] := List.eq_nil_of_length_eq_zero hlen.out
    go_enter Tryd.func17, Tryd.ntmps17
    go_wp2
    go_loop [3, 4] (fun o i => o = .slice none 0 0 ∧ i = .int .i64 0) (fun _ _ => 0)
    case atStart => exact ⟨rfl, rfl⟩
    case round =>
      obtain ⟨rfl, rfl⟩ := hrel
      go_wp2
      go_ret
      exact ⟨_, rfl, PkRow.nil _ _, Below.refl _ _⟩
  replace hs := Lib.hid hs
  go_enter Tryd.func17, Tryd.ntmps17
  go_wp2
  go_loopw [3, 4] (fun out i wr => OwRel l n w out i wr) (fun _ i _ => n - (intOf i).toNat)
  case atStart => exact ⟨0, ⟨none, 0, 0⟩, rfl, rfl, by omega, PkRow.nil _ _, Below.refl _ _⟩
  case round =>
    obtain ⟨k, v, rfl, rfl, hk, hrow, hB⟩ := hrel
    rename_i wr
    by_cases hlt : k < n
    · obtain ⟨x, hx⟩ : ∃ x, l[k]? = some x := ⟨_, List.getElem?_eq_getElem (by rw [hlen.out]; exact hlt)⟩
      have htake := Lib.hid (takeS hx)
      have hld := hs.out.load hx hB
      have hpx := Lib.hid (hs.out.pk x (List.mem_of_getElem? hx))
      have hk2 := Lib.hid (show k ≤ 925904528626 by omega)
      replace hx := Lib.hid hx
      go_wp2_with (first | (go_at_call 12; (with_reducible refine (lawown_any x.p x.os x.ds _ (hpx.out.below hB)).mono ?_); rintro e w1 ⟨s1, s2, rfl, hs1, hs2, hb⟩; have hs1 := hs1.mono hB.size; have hs2 := hs2.mono hB.size; have hrow := hrow.below hb; have hB1 := hB.trans (hb.mono hB.size); clear hb) | (refine wpList_build_pk rfl (.tmp 16) rfl { x.p with o := s1, d := s2 } rfl ?_) | (at_builtin; refine wpList_append_pk rfl _ _ rfl w.heap.size _ k _ rfl (hrow.below ((Below.refl _ _).alloc (Nat.le_refl _) _)) { x.p with o := s1, d := s2 } x.mp _ rfl (heap_alloc_new _ _) ⟨rfl, rfl, rfl, hs1.alloc _, hs2.alloc _⟩ hk2.out (size_le_alloc hB1.size _) ?_; intro v' w4 hrow4 hb4 _; obtain ⟨-, s4, rfl, -⟩ := hrow4.form))
      go_roundw
      case rel => exact ⟨k + 1, s4, by go_num, rfl, by omega, by rw [htake.out, List.map_append]; exact hrow4, (hB1.alloc hB1.size _).trans hb4⟩
      case measure => simp [intOf]; omega
    · go_wp2
      go_ret
      have : k = n := by omega
      subst this
      refine ⟨_, rfl, ?_, hB⟩
      rw [List.take_of_length_le (by rw [hlen.out]; exact Nat.le_refl _)] at hrow
      rw [List.length_map, hlen.out]
      exact hrow
end Go.Proofs.YtleokgmflelkcaaDoor
