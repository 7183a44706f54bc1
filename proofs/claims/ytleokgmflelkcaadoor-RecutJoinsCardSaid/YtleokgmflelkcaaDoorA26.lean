/- recut.Is: what it computes; its refusals. -/
import Derived.Test.YtleokgmflelkcaaDoorA25
set_option linter.unusedSimpArgs false
set_option linter.unusedVariables false
namespace Go.Proofs.YtleokgmflelkcaaDoor
open Go Go.RowKit

/-- Pieces of a packet from place at on (i: is it the first?). -/
def isF (p : Pk) (os ds co : List Int) (mtu : Int) : Bool → Nat → List Fp → Bool
  | _, at_, [] => decide (at_ = ds.length)
  | first, at_, x :: l => if headF x.p x.os = 0 ∨ headF x.p x.os + x.ds.length > mtu ∨ x.p.bare ≠ p.bare ∨ x.os ≠ (if first then os else co) then false
    else if x.p.off ≠ p.off + at_ ∨ ¬ x.ds <+: ds.drop at_ then false
    else if x.p.more ≠ (!(l.isEmpty) || p.more) then false
    else isF p os ds co mtu false (at_ + x.ds.length) l
def isR (p : Pk) (os ds co : List Int) (mtu : Int) (l : List Fp) : Bool :=
  if headF p os = 0 ∨ mtu < 68 ∨ mtu > 65535 ∨ l.length = 0 then false
  else match l with
  | [x] => sameP p x.p os ds x.os x.ds && decide (headF p os + ds.length ≤ mtu)
  | _ => if p.v ≠ 4 ∨ p.df = true then false else isF p os ds co mtu true 0 l

set_option maxRecDepth 100000 in
set_option maxHeartbeats 1000000 in
theorem is_err (p : Pk) (os ds : List Int) (mtu : Int) (s : Sl) (w : World) (hp : PkIn w p os ds) (hS : Sh w) (h : headF p os = 0 ∨ mtu < 68 ∨ mtu > 65535 ∨ s.n = 0) : Calls Tryd.prog 16 #[.agg (pkA p), .int .i64 mtu, .slice s.a s.n s.c] w (RB (.bool false) w) := by
  have hX := (Bx.start w).alloc (pkA p) 28
  obtain ⟨hr, hl, hs, hd⟩ := pk_at hX.h0
  generalize hH : headF p os = H at *
  by_cases h0 : H = 0
  · subst h0
    clear h
    go_enter Tryd.func16, Tryd.ntmps16
    go_wp2_with (first | (go_at_call 31; (with_reducible refine (head_any p os ds _ (hp.below hX.bel) (hS.below hX.bel)).mono ?_); rintro e w1 ⟨rfl, hb⟩; rw [hH]; have hX := hX.call hb; obtain ⟨hr, hl, hs, hd⟩ := pk_at hX.h0; clear hb))
    go_ret
    exact RB.mk' rfl hX.bel
  have h0' : (H == 0) = false := by simpa using h0
  by_cases h1 : mtu < 68
  · clear h h0
    go_enter Tryd.func16, Tryd.ntmps16
    go_wp2_with (first | (go_at_call 31; (with_reducible refine (head_any p os ds _ (hp.below hX.bel) (hS.below hX.bel)).mono ?_); rintro e w1 ⟨rfl, hb⟩; rw [hH]; have hX := hX.call hb; obtain ⟨hr, hl, hs, hd⟩ := pk_at hX.h0; clear hb))
    go_ret
    exact RB.mk' rfl hX.bel
  have h1' : 68 ≤ mtu := by omega
  by_cases h2 : 65535 < mtu
  · clear h h0 h1
    go_enter Tryd.func16, Tryd.ntmps16
    go_wp2_with (first | (go_at_call 31; (with_reducible refine (head_any p os ds _ (hp.below hX.bel) (hS.below hX.bel)).mono ?_); rintro e w1 ⟨rfl, hb⟩; rw [hH]; have hX := hX.call hb; obtain ⟨hr, hl, hs, hd⟩ := pk_at hX.h0; clear hb))
    go_ret
    exact RB.mk' rfl hX.bel
  have h2' : mtu ≤ 65535 := by omega
  have h3 : s.n = 0 := by omega
  rw [h3]
  clear h h0 h1 h2
  go_enter Tryd.func16, Tryd.ntmps16
  go_wp2_with (first | (go_at_call 31; (with_reducible refine (head_any p os ds _ (hp.below hX.bel) (hS.below hX.bel)).mono ?_); rintro e w1 ⟨rfl, hb⟩; rw [hH]; have hX := hX.call hb; obtain ⟨hr, hl, hs, hd⟩ := pk_at hX.h0; clear hb))
  go_ret
  exact RB.mk' rfl hX.bel
end Go.Proofs.YtleokgmflelkcaaDoor
