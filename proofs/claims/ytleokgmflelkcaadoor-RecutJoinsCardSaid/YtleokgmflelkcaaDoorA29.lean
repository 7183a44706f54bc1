/- recut.Is, whole. -/
import Derived.Test.YtleokgmflelkcaaDoorA28
set_option linter.unusedSimpArgs false
set_option linter.unusedVariables false
namespace Go.Proofs.YtleokgmflelkcaaDoor
open Go Go.RowKit

/-- Is of any packet and any list; of Carry is asked only what it is asked for. -/
theorem is_any (p : Pk) (os ds co : List Int) (mtu : Int) (s : Sl) (l : List Fp) (w : World) (hp : PkIn w p os ds) (hS : Sh w) (hs : PkS w s l) (hm : s.n ≤ 925904528626)
    (hcar : right4F p os = true → p.df = false → 2 ≤ l.length → ∀ W, Sh W → Bs W p.o os → Calls Tryd.prog 27 #[.slice p.o.a p.o.n p.o.c] W (RS co W)) :
    Calls Tryd.prog 16 #[.agg (pkA p), .int .i64 mtu, .slice s.a s.n s.c] w (RB (.bool (isR p os ds co mtu l)) w) := by
  have hlen := hs.len
  by_cases h1 : headF p os = 0 ∨ mtu < 68 ∨ mtu > 65535 ∨ s.n = 0
  · have : isR p os ds co mtu l = false := by unfold isR; rw [hlen, if_pos h1]
    rw [this]
    exact is_err p os ds mtu s w hp hS (by omega)
  have hb : headF p os ≠ 0 ∧ 68 ≤ mtu ∧ mtu ≤ 65535 ∧ s.n ≠ 0 := ⟨fun h => h1 (.inl h), by omega, by omega, fun h => h1 (.inr (.inr (.inr h)))⟩
  match l, hlen, hs, hcar with
  | [], hlen, _, _ => exact absurd hlen.symm hb.2.2.2
  | [x], hlen, hs, _ =>
    have : isR p os ds co mtu [x] = (sameP p x.p os ds x.os x.ds && decide (headF p os + ds.length ≤ mtu)) := by unfold isR; rw [hlen, if_neg h1]
    rw [this]
    exact is_one p os ds mtu s x w hp hS hs hb.1 hb.2.1 hb.2.2.1
  | x :: y :: l, hlen, hs, hcar =>
    have h2 : 2 ≤ s.n := by rw [← hlen]; simp
    by_cases h3 : p.v ≠ 4 ∨ p.df = true
    · have : isR p os ds co mtu (x :: y :: l) = false := by unfold isR; rw [hlen, if_neg h1]; exact if_pos h3
      rw [this]
      exact is_no p os ds mtu s w hp hS hb.1 hb.2.1 hb.2.2.1 h2 h3
    · have : isR p os ds co mtu (x :: y :: l) = isF p os ds co mtu true 0 (x :: y :: l) := by unfold isR; rw [hlen, if_neg h1]; exact if_neg h3
      rw [this]
      have h4 : p.v = 4 := by by_cases h : p.v = 4; exact h; exact absurd (.inl h) h3
      have h5 : p.df = false := by cases h : p.df; rfl; exact absurd (.inr h) h3
      have h6 := headF_right (os := os) h4
      have h7 : right4F p os = true := by
        cases h : right4F p os
        · rw [h] at h6; exact absurd (by simpa using h6) hb.1
        · rfl
      exact is_list p os ds co mtu s _ w hp hS hs hm h7 hb.2.1 hb.2.2.1 h2 h5 (hcar h7 h5 (by simp))
end Go.Proofs.YtleokgmflelkcaaDoor
