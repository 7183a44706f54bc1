/- RecutRefuses, plain: what Recut answers on the law's packets. -/
import Derived.Test.YtleokgmflelkcaaDoorVC0
set_option linter.unusedSimpArgs false
set_option linter.unusedVariables false
namespace Go.Proofs.YtleokgmflelkcaaDoor
open Go Go.RowKit

theorem lrestF_range (n : Int) : 0 ≤ lrestF n 255 ∧ lrestF n 255 ≤ 255 := by
  unfold lrestF
  have := Int.emod_nonneg n (show (255 + 1 : Int) ≠ 0 by decide)
  have := Int.emod_lt_of_pos n (show (0 : Int) < 255 + 1 by decide)
  omega
theorem adrK_four (a : Adr) : fourF (adrK a 4) = true := by
  unfold fourF
  rw [Bool.and_eq_true]
  refine ⟨rfl, ?_⟩
  unfold zerosA zeros
  have hl : (a.b.take 4).length = 4 := by have := a.hb; simp; omega
  show (((a.b.take 4 ++ List.replicate (16 - min 4 16) 0)).drop 4).all (· == 0) = true
  rw [List.drop_append_of_le_length (by omega), List.drop_eq_nil_of_le (by omega)]
  decide
theorem rightOs_valid (os : List Int) : validO (rightOs os) = true := by
  unfold rightOs
  split
  · assumption
  · exact valid_nil
theorem rightOs_len (os : List Int) : (rightOs os).length ≤ 40 := by
  have := rightOs_valid os
  simp only [validO, Bool.and_eq_true, decide_eq_true_eq] at this
  exact this.1.1
theorem rightDs_len (os ds : List Int) : (rightDs os ds).length ≤ 65515 - (rightOs os).length := by
  unfold rightDs
  rw [List.length_take]
  omega

/-- right's packet is right, with DF or without. -/
theorem right_is (p : Pk) (os ds : List Int) (s1 s2 : Sl) (df : Bool) (h1 : s1.n = (rightOs os).length) (h2 : s2.n = (rightDs os ds).length) : right4F { rightP p with df := df, o := s1, d := s2 } (rightOs os) = true := by
  have a1 := adrK_four p.src
  have a2 := adrK_four p.dst
  have b1 := lrestF_range p.tos
  have b2 := lrestF_range p.proto
  have b3 := lrestF_range p.ttl
  have b4 : p.id.tmod 65536 ≤ 65535 := by have := Int.tmod_lt_of_pos p.id (show (0 : Int) < 65536 by decide); omega
  have c1 := rightOs_len os
  have c2 := rightDs_len os ds
  simp only [right4F, f4F, placed4F, rightP, r0, rightOs_valid, a1, a2, withinF, Bool.and_true, Bool.and_eq_true, decide_eq_true_eq, h1, h2]
  simp
  exact ⟨⟨⟨⟨⟨decide_eq_true b4, decide_eq_true b1.1, decide_eq_true b1.2⟩, decide_eq_true b2.1, decide_eq_true b2.2⟩, decide_eq_true b3.1, decide_eq_true b3.2⟩, by omega⟩, by omega⟩

theorem size_right (p : Pk) (os ds : List Int) (s1 s2 : Sl) (df : Bool) (h1 : s1.n = (rightOs os).length) (h2 : s2.n = (rightDs os ds).length) : headF { rightP p with df := df, o := s1, d := s2 } (rightOs os) = 20 + (s1.n : Int) := by
  rw [headF_right rfl, right_is p os ds s1 s2 df h1 h2, if_pos rfl]
/-- A time to live beyond 255: not right. -/
theorem bad_ttl (p : Pk) (os : List Int) (h : p.ttl = 256) : headF p os = 0 := by
  have : rightF p os = false := by
    unfold rightF
    split
    · simp [right4F, f4F, withinF, h]
    · simp [right6F, r6b, withinF, h]
  unfold headF
  rw [this]
  rfl
theorem recutR_err {p : Pk} {os ds co : List Int} {mtu : Int} (h : headF p os = 0 ∨ mtu < 68 ∨ mtu > 65535) : recutR p os ds co mtu = (1, []) := by unfold recutR; rw [if_pos h]
theorem recutR_whole {p : Pk} {os ds co : List Int} {mtu : Int} (h : ¬ (headF p os = 0 ∨ mtu < 68 ∨ mtu > 65535)) (h2 : headF p os + ds.length ≤ mtu) : recutR p os ds co mtu = (0, [p.mp os ds]) := by unfold recutR; rw [if_neg h, if_pos h2]
theorem recutR_big {p : Pk} {os ds co : List Int} {mtu : Int} (h : ¬ (headF p os = 0 ∨ mtu < 68 ∨ mtu > 65535)) (h2 : ¬ headF p os + ds.length ≤ mtu) (h3 : p.v ≠ 4 ∨ p.df = true) : recutR p os ds co mtu = (100, []) := by unfold recutR; rw [if_neg h, if_neg h2, if_pos h3]

/-- The law's packet of IPv6. -/
def sixAdr (a : Adr) : Adr := ⟨6, a.b, a.hb, a.hr⟩
def sixP (p : Pk) (s2 : Sl) : Pk := ⟨6, 0, 0, sixAdr p.src, sixAdr p.dst, 17, 9, 0, false, false, false, 0, ⟨none, 0, 0⟩, s2⟩
theorem six_is (p : Pk) (s2 : Sl) (h : s2.n ≤ 65535) : right6F (sixP p s2) = true := by
  simp [right6F, r6a, r6b, r6c, sixP, sixAdr, sixF, withinF]
  exact decide_eq_true h
theorem six_head (p : Pk) (s2 : Sl) (h : s2.n ≤ 65535) : headF (sixP p s2) [] = 40 := by
  have hr : rightF (sixP p s2) [] = true := by
    unfold rightF
    rw [if_neg (by simp [sixP])]
    exact six_is p s2 h
  unfold headF
  rw [hr, if_pos rfl, if_neg (by simp [sixP])]
  rfl
/-- Is of a list of the packet alone. -/
theorem isR_one {p q : Pk} {os ds os' ds' co : List Int} {mtu : Int} : isR p os ds co mtu [⟨q, os', ds'⟩] = (if headF p os = 0 ∨ mtu < 68 ∨ mtu > 65535 then false else sameP p q os ds os' ds' && decide (headF p os + ds.length ≤ mtu)) := by
  unfold isR
  by_cases h : headF p os = 0 ∨ mtu < 68 ∨ mtu > 65535
  · rw [if_pos h, if_pos (by rcases h with h | h | h; exact .inl h; exact .inr (.inl h); exact .inr (.inr (.inl h)))]
  · rw [if_neg h, if_neg (by rintro (h' | h' | h' | h'); exact h (.inl h'); exact h (.inr (.inl h')); exact h (.inr (.inr h')); simp at h')]
theorem sameP_self (p : Pk) (os ds : List Int) (o d : Sl) : sameP p { p with o := o, d := d } os ds os ds = true := by
  simp [sameP, Pk.bare]
end Go.Proofs.YtleokgmflelkcaaDoor
