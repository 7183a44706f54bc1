/- recut.Join: what it computes (plain). -/
import Derived.Test.YtleokgmflelkcaaDoorA25
import Derived.Test.YtleokgmflelkcaaDoorB2
set_option linter.unusedSimpArgs false
set_option linter.unusedVariables false
namespace Go.Proofs.YtleokgmflelkcaaDoor
open Go Go.RowKit

def endsF (x : Fp) : Int := x.p.off + (x.ds.length : Int)
/-- The first check: nothing lies behind the end. -/
def joinChk (tt last : Int) : Nat → List Fp → Bool
  | _, [] => true
  | i, x :: l => if (i : Int) ≠ last ∧ (tt ≤ x.p.off ∨ tt < endsF x) then false else joinChk tt last (i + 1) l
/-- The second: in the order, without overlaps; where it ends, and whether there is a gap. -/
def joinGo : Int → Bool → List Fp → Option (Int × Bool)
  | a, g, [] => some (a, g)
  | a, g, x :: l => if x.p.off < a then none else joinGo (endsF x) (g || decide (a < x.p.off)) l
/-- The fields of the whole. -/
def joinW (p : Pk) : Pk := if p.v = 6 then { p with more := false, frag := false, id := 0 } else { p with more := false }
def joinTo (l : List Fp) (last : Int) : Int := if 0 ≤ last then endsF (l.getD last.toNat ⟨zPk, [], []⟩) else 65536
structure JR where
  e : Int
  p : Pk
  os : List Int
  ds : List Int
def joinE (e : Int) : JR := ⟨e, zPk, [], []⟩
def joinR (l σ : List Fp) : JR :=
  match endR l with
  | none => joinE 1
  | some last =>
    if joinChk (joinTo l last) last 0 l = false then joinE 1
    else match joinGo 0 (decide (last < 0)) σ with
    | none => joinE 1
    | some (a, g) => if g = true ∨ a ≠ joinTo l last then joinE 110 else
      match σ with
      | [] => joinE 110
      | x :: _ => if headF { joinW x.p with d := ⟨none, (σ.flatMap Fp.ds).length, 0⟩ } x.os = 0 then joinE 1 else ⟨0, joinW x.p, x.os, σ.flatMap Fp.ds⟩

/-- What Join answers: its list in some order that is sorted by offsets. -/
def RJ (l : List Fp) (w : World) (e : Ending) (w' : World) : Prop :=
  ∃ (σ : List Fp) (s1 s2 : Sl), σ.Perm l ∧ SortedO σ ∧ e = .returned (.tuple #[.agg (pkA { (joinR l σ).p with o := s1, d := s2 }), .int .i64 (joinR l σ).e]) ∧ Own w.heap.size w' s1 (joinR l σ).os ∧ Own w.heap.size w' s2 (joinR l σ).ds ∧ Below w.heap.size w w'

/-- The numbers of a right packet. -/
theorem right_nums {p : Pk} {os : List Int} (h : headF p os ≠ 0) : 0 ≤ p.off ∧ p.off + p.d.n ≤ 65535 ∧ (p.v = 4 ∨ p.v = 6) := by
  have hr : rightF p os = true := by
    cases h' : rightF p os
    · rw [headF, h'] at h; simp at h
    · rfl
  unfold rightF at hr
  by_cases h4 : p.v = 4
  · rw [if_pos h4] at hr
    have := right4_nums hr
    omega
  · rw [if_neg h4] at hr
    simp only [right6F, r6a, r6b, r6c, withinF, Bool.and_eq_true, decide_eq_true_eq] at hr
    obtain ⟨ha, hb, hc⟩ := hr
    cases hf : p.frag
    · simp only [hf, Bool.false_eq_true, if_false, Bool.and_eq_true, decide_eq_true_eq] at hc
      omega
    · simp only [hf, if_true, Bool.and_eq_true, decide_eq_true_eq] at hc
      omega

theorem endF_right {k0 : Ky} : ∀ (l : List Fp) (i : Nat) (a : Int) {r : Int}, endF k0 i a l = some r → ∀ x ∈ l, headF x.p x.os ≠ 0 ∧ x.p.key = k0
  | [], _, _, _, _, x, hx => by cases hx
  | y :: l, i, a, r, h, x, hx => by
    rw [endF] at h
    split at h
    · cases h
    · rename_i hc
      rcases List.mem_cons.1 hx with rfl | hx
      · exact ⟨fun h => hc (.inl h), by by_cases h : x.p.key = k0; exact h; exact absurd (.inr (.inl h)) hc⟩
      · exact endF_right l _ _ h x hx
theorem endF_range {k0 : Ky} : ∀ (l : List Fp) (i : Nat) (a : Int) {r : Int}, endF k0 i a l = some r → -1 ≤ a → a < i → -1 ≤ r ∧ r < i + l.length
  | [], i, a, r, h, h1, h2 => by
    rw [endF] at h
    cases h
    simp; omega
  | y :: l, i, a, r, h, h1, h2 => by
    rw [endF] at h
    split at h
    · cases h
    · have := endF_range l (i + 1) _ h (by split <;> omega) (by split <;> omega)
      simp; omega
theorem endR_right {l : List Fp} {r : Int} (h : endR l = some r) : (∀ x ∈ l, headF x.p x.os ≠ 0) ∧ -1 ≤ r ∧ r < l.length := by
  cases l with
  | nil => rw [endR] at h; cases h; exact ⟨(fun x h => by cases h), by omega, by simp⟩
  | cons x l =>
    have h1 := endF_right _ _ _ h
    have h2 := endF_range _ _ _ h (by omega) (by omega)
    exact ⟨fun y hy => (h1 y hy).1, h2.1, by simpa using h2.2⟩

theorem joinGo_sum : ∀ (σ : List Fp) (a b : Int) (g : Bool), joinGo a g σ = some (b, false) → g = false ∧ a + (σ.flatMap Fp.ds).length = b
  | [], a, b, g, h => by rw [joinGo] at h; cases h; exact ⟨rfl, by simp⟩
  | x :: l, a, b, g, h => by
    rw [joinGo] at h
    split at h
    · cases h
    · have := joinGo_sum l _ _ _ h
      simp only [Bool.or_eq_false_iff, decide_eq_false_iff_not, endsF] at this
      refine ⟨this.1.1, ?_⟩
      rw [List.flatMap_cons, List.length_append]
      omega

theorem headF_sizes (p : Pk) (os : List Int) (o d o' d' : Sl) (h1 : o.n = o'.n) (h2 : d.n = d'.n) : headF { p with o := o, d := d } os = headF { p with o := o', d := d' } os := by
  simp only [headF, rightF, right4F, f4F, placed4F, right6F, r6a, r6b, r6c, head6F]
  rw [h1, h2]
end Go.Proofs.YtleokgmflelkcaaDoor
