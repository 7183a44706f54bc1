/- mosaicref11.Join: what it computes (plain). -/
import Derived.Test.YtleokgmflelkcaaDoorD1
set_option linter.unusedSimpArgs false
set_option linter.unusedVariables false
namespace Go.Proofs.YtleokgmflelkcaaDoor
open Go Go.RowKit

def getAt (l : List Fp) (off : Int) : Option Fp := l.find? fun x => decide (x.p.off = off)
/-- The data, one packet behind the other; none: a gap. -/
def refGo (l : List Fp) (e : Int) : Nat → List Int → Option (List Int)
  | 0, ds => some ds
  | k + 1, ds => if (ds.length : Int) < e then (match getAt l ds.length with | none => none | some x => refGo l e k (ds ++ x.ds)) else some ds
/-- What mosaicref11.Join answers. -/
def refR (l : List Fp) : JR :=
  match fitsR l with
  | none => joinE 1
  | some e => if e < 0 then joinE 110 else match getAt l 0 with
    | none => joinE 110
    | some x => match refGo l e e.toNat x.ds with
      | none => joinE 110
      | some ds => if rightF { joinW x.p with d := ⟨none, ds.length, 0⟩ } x.os = false then joinE 1 else ⟨0, joinW x.p, x.os, ds⟩

theorem atF_shift (off : Int) : ∀ (l : List Fp) (i : Nat), (atF off i l = -1 ∧ getAt l off = none) ∨ ∃ (k : Nat) (x : Fp), atF off i l = ((i + k : Nat) : Int) ∧ l[k]? = some x ∧ x.p.off = off ∧ getAt l off = some x
  | [], i => .inl ⟨rfl, rfl⟩
  | x :: l, i => by
    by_cases h : x.p.off = off
    · exact .inr ⟨0, x, by rw [atF, if_pos h]; simp, rfl, h, by unfold getAt; simp [List.find?_cons, h]⟩
    · have e1 : atF off i (x :: l) = atF off (i + 1) l := by rw [atF, if_neg h]
      have e2 : getAt (x :: l) off = getAt l off := by unfold getAt; simp [List.find?_cons, h]
      rw [e1, e2]
      rcases atF_shift off l (i + 1) with h' | ⟨k, y, h1, h2, h3, h4⟩
      · exact .inl h'
      · exact .inr ⟨k + 1, y, by rw [h1]; congr 1; omega, by simpa using h2, h3, h4⟩
theorem atF_cases (off : Int) (l : List Fp) : (atF off 0 l = -1 ∧ getAt l off = none) ∨ ∃ (k : Nat) (x : Fp), atF off 0 l = (k : Int) ∧ l[k]? = some x ∧ x.p.off = off ∧ getAt l off = some x := by
  rcases atF_shift off l 0 with h | ⟨k, x, h1, h2⟩
  · exact .inl h
  · exact .inr ⟨k, x, by rw [h1]; congr 1; omega, h2⟩

/-- What fits has looked at. -/
structure FitOk (l r : List Fp) (k0 : Ky) : Prop where
  right : ∀ x ∈ r, rightF x.p x.os = true ∧ x.p.key = k0
theorem fitsGo_facts {k0 : Ky} {l : List Fp} : ∀ (r : List Fp) (i : Nat) (e e' : Int), fitsGo k0 l i e r = some e' → (∀ x ∈ r, rightF x.p x.os = true ∧ x.p.key = k0) ∧
    (0 ≤ e → e' = e ∧ ∀ x ∈ r, x.p.more = true) ∧ (e < 0 → (e' = e ∧ ∀ x ∈ r, x.p.more = true) ∨ (0 ≤ e' ∧ ∃ y ∈ r, y.p.more = false ∧ endsF y = e' ∧ ∀ x ∈ r, x.p.more = false → endsF x = e'))
  | [], i, e, e', h => by
    rw [fitsGo] at h
    cases h
    exact ⟨(fun x h => by cases h), fun _ => ⟨rfl, fun x h => by cases h⟩, fun _ => .inl ⟨rfl, fun x h => by cases h⟩⟩
  | x :: r, i, e, e', h => by
    rw [fitsGo] at h
    split at h
    · cases h
    rename_i h1
    split at h
    · cases h
    rename_i h2
    split at h
    · cases h
    have hx : rightF x.p x.os = true ∧ x.p.key = k0 := by
      constructor
      · cases hr : rightF x.p x.os
        · exact absurd (.inl hr) h1
        · rfl
      · by_cases hk : x.p.key = k0
        · exact hk
        · exact absurd (.inr hk) h1
    obtain ⟨a, b, c⟩ := fitsGo_facts r (i + 1) _ e' h
    refine ⟨fun y hy => ?_, fun he => ?_, fun he => ?_⟩
    · rcases List.mem_cons.1 hy with rfl | hy
      · exact hx
      · exact a y hy
    · cases hm : x.p.more
      · exact absurd ⟨hm, he⟩ h2
      · rw [hm] at b
        simp only [if_true] at b
        refine ⟨(b he).1, fun y hy => ?_⟩
        rcases List.mem_cons.1 hy with rfl | hy
        · exact hm
        · exact (b he).2 y hy
    · cases hm : x.p.more
      · rw [hm] at b
        simp only [Bool.false_eq_true, if_false] at b
        have hn := right_nums' hx.1
        have h0 : 0 ≤ endsF x := by unfold endsF; omega
        obtain ⟨b1, b2⟩ := b h0
        refine .inr ⟨by rw [b1]; exact h0, x, by simp, hm, b1.symm, fun y hy hy2 => ?_⟩
        rcases List.mem_cons.1 hy with rfl | hy
        · exact b1.symm
        · rw [b2 y hy] at hy2; cases hy2
      · rw [hm] at c
        simp only [if_true] at c
        rcases c he with ⟨c1, c2⟩ | ⟨c1, y, c2, c3, c4, c5⟩
        · refine .inl ⟨c1, fun y hy => ?_⟩
          rcases List.mem_cons.1 hy with rfl | hy
          · exact hm
          · exact c2 y hy
        · refine .inr ⟨c1, y, by simp [c2], c3, c4, fun z hz hz2 => ?_⟩
          rcases List.mem_cons.1 hz with rfl | hz
          · rw [hm] at hz2; cases hz2
          · exact c5 z hz hz2
theorem fitsR_facts {l : List Fp} {e : Int} (h : fitsR l = some e) : (∀ x ∈ l, rightF x.p x.os = true) ∧ (0 ≤ e → (∃ y ∈ l, y.p.more = false ∧ endsF y = e) ∧ ∀ x ∈ l, x.p.more = false → endsF x = e) := by
  cases l with
  | nil => exact ⟨(fun x h => by cases h), fun h0 => by rw [fitsR] at h; cases h; omega⟩
  | cons x l =>
    unfold fitsR at h
    simp only at h
    split at h
    · cases h
    rename_i e1 h1
    split at h
    · cases h
    cases h
    obtain ⟨a, _, c⟩ := fitsGo_facts _ _ _ _ h1
    refine ⟨fun y hy => (a y hy).1, fun h0 => ?_⟩
    rcases c (by omega) with ⟨c1, _⟩ | ⟨c1, y, c2, c3, c4, c5⟩
    · omega
    · exact ⟨⟨y, c2, c3, c4⟩, c5⟩
/-- A right packet without data begins at 0 and is the last. -/
theorem right_empty {p : Pk} {os : List Int} (h : rightF p os = true) (h0 : p.d.n = 0) : p.off = 0 ∧ p.more = false := by
  unfold rightF at h
  by_cases h4 : p.v = 4
  · rw [if_pos h4] at h
    simp only [right4F, f4F, placed4F, withinF, Bool.and_eq_true, Bool.or_eq_true, Bool.not_eq_true', decide_eq_true_eq, Bool.and_eq_false_iff, Bool.or_eq_false_iff, decide_eq_false_iff_not] at h
    obtain ⟨⟨⟨hA, ⟨⟨⟨hP1, hP2⟩, hP3⟩, hP4⟩, hP5⟩, hB⟩, _⟩ := h
    refine ⟨by omega, ?_⟩
    rcases hP4 with hP4 | hP4
    · exact hP4
    · exact absurd h0 hP4.1
  · rw [if_neg h4] at h
    simp only [right6F, r6a, r6b, r6c, withinF, Bool.and_eq_true, decide_eq_true_eq] at h
    obtain ⟨ha, hb, hc⟩ := h
    cases hf : p.frag
    · simp only [hf, Bool.false_eq_true, if_false, Bool.and_eq_true, decide_eq_true_eq, Bool.not_eq_true'] at hc
      exact ⟨hc.1.1.2, hc.1.2⟩
    · simp only [hf, if_true, Bool.and_eq_true, decide_eq_true_eq, h0, Bool.not_eq_true'] at hc
      exact hc.2
theorem refGo_stop {l : List Fp} {e : Int} {k : Nat} {ds : List Int} (h : ¬ (ds.length : Int) < e) : refGo l e k ds = some ds := by
  cases k
  · rfl
  · rw [refGo, if_neg h]
theorem refGo_none {l : List Fp} {e : Int} {k : Nat} {ds : List Int} (h : (ds.length : Int) < e) (hg : getAt l ds.length = none) : refGo l e (k + 1) ds = none := by
  rw [refGo, if_pos h, hg]
theorem refGo_go {l : List Fp} {e : Int} {k : Nat} {ds : List Int} {x : Fp} (h : (ds.length : Int) < e) (hg : getAt l ds.length = some x) : refGo l e (k + 1) ds = refGo l e k (ds ++ x.ds) := by
  rw [refGo, if_pos h, hg]
theorem rightF_sizes (p : Pk) (os : List Int) (o d o' d' : Sl) (h1 : o.n = o'.n) (h2 : d.n = d'.n) : rightF { p with o := o, d := d } os = rightF { p with o := o', d := d' } os := by
  simp only [rightF, right4F, f4F, placed4F, right6F, r6a, r6b, r6c]
  rw [h1, h2]

theorem refR_no {l : List Fp} (h : fitsR l = none) : refR l = joinE 1 := by unfold refR; rw [h]
theorem refR_gap1 {l : List Fp} {e : Int} (h : fitsR l = some e) (h0 : e < 0) : refR l = joinE 110 := by unfold refR; rw [h]; simp only; rw [if_pos h0]
theorem refR_gap2 {l : List Fp} {e : Int} (h : fitsR l = some e) (h0 : 0 ≤ e) (hg : getAt l 0 = none) : refR l = joinE 110 := by unfold refR; rw [h]; simp only; rw [if_neg (by omega), hg]
theorem refR_gap3 {l : List Fp} {e : Int} {x : Fp} (h : fitsR l = some e) (h0 : 0 ≤ e) (hg : getAt l 0 = some x) (hr : refGo l e e.toNat x.ds = none) : refR l = joinE 110 := by
  unfold refR; rw [h]; simp only; rw [if_neg (by omega), hg]; simp only; rw [hr]
theorem refR_ok {l : List Fp} {e : Int} {x : Fp} {ds : List Int} (h : fitsR l = some e) (h0 : 0 ≤ e) (hg : getAt l 0 = some x) (hr : refGo l e e.toNat x.ds = some ds) (s1 sd : Sl) (h1 : s1.n = x.p.o.n) (h2 : sd.n = ds.length) :
    refR l = if rightF { joinW x.p with o := s1, d := sd } x.os = false then joinE 1 else ⟨0, joinW x.p, x.os, ds⟩ := by
  have hh : rightF { joinW x.p with o := s1, d := sd } x.os = rightF { joinW x.p with d := ⟨none, ds.length, 0⟩ } x.os :=
    rightF_sizes (joinW x.p) x.os s1 sd (joinW x.p).o ⟨none, ds.length, 0⟩ (by rw [h1, joinW_o]) h2
  rw [hh]
  unfold refR; rw [h]; simp only; rw [if_neg (by omega), hg]; simp only; rw [hr]
end Go.Proofs.YtleokgmflelkcaaDoor
