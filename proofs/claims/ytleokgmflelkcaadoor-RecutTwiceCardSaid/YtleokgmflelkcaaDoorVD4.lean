/- mosaicref11.Join: what it computes (plain). recut.Join and mosaicref11.Join answer alike (plain). -/
import Derived.Test.YtleokgmflelkcaaDoorVD1
import Derived.Test.YtleokgmflelkcaaDoorVB7
set_option linter.unusedSimpArgs false
set_option linter.unusedVariables false
namespace Go.Proofs.YtleokgmflelkcaaDoor
open Go Go.RowKit

def getAt (l : List Fp) (off : Int) : Option Fp := l.find? fun x => decide (x.p.off = off)
/-- The data, one packet behind the other; none: a gap. -/
def refGo (l : List Fp) (e : Int) : Nat → List Int → Option (List Int)
  | 0, ds => some ds
  | k + 1, ds => if (ds.length : Int) < e then (match getAt l ds.length with | none => none | some x => refGo l e k (ds ++ x.ds)) else some ds
/-- What mosaicref11.Join answers. -/
def refR (l : List Fp) : JR :=
  match fitsR l with
  | none => joinE 1
  | some e => if e < 0 then joinE 110 else match getAt l 0 with
    | none => joinE 110
    | some x => match refGo l e e.toNat x.ds with
      | none => joinE 110
      | some ds => if rightF { joinW x.p with d := ⟨none, ds.length, 0⟩ } x.os = false then joinE 1 else ⟨0, joinW x.p, x.os, ds⟩

theorem atF_shift (off : Int) : ∀ (l : List Fp) (i : Nat), (atF off i l = -1 ∧ getAt l off = none) ∨ ∃ (k : Nat) (x : Fp), atF off i l = ((i + k : Nat) : Int) ∧ l[k]? = some x ∧ x.p.off = off ∧ getAt l off = some x
  | [], i => .inl ⟨rfl, rfl⟩
  | x :: l, i => by
    by_cases h : x.p.off = off
    · exact .inr ⟨0, x, by rw [atF, if_pos h]; simp, rfl, h, by unfold getAt; simp [List.find?_cons, h]⟩
    · have e1 : atF off i (x :: l) = atF off (i + 1) l := by rw [atF, if_neg h]
      have e2 : getAt (x :: l) off = getAt l off := by unfold getAt; simp [List.find?_cons, h]
      rw [e1, e2]
      rcases atF_shift off l (i + 1) with h' | ⟨k, y, h1, h2, h3, h4⟩
      · exact .inl h'
      · exact .inr ⟨k + 1, y, by rw [h1]; congr 1; omega, by simpa using h2, h3, h4⟩
theorem atF_cases (off : Int) (l : List Fp) : (atF off 0 l = -1 ∧ getAt l off = none) ∨ ∃ (k : Nat) (x : Fp), atF off 0 l = (k : Int) ∧ l[k]? = some x ∧ x.p.off = off ∧ getAt l off = some x := by
  rcases atF_shift off l 0 with h | ⟨k, x, h1, h2⟩
  · exact .inl h
  · exact .inr ⟨k, x, by rw [h1]; congr 1; omega, h2⟩

/-- What fits has looked at. -/
structure FitOk (l r : List Fp) (k0 : Ky) : Prop where
  right : ∀ x ∈ r, rightF x.p x.os = true ∧ x.p.key = k0
theorem fitsGo_facts {k0 : Ky} {l : List Fp} : ∀ (r : List Fp) (i : Nat) (e e' : Int), fitsGo k0 l i e r = some e' → (∀ x ∈ r, rightF x.p x.os = true ∧ x.p.key = k0) ∧
    (0 ≤ e → e' = e ∧ ∀ x ∈ r, x.p.more = true) ∧ (e < 0 → (e' = e ∧ ∀ x ∈ r, x.p.more = true) ∨ (0 ≤ e' ∧ ∃ y ∈ r, y.p.more = false ∧ endsF y = e' ∧ ∀ x ∈ r, x.p.more = false → endsF x = e'))
  | [], i, e, e', h => by
    rw [fitsGo] at h
    cases h
    exact ⟨(fun x h => by cases h), fun _ => ⟨rfl, fun x h => by cases h⟩, fun _ => .inl ⟨rfl, fun x h => by cases h⟩⟩
  | x :: r, i, e, e', h => by
    rw [fitsGo] at h
    split at h
    · cases h
    rename_i h1
    split at h
    · cases h
    rename_i h2
    split at h
    · cases h
    have hx : rightF x.p x.os = true ∧ x.p.key = k0 := by
      constructor
      · cases hr : rightF x.p x.os
        · exact absurd (.inl hr) h1
        · rfl
      · by_cases hk : x.p.key = k0
        · exact hk
        · exact absurd (.inr hk) h1
    obtain ⟨a, b, c⟩ := fitsGo_facts r (i + 1) _ e' h
    refine ⟨fun y hy => ?_, fun he => ?_, fun he => ?_⟩
    · rcases List.mem_cons.1 hy with rfl | hy
      · exact hx
      · exact a y hy
    · cases hm : x.p.more
      · exact absurd ⟨hm, he⟩ h2
      · rw [hm] at b
        simp only [if_true] at b
        refine ⟨(b he).1, fun y hy => ?_⟩
        rcases List.mem_cons.1 hy with rfl | hy
        · exact hm
        · exact (b he).2 y hy
    · cases hm : x.p.more
      · rw [hm] at b
        simp only [Bool.false_eq_true, if_false] at b
        have hn := right_nums' hx.1
        have h0 : 0 ≤ endsF x := by unfold endsF; omega
        obtain ⟨b1, b2⟩ := b h0
        refine .inr ⟨by rw [b1]; exact h0, x, by simp, hm, b1.symm, fun y hy hy2 => ?_⟩
        rcases List.mem_cons.1 hy with rfl | hy
        · exact b1.symm
        · rw [b2 y hy] at hy2; cases hy2
      · rw [hm] at c
        simp only [if_true] at c
        rcases c he with ⟨c1, c2⟩ | ⟨c1, y, c2, c3, c4, c5⟩
        · refine .inl ⟨c1, fun y hy => ?_⟩
          rcases List.mem_cons.1 hy with rfl | hy
          · exact hm
          · exact c2 y hy
        · refine .inr ⟨c1, y, by simp [c2], c3, c4, fun z hz hz2 => ?_⟩
          rcases List.mem_cons.1 hz with rfl | hz
          · rw [hm] at hz2; cases hz2
          · exact c5 z hz hz2
theorem fitsR_facts {l : List Fp} {e : Int} (h : fitsR l = some e) : (∀ x ∈ l, rightF x.p x.os = true) ∧ (0 ≤ e → (∃ y ∈ l, y.p.more = false ∧ endsF y = e) ∧ ∀ x ∈ l, x.p.more = false → endsF x = e) := by
  cases l with
  | nil => exact ⟨(fun x h => by cases h), fun h0 => by rw [fitsR] at h; cases h; omega⟩
  | cons x l =>
    unfold fitsR at h
    simp only at h
    split at h
    · cases h
    rename_i e1 h1
    split at h
    · cases h
    cases h
    obtain ⟨a, _, c⟩ := fitsGo_facts _ _ _ _ h1
    refine ⟨fun y hy => (a y hy).1, fun h0 => ?_⟩
    rcases c (by omega) with ⟨c1, _⟩ | ⟨c1, y, c2, c3, c4, c5⟩
    · omega
    · exact ⟨⟨y, c2, c3, c4⟩, c5⟩
/-- A right packet without data begins at 0 and is the last. -/
theorem right_empty {p : Pk} {os : List Int} (h : rightF p os = true) (h0 : p.d.n = 0) : p.off = 0 ∧ p.more = false := by
  unfold rightF at h
  by_cases h4 : p.v = 4
  · rw [if_pos h4] at h
    simp only [right4F, f4F, placed4F, withinF, Bool.and_eq_true, Bool.or_eq_true, Bool.not_eq_true', decide_eq_true_eq, Bool.and_eq_false_iff, Bool.or_eq_false_iff, decide_eq_false_iff_not] at h
    obtain ⟨⟨⟨hA, ⟨⟨⟨hP1, hP2⟩, hP3⟩, hP4⟩, hP5⟩, hB⟩, _⟩ := h
    refine ⟨by omega, ?_⟩
    rcases hP4 with hP4 | hP4
    · exact hP4
    · exact absurd h0 hP4.1
  · rw [if_neg h4] at h
    simp only [right6F, r6a, r6b, r6c, withinF, Bool.and_eq_true, decide_eq_true_eq] at h
    obtain ⟨ha, hb, hc⟩ := h
    cases hf : p.frag
    · simp only [hf, Bool.false_eq_true, if_false, Bool.and_eq_true, decide_eq_true_eq, Bool.not_eq_true'] at hc
      exact ⟨hc.1.1.2, hc.1.2⟩
    · simp only [hf, if_true, Bool.and_eq_true, decide_eq_true_eq, h0, Bool.not_eq_true'] at hc
      exact hc.2
theorem refGo_stop {l : List Fp} {e : Int} {k : Nat} {ds : List Int} (h : ¬ (ds.length : Int) < e) : refGo l e k ds = some ds := by
  cases k
  · rfl
  · rw [refGo, if_neg h]
theorem refGo_none {l : List Fp} {e : Int} {k : Nat} {ds : List Int} (h : (ds.length : Int) < e) (hg : getAt l ds.length = none) : refGo l e (k + 1) ds = none := by
  rw [refGo, if_pos h, hg]
theorem refGo_go {l : List Fp} {e : Int} {k : Nat} {ds : List Int} {x : Fp} (h : (ds.length : Int) < e) (hg : getAt l ds.length = some x) : refGo l e (k + 1) ds = refGo l e k (ds ++ x.ds) := by
  rw [refGo, if_pos h, hg]
theorem rightF_sizes (p : Pk) (os : List Int) (o d o' d' : Sl) (h1 : o.n = o'.n) (h2 : d.n = d'.n) : rightF { p with o := o, d := d } os = rightF { p with o := o', d := d' } os := by
  simp only [rightF, right4F, f4F, placed4F, right6F, r6a, r6b, r6c]
  rw [h1, h2]

theorem refR_no {l : List Fp} (h : fitsR l = none) : refR l = joinE 1 := by unfold refR; rw [h]
theorem refR_gap1 {l : List Fp} {e : Int} (h : fitsR l = some e) (h0 : e < 0) : refR l = joinE 110 := by unfold refR; rw [h]; simp only; rw [if_pos h0]
theorem refR_gap2 {l : List Fp} {e : Int} (h : fitsR l = some e) (h0 : 0 ≤ e) (hg : getAt l 0 = none) : refR l = joinE 110 := by unfold refR; rw [h]; simp only; rw [if_neg (by omega), hg]
theorem refR_gap3 {l : List Fp} {e : Int} {x : Fp} (h : fitsR l = some e) (h0 : 0 ≤ e) (hg : getAt l 0 = some x) (hr : refGo l e e.toNat x.ds = none) : refR l = joinE 110 := by
  unfold refR; rw [h]; simp only; rw [if_neg (by omega), hg]; simp only; rw [hr]
theorem refR_ok {l : List Fp} {e : Int} {x : Fp} {ds : List Int} (h : fitsR l = some e) (h0 : 0 ≤ e) (hg : getAt l 0 = some x) (hr : refGo l e e.toNat x.ds = some ds) (s1 sd : Sl) (h1 : s1.n = x.p.o.n) (h2 : sd.n = ds.length) :
    refR l = if rightF { joinW x.p with o := s1, d := sd } x.os = false then joinE 1 else ⟨0, joinW x.p, x.os, ds⟩ := by
  have hh : rightF { joinW x.p with o := s1, d := sd } x.os = rightF { joinW x.p with d := ⟨none, ds.length, 0⟩ } x.os :=
    rightF_sizes (joinW x.p) x.os s1 sd (joinW x.p).o ⟨none, ds.length, 0⟩ (by rw [h1, joinW_o]) h2
  rw [hh]
  unfold refR; rw [h]; simp only; rw [if_neg (by omega), hg]; simp only; rw [hr]
end Go.Proofs.YtleokgmflelkcaaDoor
namespace Go.Proofs.YtleokgmflelkcaaDoor
open Go Go.RowKit

theorem headF_zero (p : Pk) (os : List Int) : headF p os = 0 ↔ rightF p os = false := by
  unfold headF
  cases h : rightF p os
  · simp
  · simp only [if_true]
    constructor
    · intro h'
      by_cases h4 : p.v = 4
      · rw [if_pos h4] at h'; omega
      · rw [if_neg h4] at h'; unfold head6F at h'; split at h' <;> omega
    · intro h'; cases h'

theorem ovl_comm (x y : Fp) : ovl x y = ovl y x := by unfold ovl; rw [Bool.and_comm]
def NoOv (l : List Fp) : Prop := l.Pairwise fun x y => ovl x y = false
theorem noOv_take {l : List Fp} (h : ∀ i x, l[i]? = some x → (l.take i).any (ovl x) = false) : NoOv l := by
  unfold NoOv
  rw [List.pairwise_iff_getElem]
  intro i j hi hj hij
  have := h j _ (List.getElem?_eq_getElem hj)
  rw [List.any_eq_false] at this
  have hm : l[i] ∈ l.take j := by
    rw [List.mem_take_iff_getElem]
    exact ⟨i, by omega, rfl⟩
  have := this _ hm
  rw [ovl_comm]
  simpa using this
theorem take_noOv {l : List Fp} (h : NoOv l) (i : Nat) (x : Fp) (hx : l[i]? = some x) : (l.take i).any (ovl x) = false := by
  unfold NoOv at h
  rw [List.pairwise_iff_getElem] at h
  rw [List.any_eq_false]
  intro y hy
  rw [List.mem_take_iff_getElem] at hy
  obtain ⟨j, hj, rfl⟩ := hy
  obtain ⟨hi, rfl⟩ := List.getElem?_eq_some_iff.1 hx
  have := h j i (by omega) hi (by omega)
  rw [ovl_comm] at this
  simp [this]

theorem end_of_fits {k0 : Ky} {L : List Fp} : ∀ (r : List Fp) (i j : Nat) (e a e' : Int), fitsGo k0 L i e r = some e' → (0 ≤ e ↔ 0 ≤ a) → ∃ q, endF k0 j a r = some q
  | [], i, j, e, a, e', h, ha => ⟨a, rfl⟩
  | x :: r, i, j, e, a, e', h, ha => by
    rw [fitsGo] at h
    split at h
    · cases h
    rename_i h1
    split at h
    · cases h
    rename_i h2
    split at h
    · cases h
    have hr : rightF x.p x.os = true := by
      cases hr : rightF x.p x.os
      · exact absurd (.inl hr) h1
      · rfl
    have hn := right_nums' hr
    rw [endF, if_neg (by
      rw [headF_zero, hr]
      rintro (h | h | ⟨h, h'⟩)
      · cases h
      · exact h1 (.inr h)
      · exact h2 ⟨h, ha.2 h'⟩)]
    refine end_of_fits r (i + 1) (j + 1) _ _ e' h ?_
    cases x.p.more
    · simp only [Bool.false_eq_true, if_false]
      unfold endsF
      constructor <;> intro <;> omega
    · simpa using ha
theorem fits_of_end {k0 : Ky} {L : List Fp} (hov : NoOv L) : ∀ (r : List Fp) (i j : Nat) (e a q : Int), endF k0 j a r = some q → (0 ≤ e ↔ 0 ≤ a) → 0 ≤ (j : Int) → L.drop i = r → ∃ e', fitsGo k0 L i e r = some e'
  | [], i, j, e, a, q, h, ha, hj, hd => ⟨e, rfl⟩
  | x :: r, i, j, e, a, q, h, ha, hj, hd => by
    rw [endF] at h
    split at h
    · cases h
    rename_i h1
    have hr : rightF x.p x.os = true := by
      cases hr : rightF x.p x.os
      · exact absurd (.inl ((headF_zero _ _).2 hr)) h1
      · rfl
    have hn := right_nums' hr
    have hx : L[i]? = some x := by
      have := congrArg (·[0]?) hd
      simpa using this
    have hd2 : L.drop (i + 1) = r := by
      have := congrArg List.tail hd
      simpa using this
    rw [fitsGo_go hr (by
      by_cases h : x.p.key = k0
      · exact h
      · exact absurd (.inr (.inl h)) h1) (fun h => h1 (.inr (.inr ⟨h.1, ha.1 h.2⟩))) (take_noOv hov i x hx) rfl]
    refine fits_of_end hov r (i + 1) (j + 1) _ _ q h ?_ (by omega) hd2
    cases x.p.more
    · simp only [Bool.false_eq_true, if_false]
      unfold endsF
      constructor <;> intro <;> omega
    · simpa using ha
theorem noOv_of_fits {k0 : Ky} {L : List Fp} : ∀ (r : List Fp) (i : Nat) (e e' : Int), fitsGo k0 L i e r = some e' → L.drop i = r → ∀ m x, i ≤ m → L[m]? = some x → (L.take m).any (ovl x) = false
  | [], i, e, e', h, hd, m, x, hm, hx => by
    have h1 := (List.getElem?_eq_some_iff.1 hx).1
    have h2 := congrArg List.length hd
    simp at h2
    omega
  | y :: r, i, e, e', h, hd, m, x, hm, hx => by
    rw [fitsGo] at h
    split at h
    · cases h
    split at h
    · cases h
    split at h
    · cases h
    rename_i h3
    have hy : L[i]? = some y := by
      have := congrArg (·[0]?) hd
      simpa using this
    have hd2 : L.drop (i + 1) = r := by
      have := congrArg List.tail hd
      simpa using this
    by_cases hmi : m = i
    · subst hmi
      rw [hy] at hx
      cases hx
      simpa using h3
    · exact noOv_of_fits r (i + 1) _ e' h hd2 m x (by omega) hx

theorem endF_some {k0 : Ky} : ∀ (l : List Fp) (i : Nat) (a r : Int), endF k0 i a l = some r → (0 ≤ a → r = a ∧ ∀ x ∈ l, x.p.more = true) ∧ (a < 0 → (r = a ∧ ∀ x ∈ l, x.p.more = true) ∨ ∃ (j : Nat) (x : Fp), l[j]? = some x ∧ x.p.more = false ∧ r = ((i + j : Nat) : Int) ∧ ∀ j' y, l[j']? = some y → y.p.more = false → j' = j)
  | [], i, a, r, h => by
    rw [endF] at h
    cases h
    exact ⟨fun _ => ⟨rfl, fun x h => by cases h⟩, fun _ => .inl ⟨rfl, fun x h => by cases h⟩⟩
  | x :: l, i, a, r, h => by
    rw [endF] at h
    split at h
    · cases h
    rename_i h1
    obtain ⟨b, c⟩ := endF_some l (i + 1) _ r h
    cases hm : x.p.more
    · rw [hm] at b
      simp only [Bool.false_eq_true, if_false] at b
      obtain ⟨b1, b2⟩ := b (by omega)
      refine ⟨fun h0 => absurd (.inr (.inr ⟨hm, h0⟩)) h1, fun h0 => .inr ⟨0, x, rfl, hm, by rw [b1]; simp, fun j' y hy hy2 => ?_⟩⟩
      cases j' with
      | zero => rfl
      | succ j' =>
        have := b2 y (List.mem_of_getElem? (by simpa using hy))
        rw [this] at hy2; cases hy2
    · rw [hm] at b c
      simp only [if_true] at b c
      refine ⟨fun h0 => ⟨(b h0).1, fun y hy => ?_⟩, fun h0 => ?_⟩
      · rcases List.mem_cons.1 hy with rfl | hy
        · exact hm
        · exact (b h0).2 y hy
      · rcases c h0 with ⟨c1, c2⟩ | ⟨j, y, c1, c2, c3, c4⟩
        · refine .inl ⟨c1, fun y hy => ?_⟩
          rcases List.mem_cons.1 hy with rfl | hy
          · exact hm
          · exact c2 y hy
        · refine .inr ⟨j + 1, y, by simpa using c1, c2, by rw [c3]; congr 1; omega, fun j' z hz hz2 => ?_⟩
          cases j' with
          | zero =>
            simp only [List.getElem?_cons_zero, Option.some.injEq] at hz
            subst hz
            rw [hm] at hz2; cases hz2
          | succ j' =>
            have := c4 j' z (by simpa using hz) hz2
            omega

theorem joinChk_false {tt last : Int} : ∀ (l : List Fp) (i : Nat), joinChk tt last i l = false → ∃ (j : Nat) (x : Fp), l[j]? = some x ∧ ((i + j : Nat) : Int) ≠ last ∧ (tt ≤ x.p.off ∨ tt < endsF x)
  | [], i, h => by rw [joinChk] at h; cases h
  | x :: l, i, h => by
    rw [joinChk] at h
    split at h
    · rename_i h1
      exact ⟨0, x, rfl, by simpa using h1.1, h1.2⟩
    · obtain ⟨j, y, h1, h2, h3⟩ := joinChk_false l (i + 1) h
      exact ⟨j + 1, y, by simpa using h1, by rw [← Nat.add_assoc, Nat.add_right_comm]; exact h2, h3⟩
theorem joinChk_true {tt last : Int} : ∀ (l : List Fp) (i : Nat), joinChk tt last i l = true → ∀ (j : Nat) (x : Fp), l[j]? = some x → ((i + j : Nat) : Int) ≠ last → x.p.off < tt ∧ endsF x ≤ tt
  | [], i, h, j, x, hx, hj => by simp at hx
  | y :: l, i, h, j, x, hx, hj => by
    rw [joinChk] at h
    split at h
    · cases h
    rename_i h1
    cases j with
    | zero =>
      simp only [List.getElem?_cons_zero, Option.some.injEq] at hx
      subst hx
      by_cases h2 : (i : Int) = last
      · exact absurd (by simpa using h2) hj
      · constructor
        · exact Int.not_le.1 fun h => h1 ⟨h2, .inl h⟩
        · exact Int.not_lt.1 fun h => h1 ⟨h2, .inr h⟩
    | succ j => exact joinChk_true l (i + 1) h j x (by simpa using hx) (by rw [Nat.add_assoc, Nat.add_comm 1 j]; exact hj)

theorem joinGo_some : ∀ (σ : List Fp) (a b : Int) (g g' : Bool), joinGo a g σ = some (b, g') → (∀ x ∈ σ, x.p.off ≤ endsF x) → (∀ x ∈ σ, a ≤ x.p.off) ∧ σ.Pairwise (fun x y => endsF x ≤ y.p.off) ∧ (∀ x ∈ σ, endsF x ≤ b) ∧ (σ = [] ∧ b = a ∨ ∃ x ∈ σ, endsF x = b) ∧ (g = true → g' = true)
  | [], a, b, g, g', h, hl => by
    rw [joinGo] at h
    cases h
    exact ⟨(fun x h => by cases h), .nil, (fun x h => by cases h), .inl ⟨rfl, rfl⟩, id⟩
  | x :: σ, a, b, g, g', h, hl => by
    rw [joinGo] at h
    split at h
    · cases h
    rename_i h1
    obtain ⟨c1, c2, c3, c4, c5⟩ := joinGo_some σ _ b _ g' h (fun y hy => hl y (List.mem_cons_of_mem _ hy))
    have hx := hl x (by simp)
    refine ⟨fun y hy => ?_, List.pairwise_cons.2 ⟨c1, c2⟩, fun y hy => ?_, .inr ?_, fun hg => c5 (by rw [hg]; rfl)⟩
    · rcases List.mem_cons.1 hy with rfl | hy
      · omega
      · have := c1 y hy; omega
    · rcases List.mem_cons.1 hy with rfl | hy
      · rcases c4 with ⟨c4, c6⟩ | ⟨z, hz, c4⟩
        · omega
        · have := c1 z hz
          have := hl z (List.mem_cons_of_mem _ hz)
          omega
      · exact c3 y hy
    · rcases c4 with ⟨c4, c6⟩ | ⟨z, hz, c4⟩
      · exact ⟨x, by simp, c6.symm⟩
      · exact ⟨z, List.mem_cons_of_mem _ hz, c4⟩
theorem joinGo_none : ∀ (σ : List Fp) (a : Int) (g : Bool), joinGo a g σ = none → (∀ x ∈ σ, a ≤ x.p.off) → ¬ σ.Pairwise (fun x y => endsF x ≤ y.p.off)
  | [], a, g, h, _ => by rw [joinGo] at h; cases h
  | x :: σ, a, g, h, ha => by
    rw [joinGo] at h
    split at h
    · have := ha x (by simp); omega
    · intro hp
      obtain ⟨h1, h2⟩ := List.pairwise_cons.1 hp
      exact joinGo_none σ _ _ h h1 h2

theorem same_off {σ : List Fp} (hp : σ.Pairwise (fun x y => endsF x ≤ y.p.off)) (hl : ∀ x ∈ σ, x.p.off < endsF x) {x y : Fp} (hx : x ∈ σ) (hy : y ∈ σ) (h : x.p.off = y.p.off) : x = y := by
  induction σ with
  | nil => cases hx
  | cons z σ ih =>
    obtain ⟨h1, h2⟩ := List.pairwise_cons.1 hp
    have hz := hl z (by simp)
    rcases List.mem_cons.1 hx with rfl | hx1
    · rcases List.mem_cons.1 hy with rfl | hy1
      · rfl
      · have := h1 y hy1; omega
    · rcases List.mem_cons.1 hy with rfl | hy1
      · have := h1 x hx1; omega
      · exact ih h2 (fun w hw => hl w (List.mem_cons_of_mem _ hw)) hx1 hy1
theorem getAt_some {l σ : List Fp} (hσ : σ.Perm l) (hp : σ.Pairwise (fun x y => endsF x ≤ y.p.off)) (hl : ∀ x ∈ σ, x.p.off < endsF x) {x : Fp} (hx : x ∈ σ) : getAt l x.p.off = some x := by
  unfold getAt
  cases h : l.find? (fun y => decide (y.p.off = x.p.off)) with
  | none =>
    have := List.find?_eq_none.1 h x (hσ.mem_iff.1 hx)
    simp at this
  | some y =>
    have h1 := List.find?_some h
    have h2 := List.mem_of_find?_eq_some h
    simp only [decide_eq_true_eq] at h1
    rw [same_off hp hl (hσ.mem_iff.2 h2) hx h1]
theorem getAt_none {l σ : List Fp} (hσ : σ.Perm l) {a : Int} (h : ∀ x ∈ σ, x.p.off ≠ a) : getAt l a = none := by
  unfold getAt
  rw [List.find?_eq_none]
  intro x hx
  have := h x (hσ.mem_iff.2 hx)
  simpa using this

/-- The reference gathers what lies in the order of offsets. -/
theorem gather {l σ : List Fp} {e : Int} (hσ : σ.Perm l) (hp : σ.Pairwise (fun x y => endsF x ≤ y.p.off)) (hl : ∀ x ∈ σ, x.p.off < endsF x) (he : ∀ x ∈ σ, endsF x ≤ e) (hlast : ∃ x ∈ σ, endsF x = e) :
    ∀ (τ π : List Fp) (b : Int) (g : Bool) (f : Nat), σ = π ++ τ → (∀ x ∈ π, endsF x ≤ ((π.flatMap Fp.ds).length : Int)) → joinGo ((π.flatMap Fp.ds).length : Int) false τ = some (b, g) → e - ((π.flatMap Fp.ds).length : Int) ≤ f →
      refGo l e f (π.flatMap Fp.ds) = if g then none else some (σ.flatMap Fp.ds)
  | [], π, b, g, f, h1, h2, h3, h4 => by
    rw [joinGo] at h3
    cases h3
    rw [List.append_nil] at h1
    subst h1
    obtain ⟨x, hx, hx2⟩ := hlast
    have := h2 x hx
    rw [refGo_stop (by omega)]
    simp
  | x :: τ, π, b, g, f, h1, h2, h3, h4 => by
    have hxm : x ∈ σ := by rw [h1]; simp
    have hx1 := hl x hxm
    have hx2 := he x hxm
    rw [joinGo] at h3
    split at h3
    · cases h3
    rename_i h5
    obtain ⟨f, rfl⟩ : ∃ k, f = k + 1 := ⟨f - 1, by omega⟩
    by_cases h6 : x.p.off = ((π.flatMap Fp.ds).length : Int)
    · have hga := getAt_some hσ hp hl hxm
      rw [h6] at hga
      rw [refGo_go (by omega) hga]
      have hfl : (π ++ [x]).flatMap Fp.ds = π.flatMap Fp.ds ++ x.ds := by simp
      have hen : endsF x = (((π ++ [x]).flatMap Fp.ds).length : Int) := by
        rw [hfl, List.length_append]; unfold endsF; omega
      rw [← hfl]
      refine gather hσ hp hl he hlast τ (π ++ [x]) b g f (by rw [h1]; simp) (fun y hy => ?_) ?_ (by omega)
      · rcases List.mem_append.1 hy with hy | hy
        · have := h2 y hy; rw [← hen]; omega
        · rw [List.mem_singleton.1 hy, hen]; exact Int.le_refl _
      · rw [← hen]
        have : decide (((π.flatMap Fp.ds).length : Int) < x.p.off) = false := decide_eq_false (by omega)
        rw [this] at h3
        exact h3
    · have hg : getAt l ((π.flatMap Fp.ds).length : Int) = none := by
        refine getAt_none hσ fun y hy => ?_
        rw [h1] at hy
        rcases List.mem_append.1 hy with hy | hy
        · have := h2 y hy
          have := hl y (by rw [h1]; simp [hy])
          omega
        · rcases List.mem_cons.1 hy with rfl | hy
          · exact h6
          · have hp' := hp
            rw [h1] at hp'
            have := (List.pairwise_cons.1 (List.pairwise_append.1 hp').2.1).1 y hy
            omega
      rw [refGo_none (by omega) hg]
      have : decide (((π.flatMap Fp.ds).length : Int) < x.p.off) = true := decide_eq_true (by omega)
      rw [this] at h3
      have := (joinGo_some τ _ b _ g h3 (fun y hy => by have := hl y (by rw [h1]; simp [hy]); omega)).2.2.2.2 rfl
      rw [this]; rfl

theorem fitsR_behind {l : List Fp} {e : Int} (h : fitsR l = some e) (h0 : 0 ≤ e) : ∀ x ∈ l, behind e x = false := by
  cases l with
  | nil => intro x hx; cases hx
  | cons x l =>
    unfold fitsR at h
    simp only at h
    split at h
    · cases h
    split at h
    · cases h
    rename_i h2
    cases h
    intro y hy
    cases hb : behind e y
    · rfl
    · exact absurd ⟨h0, List.any_eq_true.2 ⟨y, hy, hb⟩⟩ h2

theorem joinTo_last {l : List Fp} {j : Nat} {x : Fp} (hx : l[j]? = some x) : joinTo l (j : Int) = endsF x := by
  unfold joinTo
  rw [if_pos (by omega), List.getD_eq_getElem?_getD]
  simp [hx]

theorem join_ref (l σ : List Fp) (hlen : ∀ x ∈ l, x.ds.length = x.p.d.n) (hσ : σ.Perm l) (hs : SortedO σ) : joinR l σ = refR l := by
  cases l with
  | nil =>
    obtain rfl := hσ.eq_nil
    rfl
  | cons x0 l0 =>
  generalize hL : x0 :: l0 = l at *
  have hfits : fitsR l = (match fitsGo x0.p.key l 0 (-1) l with | none => none | some e => if 0 ≤ e ∧ l.any (behind e) = true then none else some e) := by rw [← hL]; rfl
  have hend : endR l = endF x0.p.key 0 (-1) l := by rw [← hL]; rfl
  cases hE : endF x0.p.key 0 (-1) l with
  | none =>
    have h1 : joinR l σ = joinE 1 := by unfold joinR; rw [hend, hE]
    have h2 : fitsR l = none := by
      rw [hfits]
      cases hF : fitsGo x0.p.key l 0 (-1) l with
      | none => rfl
      | some e =>
        obtain ⟨q, hq⟩ := end_of_fits l 0 0 (-1) (-1) e hF (by omega)
        rw [hE] at hq; cases hq
    rw [h1, refR_no h2]
  | some last =>
  rw [hE] at hend
  have hright := (endR_right hend).1
  have hR : ∀ x ∈ l, rightF x.p x.os = true := fun x hx => by
    have := hright x hx
    rw [ne_eq, headF_zero] at this
    simpa using this
  have hnum : ∀ x ∈ l, 0 ≤ x.p.off ∧ endsF x ≤ 65535 ∧ x.p.off ≤ endsF x := fun x hx => by
    have := right_nums' (hR x hx)
    have := hlen x hx
    unfold endsF
    omega
  have hkinds := (endF_some l 0 (-1) last hE).2 (by omega)
  cases hchk : joinChk (joinTo l last) last 0 l with
  | false =>
    rw [joinR_chk hend hchk]
    obtain ⟨j, x, h1, h2, h3⟩ := joinChk_false l 0 hchk
    rw [Nat.zero_add] at h2
    have hxm := List.mem_of_getElem? h1
    refine (refR_no ?_).symm
    cases hF : fitsR l with
    | none => rfl
    | some e =>
      exfalso
      rcases hkinds with ⟨e1, hall⟩ | ⟨i, y, hy, hy2, e1, huniq⟩
      · have : joinTo l last = 65536 := by unfold joinTo; rw [if_neg (by omega)]
        have := hnum x hxm
        omega
      · rw [Nat.zero_add] at e1
        rw [e1, joinTo_last hy] at h3
        have hym := List.mem_of_getElem? hy
        have he0 : e = endsF y ∧ 0 ≤ e := by
          have h5 := hF
          rw [hfits] at h5
          cases hG : fitsGo x0.p.key l 0 (-1) l with
          | none => rw [hG] at h5; cases h5
          | some e2 =>
            rw [hG] at h5
            simp only at h5
            split at h5
            · cases h5
            cases h5
            rcases (fitsGo_facts l 0 (-1) e hG).2.2 (by omega) with ⟨_, h7⟩ | ⟨h6, z, h7, h8, h9, h10⟩
            · rw [h7 y hym] at hy2; cases hy2
            · exact ⟨(h10 y hym hy2).symm, h6⟩
        have hb := fitsR_behind hF he0.2 x hxm
        have hmx : x.p.more = true := by
          cases hm : x.p.more
          · exact absurd (huniq j x h1 hm) (by omega)
          · rfl
        unfold behind at hb
        rw [hmx] at hb
        simp only [Bool.true_and, Bool.or_eq_false_iff, decide_eq_false_iff_not] at hb
        omega
  | true =>
    have hC := joinChk_true l 0 hchk
    simp only [Nat.zero_add] at hC
    -- an empty packet is alone
    by_cases hem : ∃ x ∈ l, x.ds = []
    · obtain ⟨x, hx, hx0⟩ := hem
      have hlx := hlen x hx
      rw [hx0] at hlx
      obtain ⟨hoff, hmore⟩ := right_empty (hR x hx) hlx.symm
      have hex : endsF x = 0 := by unfold endsF; rw [hoff, hx0]; rfl
      rcases hkinds with ⟨e1, hall⟩ | ⟨i, y, hy, hy2, e1, huniq⟩
      · rw [hall x hx] at hmore; cases hmore
      obtain ⟨j, hj⟩ := List.getElem?_of_mem hx
      obtain rfl := huniq j x hj hmore
      rw [hy] at hj
      cases hj
      rw [Nat.zero_add] at e1
      rw [e1, joinTo_last hy, hex] at hC
      have hone : l = [x] := by
        have hlt : ∀ k, k < l.length → k = j := by
          intro k hk
          by_cases h : k = j
          · exact h
          · have := hC k _ (List.getElem?_eq_getElem hk) (by omega)
            have := (hnum _ (List.getElem_mem hk)).1
            omega
        have h1 : l.length = 1 := by
          have := (List.getElem?_eq_some_iff.1 hy).1
          have a := hlt 0 (by omega)
          by_cases h : 1 < l.length
          · have := hlt 1 h; omega
          · omega
        obtain ⟨z, rfl⟩ := List.length_eq_one_iff.1 h1
        have : j = 0 := (hlt 0 (by simp)).symm
        subst this
        simp only [List.getElem?_cons_zero, Option.some.injEq] at hy
        rw [hy]
      have hj0 : j = 0 := by have := (List.getElem?_eq_some_iff.1 hy).1; rw [hone] at this; simp at this; exact this
      subst hj0
      rw [hone] at hσ hchk hend hfits hy ⊢
      obtain rfl := List.perm_singleton.1 hσ
      have hkey : x.p.key = x0.p.key := by rw [hone] at hL; cases hL; rfl
      have hf0 : fitsGo x0.p.key [x] 0 (-1) [x] = some 0 := by
        rw [fitsGo_go (e' := 0) (hR x hx) hkey (by omega) (by simp) (by simp [hmore, hex])]
        rfl
      have hf1 : fitsR [x] = some 0 := by
        rw [hfits, hf0]
        simp only
        rw [if_neg]
        rintro ⟨_, h⟩
        simp [behind, hex, hmore] at h
      have hga : getAt [x] 0 = some x := by unfold getAt; simp [List.find?_cons, hoff]
      have hto : joinTo [x] last = 0 := by rw [e1, joinTo_last (j := 0) rfl, hex]
      have hgo : joinGo 0 (decide (last < 0)) [x] = some (joinTo [x] last, false) := by
        rw [joinGo, if_neg (by omega), hto, e1, hex, hoff]
        rfl
      rw [joinR_ok hend hchk hgo rfl ⟨none, x.p.o.n, 0⟩ ⟨none, ([x].flatMap Fp.ds).length, 0⟩ rfl rfl, refR_ok (ds := []) hf1 (by omega) hga (by rw [hx0]; rfl) ⟨none, x.p.o.n, 0⟩ ⟨none, ([x].flatMap Fp.ds).length, 0⟩ rfl (by simp [hx0])]
      have hdd : [x].flatMap Fp.ds = [] := by simp [hx0]
      rw [hdd]
      cases hrr : rightF { joinW x.p with o := ⟨none, x.p.o.n, 0⟩, d := ⟨none, ([] : List Int).length, 0⟩ } x.os
      · rw [if_pos ((headF_zero _ _).2 hrr), if_pos rfl]
      · rw [if_neg (fun h => by rw [(headF_zero _ _).1 h] at hrr; cases hrr), if_neg (by decide)]
    have hne : ∀ x ∈ l, x.p.off < endsF x := fun x hx => by
      unfold endsF
      have : x.ds.length ≠ 0 := fun h => hem ⟨x, hx, List.eq_nil_of_length_eq_zero h⟩
      omega
    have hneσ : ∀ x ∈ σ, x.p.off < endsF x := fun x hx => hne x (hσ.mem_iff.1 hx)
    cases hgo : joinGo 0 (decide (last < 0)) σ with
    | none =>
      rw [joinR_over hend hchk hgo]
      have hnp := joinGo_none σ _ _ hgo (fun x hx => (hnum x (hσ.mem_iff.1 hx)).1)
      refine (refR_no ?_).symm
      rw [hfits]
      cases hF : fitsGo x0.p.key l 0 (-1) l with
      | none => rfl
      | some e =>
        exfalso
        have hov : NoOv l := noOv_take fun i x hx => noOv_of_fits l 0 (-1) e hF rfl i x (Nat.zero_le _) hx
        have hovσ : NoOv σ := (hσ.pairwise_iff (fun {x y} h => by rw [ovl_comm]; exact h)).2 hov
        refine hnp ?_
        have hboth := hovσ.and hs.pairwise
        refine hboth.imp_of_mem ?_
        intro x y hx hy h
        have h1 := hneσ y hy
        have h2 := h.1
        unfold ovl at h2
        simp only [Bool.and_eq_false_iff, decide_eq_false_iff_not] at h2
        rcases h2 with h2 | h2
        · omega
        · have := h.2; omega
    | some r =>
      obtain ⟨b, g⟩ := r
      obtain ⟨c1, c2, c3, c4, c5⟩ := joinGo_some σ _ b _ g hgo (fun x hx => Int.le_of_lt (hneσ x hx))
      have hovσ : NoOv σ := c2.imp_of_mem (by
        intro x y hx hy h
        unfold ovl
        have := hneσ y hy
        simp only [Bool.and_eq_false_iff, decide_eq_false_iff_not]
        exact .inl (by omega))
      have hov : NoOv l := (hσ.pairwise_iff (fun {x y} h => by rw [ovl_comm]; exact h)).1 hovσ
      obtain ⟨e, hF⟩ := fits_of_end (L := l) hov l 0 0 (-1) (-1) last hE (by omega) (by omega) rfl
      rcases hkinds with ⟨e1, hall⟩ | ⟨i, y, hy, hy2, e1, huniq⟩
      · have he : e = -1 := by
          rcases (fitsGo_facts l 0 (-1) e hF).2.2 (by omega) with ⟨h6, _⟩ | ⟨h6, z, h7, h8, _⟩
          · exact h6
          · rw [hall z h7] at h8; cases h8
        have hf1 : fitsR l = some (-1) := by rw [hfits, hF, he]; rfl
        have hl0 : decide (last < 0) = true := decide_eq_true (by omega)
        rw [joinR_gap hend hchk hgo (.inl (c5 hl0)), refR_gap1 hf1 (by omega)]
      · rw [Nat.zero_add] at e1
        have hym := List.mem_of_getElem? hy
        have hto : joinTo l last = endsF y := by rw [e1, joinTo_last hy]
        have he : e = endsF y ∧ 0 ≤ e := by
          rcases (fitsGo_facts l 0 (-1) e hF).2.2 (by omega) with ⟨_, h7⟩ | ⟨h6, z, h7, h8, h9, h10⟩
          · rw [h7 y hym] at hy2; cases hy2
          · exact ⟨(h10 y hym hy2).symm, h6⟩
        have hends : ∀ x ∈ l, endsF x ≤ e := fun x hx => by
          obtain ⟨j, hj⟩ := List.getElem?_of_mem hx
          by_cases hji : j = i
          · subst hji; rw [hy] at hj; cases hj; omega
          · have := hC j x hj (by omega)
            rw [hto] at this; omega
        have hf1 : fitsR l = some e := by
          rw [hfits, hF]
          simp only
          rw [if_neg]
          rintro ⟨_, h⟩
          obtain ⟨x, hx, hb⟩ := List.any_eq_true.1 h
          obtain ⟨j, hj⟩ := List.getElem?_of_mem hx
          unfold behind at hb
          simp only [Bool.or_eq_true, Bool.and_eq_true, decide_eq_true_eq] at hb
          have h9 := hends x hx
          by_cases hji : j = i
          · subst hji; rw [hy] at hj; cases hj
            rcases hb with hb | ⟨hb, _⟩
            · omega
            · rw [hy2] at hb; cases hb
          · have := hC j x hj (by omega)
            rw [hto] at this
            rcases hb with hb | ⟨_, hb⟩ <;> omega
        have hl0 : decide (last < 0) = false := decide_eq_false (by omega)
        rw [hl0] at hgo
        have hlast : ∃ x ∈ σ, endsF x = e := ⟨y, hσ.mem_iff.2 hym, he.1.symm⟩
        have hendσ : ∀ x ∈ σ, endsF x ≤ e := fun x hx => hends x (hσ.mem_iff.1 hx)
        have hbe : b = joinTo l last := by
          rw [hto, ← he.1]
          have h1 := c3 y (hσ.mem_iff.2 hym)
          rcases c4 with ⟨c4, _⟩ | ⟨z, hz, c4⟩
          · rw [c4] at hσ; have := hσ.symm.eq_nil; rw [this] at hym; cases hym
          · have := hendσ z hz; omega
        obtain ⟨x, σ', hx⟩ : ∃ x σ', σ = x :: σ' := by
          cases σ with
          | nil => obtain ⟨_, h, _⟩ := hlast; cases h
          | cons x σ' => exact ⟨x, σ', rfl⟩
        have hxm : x ∈ σ := by rw [hx]; simp
        have h0x := (hnum x (hσ.mem_iff.1 hxm)).1
        have hgo2 := hgo
        rw [hx, joinGo] at hgo2
        split at hgo2
        · cases hgo2
        by_cases hx0 : x.p.off = 0
        · have hga : getAt l 0 = some x := by have := getAt_some hσ c2 hneσ hxm; rwa [hx0] at this
          have hfl : ([x] : List Fp).flatMap Fp.ds = x.ds := by simp
          have hxe : endsF x = ((([x] : List Fp).flatMap Fp.ds).length : Int) := by rw [hfl]; unfold endsF; omega
          have hd0 : (false || decide ((0 : Int) < x.p.off)) = false := by rw [hx0]; rfl
          rw [hd0, hxe] at hgo2
          have hgat := gather hσ c2 hneσ hendσ hlast σ' [x] b g e.toNat hx (fun z hz => by rw [List.mem_singleton.1 hz, hxe]; exact Int.le_refl _) hgo2 (by omega)
          rw [hfl] at hgat
          cases g
          · rw [if_neg (by decide)] at hgat
            have hgo3 : joinGo 0 (decide (last < 0)) σ = some (joinTo l last, false) := by rw [hl0, hgo, hbe]
            rw [joinR_ok hend hchk hgo3 hx ⟨none, x.p.o.n, 0⟩ ⟨none, (σ.flatMap Fp.ds).length, 0⟩ rfl rfl, refR_ok hf1 he.2 hga hgat ⟨none, x.p.o.n, 0⟩ ⟨none, (σ.flatMap Fp.ds).length, 0⟩ rfl rfl]
            cases hrr : rightF { joinW x.p with o := ⟨none, x.p.o.n, 0⟩, d := ⟨none, (σ.flatMap Fp.ds).length, 0⟩ } x.os
            · rw [if_pos ((headF_zero _ _).2 hrr), if_pos rfl]
            · rw [if_neg (fun h => by rw [(headF_zero _ _).1 h] at hrr; cases hrr), if_neg (by decide)]
          · rw [if_pos rfl] at hgat
            rw [joinR_gap hend hchk (by rw [hl0]; exact hgo) (.inl rfl), refR_gap3 hf1 he.2 hga hgat]
        · have hga : getAt l 0 = none := by
            refine getAt_none hσ fun z hz => ?_
            rw [hx] at hz
            rcases List.mem_cons.1 hz with rfl | hz
            · exact hx0
            · have hp := c2
              rw [hx] at hp
              have := (List.pairwise_cons.1 hp).1 z hz
              have := hneσ x hxm
              omega
          have hd0 : (false || decide ((0 : Int) < x.p.off)) = true := by simp; omega
          rw [hd0] at hgo2
          have hg := (joinGo_some σ' _ b _ g hgo2 (fun z hz => Int.le_of_lt (hneσ z (by rw [hx]; simp [hz])))).2.2.2.2 rfl
          subst hg
          rw [joinR_gap hend hchk (by rw [hl0]; exact hgo) (.inl rfl), refR_gap2 hf1 he.2 hga]
end Go.Proofs.YtleokgmflelkcaaDoor
