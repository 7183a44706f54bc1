/- The reference's Is answers as the program's. -/
import Derived.Test.YtleokgmflelkcaaDoorVG4
import Derived.Test.YtleokgmflelkcaaDoorVA29
set_option linter.unusedSimpArgs false
set_option linter.unusedVariables false
namespace Go.Proofs.YtleokgmflelkcaaDoor
open Go Go.RowKit

theorem rIsF_isF {p : Pk} {os ds co : List Int} {mtu : Int} : ∀ (l : List Fp) (first : Bool) (a : Nat), a ≤ ds.length → rIsF p ds co mtu (if first then os else co) a l = isF p os ds co mtu first a l
  | [], first, a, ha => by rw [rIsF, isF]
  | x :: l, first, a, ha => by
    rw [rIsF, isF]
    by_cases h1 : ds.length < a + x.ds.length
    · rw [if_pos h1]
      have hnp : ¬ x.ds <+: ds.drop a := fun h => by
        have := h.length_le
        rw [List.length_drop] at this
        omega
      by_cases hA : headF x.p x.os = 0 ∨ headF x.p x.os + x.ds.length > mtu ∨ x.p.bare ≠ p.bare ∨ x.os ≠ (if first then os else co)
      · rw [if_pos hA]
      · rw [if_neg hA, if_pos (.inr hnp)]
    · rw [if_neg h1]
      by_cases h2 : sameP x.p { p with off := p.off + a, more := !l.isEmpty || p.more } x.os x.ds (if first then os else co) ((ds.drop a).take x.ds.length) = true
      · rw [if_neg (by rw [h2]; decide)]
        have h2' := sameP_iff.1 h2
        simp only [Pk.mp, Mp.mk.injEq] at h2'
        obtain ⟨e1, e2, e3, e4, e5⟩ := h2'
        by_cases h3 : rightF x.p x.os = true
        · rw [if_neg (by rw [h3]; decide)]
          have hz : headF x.p x.os ≠ 0 := by rw [ne_eq, headF_zero, h3]; decide
          have hh := rhead_head h3
          by_cases h4 : mtu < rheadF x.p + x.ds.length
          · rw [if_pos h4, if_pos (.inr (.inl (by omega)))]
          · rw [if_neg h4, if_neg (by
              rintro (h | h | h | h)
              · exact hz h
              · omega
              · exact h e1
              · exact h e4), if_neg (by
              rintro (h | h)
              · exact h e3
              · exact h (List.prefix_iff_eq_take.2 e5)), if_neg (by
              intro h
              exact h e2)]
            have := rIsF_isF (p := p) (os := os) (ds := ds) (co := co) (mtu := mtu) l false (a + x.ds.length) (by omega)
            simpa using this
        · have h3' : rightF x.p x.os = false := by simpa using h3
          rw [if_pos h3', if_pos (.inl ((headF_zero _ _).2 h3'))]
      · rw [if_pos (by simpa using h2)]
        symm
        by_cases hA : headF x.p x.os = 0 ∨ headF x.p x.os + x.ds.length > mtu ∨ x.p.bare ≠ p.bare ∨ x.os ≠ (if first then os else co)
        · rw [if_pos hA]
        · rw [if_neg hA]
          by_cases hB : x.p.off ≠ p.off + a ∨ ¬ x.ds <+: ds.drop a
          · rw [if_pos hB]
          · rw [if_neg hB]
            by_cases hC : x.p.more ≠ (!(l.isEmpty) || p.more)
            · rw [if_pos hC]
            · rw [if_neg hC]
              refine absurd (sameP_iff.2 ?_) h2
              simp only [Pk.mp, Mp.mk.injEq]
              have b1 : x.p.bare = p.bare := by
                apply Classical.byContradiction; intro h; exact hA (.inr (.inr (.inl h)))
              have b2 : x.os = (if first then os else co) := by
                apply Classical.byContradiction; intro h; exact hA (.inr (.inr (.inr h)))
              have b3 : x.p.off = p.off + a := by
                apply Classical.byContradiction; intro h; exact hB (.inl h)
              have b4 : x.ds <+: ds.drop a := by
                apply Classical.byContradiction; intro h; exact hB (.inr h)
              have b5 : x.p.more = (!(l.isEmpty) || p.more) := by
                apply Classical.byContradiction; intro h; exact hC h
              exact ⟨b1, b5, b3, b2, List.prefix_iff_eq_take.1 b4⟩
theorem sameP_symm (p q : Pk) (os ds os' ds' : List Int) : sameP p q os ds os' ds' = sameP q p os' ds' os ds := by
  rw [Bool.eq_iff_iff, sameP_iff, sameP_iff]
  exact ⟨Eq.symm, Eq.symm⟩
theorem rIsR_isR (p : Pk) (os ds co : List Int) (mtu : Int) (l : List Fp) : rIsR p os ds co mtu l = isR p os ds co mtu l := by
  unfold rIsR isR
  by_cases h : rightF p os = false ∨ mtu < 68 ∨ mtu > 65535 ∨ l.length = 0
  · have h' : headF p os = 0 ∨ mtu < 68 ∨ mtu > 65535 ∨ l.length = 0 := h.imp_left (headF_zero _ _).2
    rw [if_pos h, if_pos h']
  · have h' : ¬ (headF p os = 0 ∨ mtu < 68 ∨ mtu > 65535 ∨ l.length = 0) := fun h' => h (h'.imp_left (headF_zero _ _).1)
    rw [if_neg h, if_neg h']
    have hr : rightF p os = true := by
      cases hr : rightF p os
      · exact absurd (.inl hr) h
      · rfl
    rw [rhead_head hr]
    match l with
    | [] => exact absurd (.inr (.inr (.inr rfl))) h
    | [x] => simp only; rw [sameP_symm]
    | x :: y :: l =>
      simp only
      by_cases h5 : p.v ≠ 4 ∨ p.df = true
      · rw [if_pos h5, if_pos h5]
      · rw [if_neg h5, if_neg h5]
        exact rIsF_isF (os := os) (x :: y :: l) true 0 (Nat.zero_le _)

theorem isF_sizes {p : Pk} {os ds co : List Int} {mtu : Int} {s1 s2 : Sl} : ∀ (l : List Fp) (first : Bool) (a : Nat), isF { p with o := s1, d := s2 } os ds co mtu first a l = isF p os ds co mtu first a l
  | [], first, a => by rw [isF, isF]
  | x :: l, first, a => by rw [isF, isF, isF_sizes l]; rfl
theorem isR_sizes (p : Pk) (os ds co : List Int) (mtu : Int) (l : List Fp) (s1 s2 : Sl) (h1 : s1.n = p.o.n) (h2 : s2.n = p.d.n) : isR { p with o := s1, d := s2 } os ds co mtu l = isR p os ds co mtu l := by
  have hh := headF_sizes p os s1 s2 p.o p.d h1 h2
  have e : ({ p with o := p.o, d := p.d } : Pk) = p := rfl
  rw [e] at hh
  unfold isR
  rw [hh, isF_sizes]
  rfl
theorem cn_head {x : Fp} (h : x.ds.length = x.p.d.n ∧ x.os.length = x.p.o.n) : headF (cn x).p (cn x).os = headF x.p x.os := by
  show headF { x.p with o := ⟨none, x.os.length, 0⟩, d := ⟨none, x.ds.length, 0⟩ } x.os = _
  rw [headF_sizes x.p x.os ⟨none, x.os.length, 0⟩ ⟨none, x.ds.length, 0⟩ x.p.o x.p.d h.2 h.1]
theorem isF_cn {p : Pk} {os ds co : List Int} {mtu : Int} : ∀ (l : List Fp) (first : Bool) (a : Nat), Lens l → isF p os ds co mtu first a (l.map cn) = isF p os ds co mtu first a l
  | [], first, a, h => by rfl
  | x :: l, first, a, h => by
    have e : (l.map cn).isEmpty = l.isEmpty := by cases l <;> rfl
    rw [List.map_cons, isF, isF, cn_head (h x (by simp)), e]
    have := isF_cn (p := p) (os := os) (ds := ds) (co := co) (mtu := mtu) l false (a + x.ds.length) (fun y hy => h y (List.mem_cons_of_mem _ hy))
    rw [← this]
    rfl
theorem isR_cn {p : Pk} {os ds co : List Int} {mtu : Int} {l : List Fp} (h : Lens l) : isR p os ds co mtu (l.map cn) = isR p os ds co mtu l := by
  unfold isR
  rw [List.length_map, isF_cn _ _ _ h]
  match l with
  | [] => rfl
  | [x] => rfl
  | x :: y :: l => rfl
theorem isR_alike {p : Pk} {os ds co : List Int} {mtu : Int} {xs l : List Fp} (h : xs.map Fp.mp = l.map Fp.mp) (h1 : Lens xs) (h2 : Lens l) : isR p os ds co mtu xs = isR p os ds co mtu l := by
  have e : xs.map cn = l.map cn := by
    have : ∀ l : List Fp, l.map cn = (l.map Fp.mp).map Mp.fp := fun l => by rw [List.map_map]; rfl
    rw [this, this, h]
  rw [← isR_cn h1, e, isR_cn h2]

/-- The reference's Is. -/
theorem ris_any (p : Pk) (os ds : List Int) (mtu : Int) (s : Sl) (l : List Fp) (w : World) (hp : PkIn w p os ds) (hs : PkS w s l) (hm : s.n ≤ 925904528626) :
    Calls Tryd.prog 18 #[.agg (pkA p), .int .i64 mtu, .slice s.a s.n s.c] w (RB (.bool (isR p os ds (carryF os) mtu l)) w) := by
  rw [← rIsR_isR]
  have hlen := hs.len
  by_cases h : rightF p os = false ∨ mtu < 68 ∨ mtu > 65535 ∨ l.length = 0
  · unfold rIsR
    rw [if_pos h]
    exact ris_err p os ds mtu s w hp (by rw [← hlen]; exact h)
  · have hr : rightF p os = true := by
      cases hr : rightF p os
      · exact absurd (.inl hr) h
      · rfl
    have m1 : 68 ≤ mtu := by
      apply Classical.byContradiction; intro h'; exact h (.inr (.inl (by omega)))
    have m2 : mtu ≤ 65535 := by
      apply Classical.byContradiction; intro h'; exact h (.inr (.inr (.inl (by omega))))
    have hn : s.n ≠ 0 := fun h' => h (.inr (.inr (.inr (hlen.trans h'))))
    obtain ⟨sa, n, c⟩ := s
    simp only at hn hm hlen
    obtain ⟨b, o, rfl⟩ : ∃ b o, sa = some ⟨b, o, none⟩ := by
      rcases hs.at_ with ⟨_, h0, _⟩ | ⟨b, o, h1, _⟩
      · exact absurd h0 hn
      · exact ⟨b, o, h1⟩
    unfold rIsR
    rw [if_neg h]
    match l with
    | [] => exact absurd hlen.symm hn
    | [x] =>
      have : n = 1 := hlen.symm
      subst this
      exact ris_one p os ds mtu b o c x w hp hs hr m1 m2
    | x :: y :: l =>
      have h2 : 2 ≤ n := by rw [← hlen]; simp
      simp only
      by_cases h5 : p.v ≠ 4 ∨ p.df = true
      · rw [if_pos h5]
        exact ris_no p os ds mtu ⟨some ⟨b, o, none⟩, n, c⟩ w hp hr m1 m2 h2 h5
      · rw [if_neg h5]
        have h4 : p.v = 4 := by apply Classical.byContradiction; intro h'; exact h5 (.inl h')
        have h6 : p.df = false := by
          cases hd : p.df
          · rfl
          · exact absurd (.inr hd) h5
        exact ris_list p os ds mtu b o n c _ w hp hs hm hr m1 m2 h2 h4 h6
/-- The program's Is, with what is carried. -/
theorem is_all (p : Pk) (os ds : List Int) (mtu : Int) (s : Sl) (l : List Fp) (w : World) (hp : PkIn w p os ds) (hS : Sh w) (hs : PkS w s l) (hm : s.n ≤ 925904528626) :
    Calls Tryd.prog 16 #[.agg (pkA p), .int .i64 mtu, .slice s.a s.n s.c] w (RB (.bool (isR p os ds (carryF os) mtu l)) w) :=
  is_any p os ds (carryF os) mtu s l w hp hS hs hm (fun _ _ _ W hS hb => carry_any p.o os W hb hp.om hS)
end Go.Proofs.YtleokgmflelkcaaDoor
