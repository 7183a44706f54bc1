/- The functions on addresses: what each returns. The functions on packets that ask no options: what each returns. -/
import Derived.Test.YtleokgmflelkcaaDoorVA0
set_option linter.unusedSimpArgs false
set_option linter.unusedVariables false
namespace Go.Proofs.YtleokgmflelkcaaDoor
open Go Go.RowKit

theorem bits_any (a : Adr) (w : World) : Calls Tryd.prog 95 #[.agg (adrA a)] w (RB (.int .i64 (bitsF a)) w) := by
  have hF := Fr.start w (adrA a) 24
  obtain ⟨hr, hl⟩ := hF.ad
  by_cases h4 : a.v = 4
  · have h4' : (a.v == 4) = true := by simpa using h4
    have ht : zerosA a = true → bitsF a = 32 := by intro h; simp [bitsF, h4, h]
    have hf : ¬ zerosA a = true → bitsF a = 0 := by intro h; simp [bitsF, h4, h]
    have hex := zerosA_iff a
    replace ht := Lib.hid ht
    replace hf := Lib.hid hf
    replace hex := Lib.hid hex
    clear h4
    go_enter Tryd.func95, Tryd.ntmps95
    go_wp2
    go_loop [4, 12] (fun _ i => ∃ k : Nat, k ≤ 12 ∧ i = .int .i64 k ∧ Hid (∀ j, j < k → a.at (4 + j) = 0)) (fun _ i => 12 - (intOf i).toNat)
    case atStart => exact ⟨0, by omega, rfl, fun j hj => by omega⟩
    case round =>
      obtain ⟨k, hk, rfl, hz⟩ := hrel
      by_cases hlt : k < 12
      · have hck := adrA_at a k hlt
        by_cases h0 : a.at (4 + k) = 0
        · rw [h0] at hck
          go_wp2
          go_round
          case rel => exact ⟨k + 1, by omega, by go_num, fun j hj => by by_cases e : j = k; (· subst e; exact h0); (· exact hz.out j (by omega))⟩
          case measure => simp [intOf]; omega
        · have h0' : (a.at (4 + k) != 0) = true := by simpa using h0
          replace h0 := Lib.hid h0
          go_wp2
          go_ret
          refine RB.mk' ?_ hF.bel
          rw [hf.out]; rfl
          rw [hex.out]
          intro h
          exact h0.out (h k hlt)
      · go_wp2
        go_ret
        refine RB.mk' ?_ hF.bel
        rw [ht.out]; rfl
        rw [hex.out]
        intro j hj
        exact hz.out j (by omega)
  · have h4' : (a.v == 4) = false := by simpa using h4
    by_cases h6 : a.v = 6
    · have h6' : (a.v == 6) = true := by simpa using h6
      have hf : bitsF a = 128 := by simp [bitsF, h6]
      replace hf := Lib.hid hf
      clear h4 h6
      go_enter Tryd.func95, Tryd.ntmps95
      go_wp2
      go_ret
      exact RB.mk' (by rw [hf.out]; rfl) hF.bel
    · have h6' : (a.v == 6) = false := by simpa using h6
      have hf : bitsF a = 0 := by simp [bitsF, h6, h4]
      replace hf := Lib.hid hf
      clear h4 h6
      go_enter Tryd.func95, Tryd.ntmps95
      go_wp2
      go_ret
      exact RB.mk' (by rw [hf.out]; rfl) hF.bel

theorem addrValid_any (a : Adr) (w : World) : Calls Tryd.prog 74 #[.agg (adrA a)] w (RB (.bool (decide (0 < bitsF a))) w) := by
  have hF := Fr.start w (adrA a) 24
  obtain ⟨hr, hl⟩ := hF.ad
  go_enter Tryd.func74, Tryd.ntmps74
  go_wp2_with (go_at_call 95; refine (bits_any _ _).mono ?_; rintro e w1 ⟨rfl, hb⟩; have hF := hF.call hb; obtain ⟨hr, hl⟩ := hF.ad; clear hb)
  go_ret
  exact RB.mk' rfl hF.bel

theorem four_any (a : Adr) (w : World) : Calls Tryd.prog 52 #[.agg (adrA a)] w (RB (.bool (fourF a)) w) := by
  have hF := Fr.start w (adrA a) 24
  obtain ⟨hr, hl⟩ := hF.ad
  have ht : a.v = 4 → decide (0 < bitsF a) = fourF a := by intro h; unfold bitsF fourF; rw [if_pos h]; cases zerosA a <;> simp [h]
  have hf : ¬ a.v = 4 → fourF a = false := by intro h; simp [fourF, h]
  replace ht := Lib.hid ht
  replace hf := Lib.hid hf
  go_enter Tryd.func52, Tryd.ntmps52
  go_wp2_with (go_at_call 74; refine (addrValid_any _ _).mono ?_; rintro e w1 ⟨rfl, hb⟩; have hF := hF.call hb; obtain ⟨hr, hl⟩ := hF.ad; clear hb)
  · go_ret
    exact RB.mk' (by rw [← ht.out (by assumption)]; rfl) hF.bel
  · go_ret
    exact RB.mk' (by rw [hf.out (by assumption)]; rfl) hF.bel

theorem six_any (a : Adr) (w : World) : Calls Tryd.prog 98 #[.agg (adrA a)] w (RB (.bool (sixF a)) w) := by
  have hF := Fr.start w (adrA a) 24
  obtain ⟨hr, hl⟩ := hF.ad
  have ht : a.v = 6 → decide (0 < bitsF a) = sixF a := by intro h; unfold bitsF sixF; simp [h]
  have hf : ¬ a.v = 6 → sixF a = false := by intro h; simp [sixF, h]
  replace ht := Lib.hid ht
  replace hf := Lib.hid hf
  go_enter Tryd.func98, Tryd.ntmps98
  go_wp2_with (go_at_call 74; refine (addrValid_any _ _).mono ?_; rintro e w1 ⟨rfl, hb⟩; have hF := hF.call hb; obtain ⟨hr, hl⟩ := hF.ad; clear hb)
  · go_ret
    exact RB.mk' (by rw [← ht.out (by assumption)]; rfl) hF.bel
  · go_ret
    exact RB.mk' (by rw [hf.out (by assumption)]; rfl) hF.bel

theorem within_any (n m : Int) (w : World) : Calls Tryd.prog 53 #[.int .i64 n, .int .i64 m] w (RB (.bool (withinF n m)) w) := by
  have h1 : 0 ≤ n → decide (n ≤ m) = withinF n m := by intro h; simp [withinF, h]
  have h2 : n < 0 → withinF n m = false := by intro h; have : ¬ 0 ≤ n := by omega
                                              simp [withinF, this]
  replace h1 := Lib.hid h1
  replace h2 := Lib.hid h2
  go_enter Tryd.func53, Tryd.ntmps53
  go_wp2
  · go_ret
    exact RB.mk' (by rw [← h1.out (by assumption)]; rfl) (Below.refl _ _)
  · go_ret
    exact RB.mk' (by rw [h2.out (by assumption)]; rfl) (Below.refl _ _)

theorem between_any (n l m : Int) (w : World) : Calls Tryd.prog 83 #[.int .i64 n, .int .i64 l, .int .i64 m] w (RB (.bool (decide (l ≤ n) && decide (n ≤ m))) w) := by
  have h1 : l ≤ n → decide (n ≤ m) = (decide (l ≤ n) && decide (n ≤ m)) := by intro h; simp [h]
  have h2 : n < l → (decide (l ≤ n) && decide (n ≤ m)) = false := by intro h; have : ¬ l ≤ n := by omega
                                                                     simp [this]
  generalize (decide (l ≤ n) && decide (n ≤ m)) = X at *
  replace h1 := Lib.hid h1
  replace h2 := Lib.hid h2
  go_enter Tryd.func83, Tryd.ntmps83
  go_wp2
  · go_ret
    exact RB.mk' (by rw [← h1.out (by assumption)]; rfl) (Below.refl _ _)
  · go_ret
    exact RB.mk' (by rw [h2.out (by assumption)]; rfl) (Below.refl _ _)

theorem address4_any (a : Adr) (w : World) : Calls Tryd.prog 99 #[.agg (adrA a)] w (RB (.bool (fourF a)) w) := by
  have hF := Fr.start w (adrA a) 24
  obtain ⟨hr, hl⟩ := hF.ad
  have ht : zerosA a = true → decide (a.v = 4) = fourF a := by intro h; simp [fourF, h]
  have hf : ¬ zerosA a = true → fourF a = false := by intro h; simp [fourF, h]
  have hex := zerosA_iff a
  replace ht := Lib.hid ht
  replace hf := Lib.hid hf
  replace hex := Lib.hid hex
  go_enter Tryd.func99, Tryd.ntmps99
  go_wp2
  go_loop [3] (fun i => ∃ k : Nat, k ≤ 12 ∧ i = .int .i64 (4 + k) ∧ Hid (∀ j, j < k → a.at (4 + j) = 0)) (fun i => 16 - (intOf i).toNat)
  case atStart => exact ⟨0, by omega, rfl, fun j hj => by omega⟩
  case round =>
    obtain ⟨k, hk, rfl, hz⟩ := hrel
    by_cases hlt : k < 12
    · have hck := adrA_at a k hlt
      have hb1 : 4 + (k : Int) < 16 := by omega
      have hn : (4 + (k : Int)).toNat = 4 + k := by omega
      have hn2 : 1 + (4 + k) = 5 + k := by omega
      by_cases h0 : a.at (4 + k) = 0
      · rw [h0] at hck
        go_wp2
        go_round
        case rel => exact ⟨k + 1, by omega, by go_light; congr 1, fun j hj => by by_cases e : j = k; (· subst e; exact h0); (· exact hz.out j (by omega))⟩
        case measure => simp [intOf]; omega
      · have h0' : (a.at (4 + k) != 0) = true := by simpa using h0
        replace h0 := Lib.hid h0
        go_wp2
        go_ret
        refine RB.mk' ?_ hF.bel
        rw [hf.out]; rfl
        rw [hex.out]
        intro h
        exact h0.out (h k hlt)
    · have hb1 : ¬ 4 + (k : Int) < 16 := by omega
      go_wp2
      go_ret
      refine RB.mk' ?_ hF.bel
      rw [← ht.out]; rfl
      rw [hex.out]
      intro j hj
      exact hz.out j (by omega)

theorem ref3Valid_any (a : Adr) (w : World) : Calls Tryd.prog 100 #[.agg (adrA a)] w (RB (.bool (decide (a.v = 6) || fourF a)) w) := by
  have hF := Fr.start w (adrA a) 24
  obtain ⟨hr, hl⟩ := hF.ad
  generalize hX : (decide (a.v = 6) || fourF a) = X
  have h6 : a.v = 6 → X = true := by intro h; simp [← hX, h]
  have ht : ¬ a.v = 6 → zerosA a = true → decide (a.v = 4) = X := by intro h6 h; simp [← hX, fourF, h, h6]
  have hf : ¬ a.v = 6 → ¬ zerosA a = true → X = false := by intro h6 h; simp [← hX, fourF, h, h6]
  have hex := zerosA_iff a
  clear hX
  replace h6 := Lib.hid h6
  replace ht := Lib.hid ht
  replace hf := Lib.hid hf
  replace hex := Lib.hid hex
  by_cases h6' : a.v = 6
  · have hb6 : (a.v == 6) = true := by simpa using h6'
    have h6 := h6.out h6'
    subst h6
    clear h6'
    go_enter Tryd.func100, Tryd.ntmps100
    go_wp2
    go_ret
    exact RB.mk' rfl hF.bel
  have hb6 : (a.v == 6) = false := by simpa using h6'
  replace ht := Lib.hid (ht.out h6')
  replace hf := Lib.hid (hf.out h6')
  clear h6'
  go_enter Tryd.func100, Tryd.ntmps100
  go_wp2
  go_loop [3] (fun i => ∃ k : Nat, k ≤ 12 ∧ i = .int .i64 (4 + k) ∧ Hid (∀ j, j < k → a.at (4 + j) = 0)) (fun i => 16 - (intOf i).toNat)
  case atStart => exact ⟨0, by omega, rfl, fun j hj => by omega⟩
  case round =>
    obtain ⟨k, hk, rfl, hz⟩ := hrel
    by_cases hlt : k < 12
    · have hck := adrA_at a k hlt
      have hb1 : 4 + (k : Int) < 16 := by omega
      have hn : (4 + (k : Int)).toNat = 4 + k := by omega
      have hn2 : 1 + (4 + k) = 5 + k := by omega
      by_cases h0 : a.at (4 + k) = 0
      · rw [h0] at hck
        go_wp2
        go_round
        case rel => exact ⟨k + 1, by omega, by go_light; congr 1, fun j hj => by by_cases e : j = k; (· subst e; exact h0); (· exact hz.out j (by omega))⟩
        case measure => simp [intOf]; omega
      · have h0' : (a.at (4 + k) != 0) = true := by simpa using h0
        replace h0 := Lib.hid h0
        go_wp2
        go_ret
        refine RB.mk' ?_ hF.bel
        rw [hf.out]; rfl
        rw [hex.out]
        intro h
        exact h0.out (h k hlt)
    · have hb1 : ¬ 4 + (k : Int) < 16 := by omega
      go_wp2
      go_ret
      refine RB.mk' ?_ hF.bel
      rw [← ht.out]; rfl
      rw [hex.out]
      intro j hj
      exact hz.out j (by omega)

theorem ref6six_any (a : Adr) (w : World) : Calls Tryd.prog 82 #[.agg (adrA a)] w (RB (.bool (sixF a)) w) := by
  have hF := Fr.start w (adrA a) 24
  obtain ⟨hr, hl⟩ := hF.ad
  by_cases h6 : a.v = 6
  · have hs : sixF a = true := by simp [sixF, h6]
    have hc : ∀ W, Calls Tryd.prog 100 #[.agg (adrA a)] W (RB (.bool true) W) := fun W => by have := ref3Valid_any a W; simpa [h6] using this
    have hb : (a.v == 6) = true := by simpa using h6
    rw [hs]
    replace hc := Lib.hid hc
    clear h6
    go_enter Tryd.func82, Tryd.ntmps82
    go_wp2_with (go_at_call 100; refine (hc.out _).mono ?_; rintro e w1 ⟨rfl, hb⟩; have hF := hF.call hb; obtain ⟨hr, hl⟩ := hF.ad; clear hb)
    go_ret
    exact RB.mk' rfl hF.bel
  · have hs : sixF a = false := by simp [sixF, h6]
    have hb : (a.v == 6) = false := by simpa using h6
    rw [hs]
    clear h6
    go_enter Tryd.func82, Tryd.ntmps82
    go_wp2_with (go_at_call 100; refine (ref3Valid_any a _).mono ?_; rintro e w1 ⟨rfl, hb⟩; have hF := hF.call hb; obtain ⟨hr, hl⟩ := hF.ad; clear hb)
    all_goals (go_ret; exact RB.mk' rfl hF.bel)
end Go.Proofs.YtleokgmflelkcaaDoor
namespace Go.Proofs.YtleokgmflelkcaaDoor
open Go Go.RowKit

theorem withinF_t {n m : Int} (h0 : 0 ≤ n) (h1 : n ≤ m) : withinF n m = true := by simp [withinF, h0, h1]
theorem withinF_f {n m : Int} (h : ¬ (0 ≤ n ∧ n ≤ m)) : withinF n m = false := by
  by_cases a : 0 ≤ n
  · have : ¬ n ≤ m := fun b => h ⟨a, b⟩
    simp [withinF, this]
  · simp [withinF, a]

set_option maxRecDepth 100000 in
theorem placed_any (p : Pk) (w : World) (hn : p.d.n ≤ 140737488351232) : Calls Tryd.prog 54 #[.agg (pkA p)] w (RB (.bool (placed4F p)) w) := by
  have hF := Fr.start w (pkA p) 28
  obtain ⟨hr, hl, hs, hd⟩ := hF.pk
  by_cases hw : 0 ≤ p.off ∧ p.off ≤ 65528
  · obtain ⟨h0, h1⟩ := hw
    have hwt := withinF_t h0 h1
    go_enter Tryd.func54, Tryd.ntmps54
    go_wp2_with (go_at_call 53; refine (within_any _ _ _).mono ?_; rintro e w1 ⟨rfl, hb⟩; have hF := hF.call hb; obtain ⟨hr, hl, hs, hd⟩ := hF.pk; clear hb)
    all_goals (go_ret; refine RB.mk' ?_ hF.bel; go_light; clear hl hs hd; refine congrArg Value.bool ?_; (first | (simp_all [placed4F]; done) | (simp_all [placed4F]; omega) | (simp_all [placed4F]; grind)))
  · have hwf := withinF_f hw
    have hp : placed4F p = false := by simp [placed4F, hwf]
    replace hp := Lib.hid hp
    clear hw
    go_enter Tryd.func54, Tryd.ntmps54
    go_wp2_with (go_at_call 53; refine (within_any _ _ _).mono ?_; rintro e w1 ⟨rfl, hb⟩; have hF := hF.call hb; obtain ⟨hr, hl, hs, hd⟩ := hF.pk; clear hb)
    go_ret
    exact RB.mk' (by rw [hp.out]; rfl) hF.bel

set_option maxRecDepth 100000 in
set_option maxHeartbeats 1000000 in
theorem right6_any (p : Pk) (w : World) (hn : p.d.n ≤ 140737488351232) : Calls Tryd.prog 78 #[.agg (pkA p)] w (RB (.bool (right6F p)) w) := by
  have hF := Fr.start w (pkA p) 28
  obtain ⟨hr, hl, hs, hd⟩ := hF.pk
  go_enter Tryd.func78, Tryd.ntmps78
  go_wp2_with (go_at_call 98; refine (six_any _ _).mono ?_; rintro e w1 ⟨rfl, hb⟩; have hF := hF.call hb; obtain ⟨hr, hl, hs, hd⟩ := hF.pk; clear hb)
  all_goals (go_ret; refine RB.mk' ?_ hF.bel; go_light; clear hl hs hd; refine congrArg Value.bool ?_; (first | (simp_all [right6F, r6a, r6b, r6c, withinF]; done) | (simp_all [right6F, r6a, r6b, r6c, withinF]; omega) | (simp_all [right6F, r6a, r6b, r6c, withinF]; grind)))

theorem head6_any (p : Pk) (w : World) : Calls Tryd.prog 79 #[.agg (pkA p)] w (RB (.int .i64 (head6F p)) w) := by
  have hF := Fr.start w (pkA p) 28
  obtain ⟨hr, hl, hs, hd⟩ := hF.pk
  cases hf : p.frag
  · have ht : head6F p = 40 := by simp [head6F, hf]
    rw [ht]
    clear ht
    go_enter Tryd.func79, Tryd.ntmps79
    go_wp2
    go_ret
    exact RB.mk' rfl hF.bel
  · have ht : head6F p = 48 := by simp [head6F, hf]
    rw [ht]
    clear ht
    go_enter Tryd.func79, Tryd.ntmps79
    go_wp2
    go_ret
    exact RB.mk' rfl hF.bel

theorem Head6_any (p : Pk) (w : World) (hn : p.d.n ≤ 140737488351232) : Calls Tryd.prog 60 #[.agg (pkA p)] w (RB (.int .i64 (if right6F p then head6F p else 0)) w) := by
  have hF := Fr.start w (pkA p) 28
  obtain ⟨hr, hl, hs, hd⟩ := hF.pk
  cases hf : right6F p
  · rw [if_neg (by simp)]
    go_enter Tryd.func60, Tryd.ntmps60
    go_wp2_with (first | (go_at_call 78; refine (right6_any _ _ hn).mono ?_; rintro e w1 ⟨rfl, hb⟩; have hF := hF.call hb; obtain ⟨hr, hl, hs, hd⟩ := hF.pk; clear hb) | (go_at_call 79; refine (head6_any _ _).mono ?_; rintro e w1 ⟨rfl, hb⟩; have hF := hF.call hb; obtain ⟨hr, hl, hs, hd⟩ := hF.pk; clear hb))
    go_ret
    exact RB.mk' rfl hF.bel
  · rw [if_pos rfl]
    go_enter Tryd.func60, Tryd.ntmps60
    go_wp2_with (first | (go_at_call 78; refine (right6_any _ _ hn).mono ?_; rintro e w1 ⟨rfl, hb⟩; have hF := hF.call hb; obtain ⟨hr, hl, hs, hd⟩ := hF.pk; clear hb) | (go_at_call 79; refine (head6_any _ _).mono ?_; rintro e w1 ⟨rfl, hb⟩; have hF := hF.call hb; obtain ⟨hr, hl, hs, hd⟩ := hF.pk; clear hb))
    go_ret
    exact RB.mk' rfl hF.bel

set_option maxRecDepth 100000 in
set_option maxHeartbeats 1000000 in
theorem fields5_any (p : Pk) (w : World) (hn : p.d.n ≤ 140737488351232) (ho : p.o.n ≤ 140737488351232) : Calls Tryd.prog 80 #[.agg (pkA p)] w (RB (.bool (f4F p)) w) := by
  have hF := Fr.start w (pkA p) 28
  obtain ⟨hr, hl, hs, hd⟩ := hF.pk
  go_enter Tryd.func80, Tryd.ntmps80
  go_wp2_with (go_at_call 99; refine (address4_any _ _).mono ?_; rintro e w1 ⟨rfl, hb⟩; have hF := hF.call hb; obtain ⟨hr, hl, hs, hd⟩ := hF.pk; clear hb)
  all_goals (go_ret; refine RB.mk' ?_ hF.bel; go_light; clear hl hs hd; refine congrArg Value.bool ?_; (first | (simp_all [f4F, placed4F, withinF]; done) | (simp_all [f4F, placed4F, withinF]; omega) | (simp_all [f4F, placed4F, withinF]; grind)))

set_option maxRecDepth 100000 in
set_option maxHeartbeats 1000000 in
theorem ref6Right_any (p : Pk) (w : World) (hn : p.d.n ≤ 140737488351232) : Calls Tryd.prog 63 #[.agg (pkA p)] w (RB (.bool (right6F p)) w) := by
  have hF := Fr.start w (pkA p) 28
  obtain ⟨hr, hl, hs, hd⟩ := hF.pk
  by_cases hw : 0 ≤ p.off ∧ p.off ≤ 65535
  · obtain ⟨h0, h1⟩ := hw
    have hb1 : (decide (0 ≤ p.off) && decide (p.off ≤ 65535)) = true := by simp [h0, h1]
    go_enter Tryd.func63, Tryd.ntmps63
    go_wp2_with (first | (go_at_call 82; refine (ref6six_any _ _).mono ?_; rintro e w1 ⟨rfl, hb⟩; have hF := hF.call hb; obtain ⟨hr, hl, hs, hd⟩ := hF.pk; clear hb) | (go_at_call 83; refine (between_any _ _ _ _).mono ?_; rintro e w1 ⟨rfl, hb⟩; have hF := hF.call hb; obtain ⟨hr, hl, hs, hd⟩ := hF.pk; clear hb))
    all_goals (go_ret; refine RB.mk' ?_ hF.bel; go_light; clear hl hs hd; refine congrArg Value.bool ?_; (first | (simp_all [right6F, r6a, r6b, r6c, withinF]; done) | (simp_all [right6F, r6a, r6b, r6c, withinF]; omega) | (simp_all [right6F, r6a, r6b, r6c, withinF]; grind)))
  · have hb1 : (decide (0 ≤ p.off) && decide (p.off ≤ 65535)) = false := by by_cases a : 0 ≤ p.off; (· have : ¬ p.off ≤ 65535 := fun b => hw ⟨a, b⟩; simp [this]); (· simp [a])
    go_enter Tryd.func63, Tryd.ntmps63
    go_wp2_with (first | (go_at_call 82; refine (ref6six_any _ _).mono ?_; rintro e w1 ⟨rfl, hb⟩; have hF := hF.call hb; obtain ⟨hr, hl, hs, hd⟩ := hF.pk; clear hb) | (go_at_call 83; refine (between_any _ _ _ _).mono ?_; rintro e w1 ⟨rfl, hb⟩; have hF := hF.call hb; obtain ⟨hr, hl, hs, hd⟩ := hF.pk; clear hb))
    all_goals (go_ret; refine RB.mk' ?_ hF.bel; go_light; clear hl hs hd; refine congrArg Value.bool ?_; (first | (simp_all [right6F, r6a, r6b, r6c, withinF]; done) | (simp_all [right6F, r6a, r6b, r6c, withinF]; omega) | (simp_all [right6F, r6a, r6b, r6c, withinF]; grind)))
end Go.Proofs.YtleokgmflelkcaaDoor
