/- The reference's own check of options. -/
import Derived.Test.YtleokgmflelkcaaDoorA2
import Derived.Test.YtleokgmflelkcaaDoorM2
set_option linter.unusedSimpArgs false
set_option linter.unusedVariables false
namespace Go.Proofs.YtleokgmflelkcaaDoor
open Go Go.RowKit

theorem zeros_drop_iff (xs : List Int) (k : Nat) : zeros (xs.drop k) = true ↔ ∀ j, k ≤ j → j < xs.length → bAt xs j = 0 := by
  rw [zeros_iff]
  unfold bAt
  constructor
  · intro h j h1 h2
    have := h (j - k) (by simp; omega)
    rw [List.getD_eq_getElem?_getD, List.getElem?_drop, Nat.add_sub_cancel' h1] at this
    rw [List.getD_eq_getElem?_getD]; exact this
  · intro h j hj
    simp only [List.length_drop] at hj
    have := h (k + j) (by omega) (by omega)
    rw [List.getD_eq_getElem?_getD, List.getElem?_drop]
    rwa [List.getD_eq_getElem?_getD] at this

set_option maxRecDepth 100000 in
set_option maxHeartbeats 1000000 in
theorem ref5Options_any (s : Sl) (xs : List Int) (w : World) (hs : Bs w s xs) (hm : s.n ≤ 140737488351232) : Calls Tryd.prog 81 #[.slice s.a s.n s.c] w (RB (.bool (validO xs)) w) := by
  obtain ⟨a, n, c⟩ := s
  simp only at hm ⊢
  obtain ⟨hl, hle, hr, hat⟩ := hs
  simp only at hl hle hat
  have hat := Lib.hid hat
  replace hl := Lib.hid hl
  have hne : (n : Int) % 4 ≠ 0 → validO xs = false := by intro h; have : ¬ n % 4 = 0 := by omega
                                                         simp [validO, hl.out, this]
  by_cases h4 : n % 4 = 0
  · have h4b : ((n : Int) % 4 != 0) = false := by simp; omega
    by_cases h40 : n ≤ 40
    · have hv := Lib.hid (show validO xs = (parseO xs).isSome by simp [validO, hl.out, h40, h4])
      have hd : decide ((40 : Int) < (n : Int)) = false := by simp; omega
      clear h4 hne
      go_enter Tryd.func81, Tryd.ntmps81
      go_wp2
      go_loop [3] (fun i => ∃ k : Nat, i = .int .i64 k ∧ k ≤ n ∧ Hid ((parseO xs).isSome = (restO xs k).isSome)) (fun i => n - (intOf i).toNat)
      case atStart => exact ⟨0, rfl, by omega, by simp [Hid, restO]⟩
      case round =>
        obtain ⟨k, rfl, hk, hp⟩ := hrel
        by_cases hlt : k < n
        · have hkl := Lib.hid (show k < xs.length by rw [hl.out]; exact hlt)
          have hrg := bytesR_get hr k
          obtain ⟨b, o, rfl, hbb, h3⟩ : ∃ b o, a = some ⟨b, o, none⟩ ∧ b < w.heap.size ∧ ∀ k, k < n → w.cell? ⟨b, o + k, none⟩ = some (.int .u8 (bAt xs k)) := by
            rcases hat.out with ⟨_, h0, _⟩ | ⟨b, o, h1, h2, h3⟩
            · omega
            exact ⟨b, o, h1, h2, h3⟩
          have h3' := h3 k hlt
          replace h3 := Lib.hid h3
          by_cases h0 : bAt xs k = 0
          · have hrz := Lib.hid (rest_zero xs k hkl.out h0)
            have hzi := Lib.hid (zeros_drop_iff xs k)
            rw [h0] at h3'
            clear h0
            go_wp2
            go_loop [4] (fun i => ∃ j : Nat, i = .int .i64 j ∧ k ≤ j ∧ j ≤ n ∧ Hid (∀ t, k ≤ t → t < j → bAt xs t = 0)) (fun i => n - (intOf i).toNat)
            case atStart => exact ⟨k, rfl, by omega, by omega, fun t h1 h2 => by omega⟩
            case round =>
              obtain ⟨j, rfl, hkj, hj, hz⟩ := hrel
              by_cases hjl : j < n
              · have h3j := h3.out j hjl
                cases hb : (bAt xs j != 0)
                · have hb' := Lib.hid (show bAt xs j = 0 by simpa using hb)
                  go_wp2
                  go_round
                  case rel => exact ⟨j + 1, by go_num, by omega, by omega, fun t h1 h2 => by by_cases e : t = j; (· subst e; exact hb'.out); (· exact hz.out t h1 (by omega))⟩
                  case measure => simp [intOf]; omega
                · have hb' := Lib.hid (show bAt xs j ≠ 0 by simpa using hb)
                  have hfin := Lib.hid (show validO xs = false by
                    have hz0 : zeros (xs.drop k) = false := by
                      rw [Bool.eq_false_iff]; intro h; exact hb'.out (hzi.out.1 h j hkj (by rw [hl.out]; exact hjl))
                    rw [hv.out, hp.out, hrz.out, hz0]; rfl)
                  go_wp2
                  go_ret
                  exact RB.mk' (by rw [hfin.out]; rfl) (Below.refl _ _)
              · have hfin := Lib.hid (show validO xs = true by
                  have hz0 : zeros (xs.drop k) = true := hzi.out.2 (fun t h1 h2 => hz.out t h1 (by rw [hl.out] at h2; omega))
                  rw [hv.out, hp.out, hrz.out, hz0]; rfl)
                go_wp2
                go_ret
                exact RB.mk' (by rw [hfin.out]; rfl) (Below.refl _ _)
          have h0b : (bAt xs k == 0) = false := by simpa using h0
          by_cases h1 : bAt xs k = 1
          · have hrz := Lib.hid (rest_one xs k hkl.out h1)
            rw [h1] at h3'
            clear h0 h1 h0b
            go_wp2
            go_round
            case rel => exact ⟨k + 1, by go_num, by omega, by unfold Hid; rw [hp.out, hrz.out]; simp⟩
            case measure => simp [intOf]; omega
          have h1b : (bAt xs k == 1) = false := by simpa using h1
          by_cases hk1 : k + 1 < n
          · have hrl := Lib.hid (rest_long xs k)
            have hrb := Lib.hid (rest_bad xs k (by rw [hl.out]; exact hk1) h0 h1)
            have hrg2 := bytesR_get hr (k + 1)
            have hlt1 : (k : Int) + 1 < n := by omega
            have h01 := Lib.hid (And.intro h0 h1)
            have h3j := h3.out (k + 1) hk1
            clear h0 h1
            obtain ⟨hN0, hN1⟩ := hrg2
            by_cases hbad : bAt xs (k + 1) < 2 ∨ bAt xs (k + 1) > (n : Int) - k
            · have hfin := Lib.hid (show validO xs = false by rw [hv.out, hp.out, hrb.out (by rw [hl.out]; exact hbad)]; rfl)
              by_cases hN2 : bAt xs (k + 1) < 2
              · clear hbad
                go_wp2
                go_ret
                exact RB.mk' (by rw [hfin.out]; rfl) (Below.refl _ _)
              · have hN3 : (n : Int) < k + bAt xs (k + 1) := by omega
                have hN4 : 2 ≤ bAt xs (k + 1) := by omega
                clear hbad hN2
                go_wp2
                go_ret
                exact RB.mk' (by rw [hfin.out]; rfl) (Below.refl _ _)
            · have hN2 : 2 ≤ bAt xs (k + 1) := by omega
              have hN3 : k + bAt xs (k + 1) ≤ (n : Int) := by omega
              clear hbad hrb
              obtain ⟨j, hj⟩ : ∃ j : Nat, bAt xs (k + 1) = j := ⟨(bAt xs (k + 1)).toNat, by omega⟩
              have hj2 : 2 ≤ j := by omega
              have hj3 : k + j ≤ n := by omega
              have hj4 : (j : Int) ≤ 255 := by omega
              have hfin := Lib.hid (show (parseO xs).isSome = (restO xs (k + j)).isSome by
                have := hrl.out j (by rw [hl.out]; exact hk1) h01.out.1 h01.out.2 hj hj2 (by rw [hl.out]; exact hj3)
                rw [hp.out, this]; simp)
              rw [hj] at h3j
              clear hj hrl hN0 hN1 hN2 hN3
              go_wp2
              go_round
              case rel => exact ⟨k + j, by go_num, by omega, hfin⟩
              case measure => simp [intOf]; omega
          · have hfin := Lib.hid (show validO xs = false by rw [hv.out, hp.out, rest_last xs k (by rw [hl.out]; omega) h0 h1]; rfl)
            have hge : (n : Int) ≤ k + 1 := by omega
            clear h0 h1
            go_wp2
            go_ret
            exact RB.mk' (by rw [hfin.out]; rfl) (Below.refl _ _)
        · have hfin : validO xs = true := by rw [hv.out, hp.out, rest_end xs k (by rw [hl.out]; omega)]; rfl
          replace hfin := Lib.hid hfin
          go_wp2
          go_ret
          exact RB.mk' (by rw [hfin.out]; rfl) (Below.refl _ _)
    · have hv : validO xs = false := by simp [validO, hl.out, h40]
      have hd : (40 : Int) < n := by omega
      rw [hv]
      clear hv h4 h40 hne
      go_enter Tryd.func81, Tryd.ntmps81
      go_wp2
      go_ret
      exact RB.mk' rfl (Below.refl _ _)
  · have hv := hne (by omega)
    have h4b : ((n : Int) % 4 != 0) = true := by simp; omega
    rw [hv]
    clear hv hne h4
    go_enter Tryd.func81, Tryd.ntmps81
    go_wp2
    go_ret
    exact RB.mk' rfl (Below.refl _ _)
end Go.Proofs.YtleokgmflelkcaaDoor
