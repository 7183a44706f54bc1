/- The functions on packets that ask no options: what each returns. -/
import Derived.Test.YtleokgmflelkcaaDoorA1
set_option linter.unusedSimpArgs false
set_option linter.unusedVariables false
namespace Go.Proofs.YtleokgmflelkcaaDoor
open Go Go.RowKit

theorem withinF_t {n m : Int} (h0 : 0 ≤ n) (h1 : n ≤ m) : withinF n m = true := by simp [withinF, h0, h1]
theorem withinF_f {n m : Int} (h : ¬ (0 ≤ n ∧ n ≤ m)) : withinF n m = false := by
  by_cases a : 0 ≤ n
  · have : ¬ n ≤ m := fun b => h ⟨a, b⟩
    simp [withinF, this]
  · simp [withinF, a]

set_option maxRecDepth 100000 in
theorem placed_any (p : Pk) (w : World) (hn : p.d.n ≤ 140737488351232) : Calls Tryd.prog 54 #[.agg (pkA p)] w (RB (.bool (placed4F p)) w) := by
  have hF := Fr.start w (pkA p) 28
  obtain ⟨hr, hl, hs, hd⟩ := hF.pk
  by_cases hw : 0 ≤ p.off ∧ p.off ≤ 65528
  · obtain ⟨h0, h1⟩ := hw
    have hwt := withinF_t h0 h1
    go_enter Tryd.func54, Tryd.ntmps54
    go_wp2_with (go_at_call 53; refine (within_any _ _ _).mono ?_; rintro e w1 ⟨rfl, hb⟩; have hF := hF.call hb; obtain ⟨hr, hl, hs, hd⟩ := hF.pk; clear hb)
    all_goals (go_ret; refine RB.mk' ?_ hF.bel; go_light; clear hl hs hd; refine congrArg Value.bool ?_; (first | (simp_all [placed4F]; done) | (simp_all [placed4F]; omega) | (simp_all [placed4F]; grind)))
  · have hwf := withinF_f hw
    have hp : placed4F p = false := by simp [placed4F, hwf]
    replace hp := Lib.hid hp
    clear hw
    go_enter Tryd.func54, Tryd.ntmps54
    go_wp2_with (go_at_call 53; refine (within_any _ _ _).mono ?_; rintro e w1 ⟨rfl, hb⟩; have hF := hF.call hb; obtain ⟨hr, hl, hs, hd⟩ := hF.pk; clear hb)
    go_ret
    exact RB.mk' (by rw [hp.out]; rfl) hF.bel

set_option maxRecDepth 100000 in
set_option maxHeartbeats 1000000 in
theorem right6_any (p : Pk) (w : World) (hn : p.d.n ≤ 140737488351232) : Calls Tryd.prog 78 #[.agg (pkA p)] w (RB (.bool (right6F p)) w) := by
  have hF := Fr.start w (pkA p) 28
  obtain ⟨hr, hl, hs, hd⟩ := hF.pk
  go_enter Tryd.func78, Tryd.ntmps78
  go_wp2_with (go_at_call 98; refine (six_any _ _).mono ?_; rintro e w1 ⟨rfl, hb⟩; have hF := hF.call hb; obtain ⟨hr, hl, hs, hd⟩ := hF.pk; clear hb)
  all_goals (go_ret; refine RB.mk' ?_ hF.bel; go_light; clear hl hs hd; refine congrArg Value.bool ?_; (first | (simp_all [right6F, r6a, r6b, r6c, withinF]; done) | (simp_all [right6F, r6a, r6b, r6c, withinF]; omega) | (simp_all [right6F, r6a, r6b, r6c, withinF]; grind)))

theorem head6_any (p : Pk) (w : World) : Calls Tryd.prog 79 #[.agg (pkA p)] w (RB (.int .i64 (head6F p)) w) := by
  have hF := Fr.start w (pkA p) 28
  obtain ⟨hr, hl, hs, hd⟩ := hF.pk
  cases hf : p.frag
  · have ht : head6F p = 40 := by simp [head6F, hf]
    rw [ht]
    clear ht
    go_enter Tryd.func79, Tryd.ntmps79
    go_wp2
    go_ret
    exact RB.mk' rfl hF.bel
  · have ht : head6F p = 48 := by simp [head6F, hf]
    rw [ht]
    clear ht
    go_enter Tryd.func79, Tryd.ntmps79
    go_wp2
    go_ret
    exact RB.mk' rfl hF.bel

theorem Head6_any (p : Pk) (w : World) (hn : p.d.n ≤ 140737488351232) : Calls Tryd.prog 60 #[.agg (pkA p)] w (RB (.int .i64 (if right6F p then head6F p else 0)) w) := by
  have hF := Fr.start w (pkA p) 28
  obtain ⟨hr, hl, hs, hd⟩ := hF.pk
  cases hf : right6F p
  · rw [if_neg (by simp)]
    go_enter Tryd.func60, Tryd.ntmps60
    go_wp2_with (first | (go_at_call 78; refine (right6_any _ _ hn).mono ?_; rintro e w1 ⟨rfl, hb⟩; have hF := hF.call hb; obtain ⟨hr, hl, hs, hd⟩ := hF.pk; clear hb) | (go_at_call 79; refine (head6_any _ _).mono ?_; rintro e w1 ⟨rfl, hb⟩; have hF := hF.call hb; obtain ⟨hr, hl, hs, hd⟩ := hF.pk; clear hb))
    go_ret
    exact RB.mk' rfl hF.bel
  · rw [if_pos rfl]
    go_enter Tryd.func60, Tryd.ntmps60
    go_wp2_with (first | (go_at_call 78; refine (right6_any _ _ hn).mono ?_; rintro e w1 ⟨rfl, hb⟩; have hF := hF.call hb; obtain ⟨hr, hl, hs, hd⟩ := hF.pk; clear hb) | (go_at_call 79; refine (head6_any _ _).mono ?_; rintro e w1 ⟨rfl, hb⟩; have hF := hF.call hb; obtain ⟨hr, hl, hs, hd⟩ := hF.pk; clear hb))
    go_ret
    exact RB.mk' rfl hF.bel

set_option maxRecDepth 100000 in
set_option maxHeartbeats 1000000 in
theorem fields5_any (p : Pk) (w : World) (hn : p.d.n ≤ 140737488351232) (ho : p.o.n ≤ 140737488351232) : Calls Tryd.prog 80 #[.agg (pkA p)] w (RB (.bool (f4F p)) w) := by
  have hF := Fr.start w (pkA p) 28
  obtain ⟨hr, hl, hs, hd⟩ := hF.pk
  go_enter Tryd.func80, Tryd.ntmps80
  go_wp2_with (go_at_call 99; refine (address4_any _ _).mono ?_; rintro e w1 ⟨rfl, hb⟩; have hF := hF.call hb; obtain ⟨hr, hl, hs, hd⟩ := hF.pk; clear hb)
  all_goals (go_ret; refine RB.mk' ?_ hF.bel; go_light; clear hl hs hd; refine congrArg Value.bool ?_; (first | (simp_all [f4F, placed4F, withinF]; done) | (simp_all [f4F, placed4F, withinF]; omega) | (simp_all [f4F, placed4F, withinF]; grind)))

set_option maxRecDepth 100000 in
set_option maxHeartbeats 1000000 in
theorem ref6Right_any (p : Pk) (w : World) (hn : p.d.n ≤ 140737488351232) : Calls Tryd.prog 63 #[.agg (pkA p)] w (RB (.bool (right6F p)) w) := by
  have hF := Fr.start w (pkA p) 28
  obtain ⟨hr, hl, hs, hd⟩ := hF.pk
  by_cases hw : 0 ≤ p.off ∧ p.off ≤ 65535
  · obtain ⟨h0, h1⟩ := hw
    have hb1 : (decide (0 ≤ p.off) && decide (p.off ≤ 65535)) = true := by simp [h0, h1]
    go_enter Tryd.func63, Tryd.ntmps63
    go_wp2_with (first | (go_at_call 82; refine (ref6six_any _ _).mono ?_; rintro e w1 ⟨rfl, hb⟩; have hF := hF.call hb; obtain ⟨hr, hl, hs, hd⟩ := hF.pk; clear hb) | (go_at_call 83; refine (between_any _ _ _ _).mono ?_; rintro e w1 ⟨rfl, hb⟩; have hF := hF.call hb; obtain ⟨hr, hl, hs, hd⟩ := hF.pk; clear hb))
    all_goals (go_ret; refine RB.mk' ?_ hF.bel; go_light; clear hl hs hd; refine congrArg Value.bool ?_; (first | (simp_all [right6F, r6a, r6b, r6c, withinF]; done) | (simp_all [right6F, r6a, r6b, r6c, withinF]; omega) | (simp_all [right6F, r6a, r6b, r6c, withinF]; grind)))
  · have hb1 : (decide (0 ≤ p.off) && decide (p.off ≤ 65535)) = false := by by_cases a : 0 ≤ p.off; (· have : ¬ p.off ≤ 65535 := fun b => hw ⟨a, b⟩; simp [this]); (· simp [a])
    go_enter Tryd.func63, Tryd.ntmps63
    go_wp2_with (first | (go_at_call 82; refine (ref6six_any _ _).mono ?_; rintro e w1 ⟨rfl, hb⟩; have hF := hF.call hb; obtain ⟨hr, hl, hs, hd⟩ := hF.pk; clear hb) | (go_at_call 83; refine (between_any _ _ _ _).mono ?_; rintro e w1 ⟨rfl, hb⟩; have hF := hF.call hb; obtain ⟨hr, hl, hs, hd⟩ := hF.pk; clear hb))
    all_goals (go_ret; refine RB.mk' ?_ hF.bel; go_light; clear hl hs hd; refine congrArg Value.bool ?_; (first | (simp_all [right6F, r6a, r6b, r6c, withinF]; done) | (simp_all [right6F, r6a, r6b, r6c, withinF]; omega) | (simp_all [right6F, r6a, r6b, r6c, withinF]; grind)))
end Go.Proofs.YtleokgmflelkcaaDoor
