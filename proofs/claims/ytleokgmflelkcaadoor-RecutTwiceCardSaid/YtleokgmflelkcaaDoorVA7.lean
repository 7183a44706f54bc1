/- Right and Head, of the program's and of the reference's packages. -/
import Derived.Test.YtleokgmflelkcaaDoorVA4
import Derived.Test.YtleokgmflelkcaaDoorVA6
set_option linter.unusedSimpArgs false
set_option linter.unusedVariables false
namespace Go.Proofs.YtleokgmflelkcaaDoor
open Go Go.RowKit

/-- A packet lies in memory as its value says, its options and data beside it. -/
structure PkIn (w : World) (p : Pk) (os ds : List Int) : Prop where
  o : Bs w p.o os
  d : Bs w p.d ds
  om : p.o.n ≤ 140737488351232
  dm : p.d.n ≤ 140737488351232
theorem PkIn.below {w w' : World} {p : Pk} {os ds : List Int} (h : PkIn w p os ds) (hb : Below w.heap.size w w') : PkIn w' p os ds := ⟨h.o.below hb, h.d.below hb, h.om, h.dm⟩

def right4F (p : Pk) (os : List Int) : Bool := f4F p && validO os
def head4F (p : Pk) (os : List Int) : Int := if right4F p os then 20 + p.o.n else 0
def rightF (p : Pk) (os : List Int) : Bool := if p.v = 4 then right4F p os else right6F p
def headF (p : Pk) (os : List Int) : Int := if rightF p os then (if p.v = 4 then 20 + p.o.n else head6F p) else 0

set_option maxRecDepth 100000 in
set_option maxHeartbeats 1000000 in
theorem right4_any (p : Pk) (os ds : List Int) (w : World) (hp : PkIn w p os ds) (hS : Sh w) : Calls Tryd.prog 24 #[.agg (pkA p)] w (RB (.bool (right4F p os)) w) := by
  have hF := Fr.start w (pkA p) 28
  obtain ⟨hr, hl, hs, hd⟩ := hF.pk
  have ho := hp.om
  have hdm := hp.dm
  go_enter Tryd.func24, Tryd.ntmps24
  go_wp2_with (first | (go_at_call 52; refine (four_any _ _).mono ?_; rintro e w1 ⟨rfl, hb⟩; have hF := hF.call hb; obtain ⟨hr, hl, hs, hd⟩ := hF.pk; clear hb) | (go_at_call 53; refine (within_any _ _ _).mono ?_; rintro e w1 ⟨rfl, hb⟩; have hF := hF.call hb; obtain ⟨hr, hl, hs, hd⟩ := hF.pk; clear hb) | (go_at_call 54; refine (placed_any _ _ hdm).mono ?_; rintro e w1 ⟨rfl, hb⟩; have hF := hF.call hb; obtain ⟨hr, hl, hs, hd⟩ := hF.pk; clear hb) | (go_at_call 51; refine (valid_any p.o os _ (hp.o.below hF.bel) ho (hS.below hF.bel)).mono ?_; rintro e w1 ⟨rfl, hb⟩; have hF := hF.call hb; obtain ⟨hr, hl, hs, hd⟩ := hF.pk; clear hb))
  all_goals (go_ret; refine RB.mk' ?_ hF.bel; go_light; clear hl hs hd; refine congrArg Value.bool ?_; (first | (simp_all [right4F, f4F]; done) | (simp_all [right4F, f4F]; omega) | (simp_all [right4F, f4F]; grind)))

theorem Head4_any (p : Pk) (os ds : List Int) (w : World) (hp : PkIn w p os ds) (hS : Sh w) : Calls Tryd.prog 59 #[.agg (pkA p)] w (RB (.int .i64 (head4F p os)) w) := by
  have hF := Fr.start w (pkA p) 28
  obtain ⟨hr, hl, hs, hd⟩ := hF.pk
  have ho := hp.om
  cases hf : right4F p os
  · rw [head4F, if_neg (by simp [hf])]
    go_enter Tryd.func59, Tryd.ntmps59
    go_wp2_with (go_at_call 24; refine (right4_any _ os ds _ (hp.below hF.bel) (hS.below hF.bel)).mono ?_; rintro e w1 ⟨rfl, hb⟩; have hF := hF.call hb; obtain ⟨hr, hl, hs, hd⟩ := hF.pk; clear hb)
    go_ret
    exact RB.mk' rfl hF.bel
  · rw [head4F, if_pos hf]
    go_enter Tryd.func59, Tryd.ntmps59
    go_wp2_with (go_at_call 24; refine (right4_any _ os ds _ (hp.below hF.bel) (hS.below hF.bel)).mono ?_; rintro e w1 ⟨rfl, hb⟩; have hF := hF.call hb; obtain ⟨hr, hl, hs, hd⟩ := hF.pk; clear hb)
    go_ret
    exact RB.mk' rfl hF.bel

theorem head_any (p : Pk) (os ds : List Int) (w : World) (hp : PkIn w p os ds) (hS : Sh w) : Calls Tryd.prog 31 #[.agg (pkA p)] w (RB (.int .i64 (headF p os)) w) := by
  have hF := Fr.start w (pkA p) 28
  obtain ⟨hr, hl, hs, hd⟩ := hF.pk
  have hdm := hp.dm
  by_cases hv : p.v = 4
  · have hb : (p.v == 4) = true := by simpa using hv
    have hh : headF p os = head4F p os := by simp only [headF, rightF, head4F, if_pos hv]
    rw [hh]
    clear hv hh
    go_enter Tryd.func31, Tryd.ntmps31
    go_wp2_with (go_at_call 59; refine (Head4_any _ os ds _ (hp.below hF.bel) (hS.below hF.bel)).mono ?_; rintro e w1 ⟨rfl, hb⟩; have hF := hF.call hb; obtain ⟨hr, hl, hs, hd⟩ := hF.pk; clear hb)
    go_ret
    exact RB.mk' rfl hF.bel
  · have hb : (p.v == 4) = false := by simpa using hv
    have hh : headF p os = if right6F p then head6F p else 0 := by simp only [headF, rightF, if_neg hv]
    rw [hh]
    clear hv hh
    have hX := Lib.hid (fun w => Head6_any p w hdm)
    generalize (if right6F p then head6F p else 0) = X at *
    go_enter Tryd.func31, Tryd.ntmps31
    go_wp2_with (go_at_call 60; refine (hX.out _).mono ?_; rintro e w1 ⟨rfl, hb⟩; have hF := hF.call hb; obtain ⟨hr, hl, hs, hd⟩ := hF.pk; clear hb)
    go_ret
    exact RB.mk' rfl hF.bel

theorem ref5Right_any (p : Pk) (os ds : List Int) (w : World) (hp : PkIn w p os ds) : Calls Tryd.prog 62 #[.agg (pkA p)] w (RB (.bool (right4F p os)) w) := by
  have hF := Fr.start w (pkA p) 28
  obtain ⟨hr, hl, hs, hd⟩ := hF.pk
  have hdm := hp.dm
  have ho := hp.om
  cases hf : f4F p
  · have hr : right4F p os = false := by simp [right4F, hf]
    rw [hr]
    go_enter Tryd.func62, Tryd.ntmps62
    go_wp2_with (first | (go_at_call 80; refine (fields5_any _ _ hdm ho).mono ?_; rintro e w1 ⟨rfl, hb⟩; have hF := hF.call hb; obtain ⟨hr, hl, hs, hd⟩ := hF.pk; clear hb) | (go_at_call 81; refine (ref5Options_any p.o os _ (hp.o.below hF.bel) ho).mono ?_; rintro e w1 ⟨rfl, hb⟩; have hF := hF.call hb; obtain ⟨hr, hl, hs, hd⟩ := hF.pk; clear hb))
    go_ret
    exact RB.mk' rfl hF.bel
  · have hr : right4F p os = validO os := by simp [right4F, hf]
    rw [hr]
    go_enter Tryd.func62, Tryd.ntmps62
    go_wp2_with (first | (go_at_call 80; refine (fields5_any _ _ hdm ho).mono ?_; rintro e w1 ⟨rfl, hb⟩; have hF := hF.call hb; obtain ⟨hr, hl, hs, hd⟩ := hF.pk; clear hb) | (go_at_call 81; refine (ref5Options_any p.o os _ (hp.o.below hF.bel) ho).mono ?_; rintro e w1 ⟨rfl, hb⟩; have hF := hF.call hb; obtain ⟨hr, hl, hs, hd⟩ := hF.pk; clear hb))
    go_ret
    exact RB.mk' rfl hF.bel

theorem ref11Right_any (p : Pk) (os ds : List Int) (w : World) (hp : PkIn w p os ds) : Calls Tryd.prog 33 #[.agg (pkA p)] w (RB (.bool (rightF p os)) w) := by
  have hF := Fr.start w (pkA p) 28
  obtain ⟨hr, hl, hs, hd⟩ := hF.pk
  have hdm := hp.dm
  by_cases hv : p.v = 4
  · have hb : (p.v == 4) = true := by simpa using hv
    have hh : rightF p os = right4F p os := by simp only [rightF, if_pos hv]
    rw [hh]
    clear hv hh
    go_enter Tryd.func33, Tryd.ntmps33
    go_wp2_with (first | (go_at_call 62; refine (ref5Right_any _ os ds _ (hp.below hF.bel)).mono ?_; rintro e w1 ⟨rfl, hb⟩; have hF := hF.call hb; obtain ⟨hr, hl, hs, hd⟩ := hF.pk; clear hb) | (go_at_call 63; refine (ref6Right_any _ _ hdm).mono ?_; rintro e w1 ⟨rfl, hb⟩; have hF := hF.call hb; obtain ⟨hr, hl, hs, hd⟩ := hF.pk; clear hb))
    go_ret
    exact RB.mk' rfl hF.bel
  have hb : (p.v == 4) = false := by simpa using hv
  have hh : rightF p os = right6F p := by simp only [rightF, if_neg hv]
  rw [hh]
  clear hv hh
  by_cases hv6 : p.v = 6
  · have hb6 : (p.v == 6) = true := by simpa using hv6
    clear hv6
    go_enter Tryd.func33, Tryd.ntmps33
    go_wp2_with (first | (go_at_call 62; refine (ref5Right_any _ os ds _ (hp.below hF.bel)).mono ?_; rintro e w1 ⟨rfl, hb⟩; have hF := hF.call hb; obtain ⟨hr, hl, hs, hd⟩ := hF.pk; clear hb) | (go_at_call 63; refine (ref6Right_any _ _ hdm).mono ?_; rintro e w1 ⟨rfl, hb⟩; have hF := hF.call hb; obtain ⟨hr, hl, hs, hd⟩ := hF.pk; clear hb))
    go_ret
    exact RB.mk' rfl hF.bel
  · have hb6 : (p.v == 6) = false := by simpa using hv6
    have hf : right6F p = false := by simp [right6F, r6a, hv6]
    rw [hf]
    clear hv6 hf
    go_enter Tryd.func33, Tryd.ntmps33
    go_wp2_with (first | (go_at_call 62; refine (ref5Right_any _ os ds _ (hp.below hF.bel)).mono ?_; rintro e w1 ⟨rfl, hb⟩; have hF := hF.call hb; obtain ⟨hr, hl, hs, hd⟩ := hF.pk; clear hb) | (go_at_call 63; refine (ref6Right_any _ _ hdm).mono ?_; rintro e w1 ⟨rfl, hb⟩; have hF := hF.call hb; obtain ⟨hr, hl, hs, hd⟩ := hF.pk; clear hb))
    go_ret
    exact RB.mk' rfl hF.bel

/-- The reference's head, of whatever packet. -/
def rheadF (p : Pk) : Int := if p.v = 4 then 20 + p.o.n else head6F p
theorem ref11head_any (p : Pk) (w : World) (ho : p.o.n ≤ 140737488351232) : Calls Tryd.prog 64 #[.agg (pkA p)] w (RB (.int .i64 (rheadF p)) w) := by
  have hF := Fr.start w (pkA p) 28
  obtain ⟨hr, hl, hs, hd⟩ := hF.pk
  have h4 : p.v = 4 → rheadF p = 20 + p.o.n := by intro h; simp [rheadF, h]
  have h6 : ¬ p.v = 4 → p.frag = true → rheadF p = 48 := by intro h h'; simp [rheadF, h, h', head6F]
  have h7 : ¬ p.v = 4 → p.frag = false → rheadF p = 40 := by intro h h'; simp [rheadF, h, h', head6F]
  generalize rheadF p = X at *
  replace h4 := Lib.hid h4
  replace h6 := Lib.hid h6
  replace h7 := Lib.hid h7
  by_cases hv : p.v = 4
  · have hb : (p.v == 4) = true := by simpa using hv
    have h := Lib.hid (h4.out hv)
    clear hv
    go_enter Tryd.func64, Tryd.ntmps64
    go_wp2
    go_ret
    exact RB.mk' (by rw [h.out]; rfl) hF.bel
  · have hb : (p.v == 4) = false := by simpa using hv
    cases hfr : p.frag
    · have h := Lib.hid (h7.out hv hfr)
      clear hv
      go_enter Tryd.func64, Tryd.ntmps64
      go_wp2
      go_ret
      exact RB.mk' (by rw [h.out]; rfl) hF.bel
    · have h := Lib.hid (h6.out hv hfr)
      clear hv
      go_enter Tryd.func64, Tryd.ntmps64
      go_wp2
      go_ret
      exact RB.mk' (by rw [h.out]; rfl) hF.bel
end Go.Proofs.YtleokgmflelkcaaDoor
