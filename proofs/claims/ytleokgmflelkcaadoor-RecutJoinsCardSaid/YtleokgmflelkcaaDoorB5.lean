/- opts.Carry of no options. -/
import Derived.Test.YtleokgmflelkcaaDoorA5
import Derived.Test.YtleokgmflelkcaaDoorA10
import Derived.Deep.LoopGhost
set_option linter.unusedSimpArgs false
set_option linter.unusedVariables false
namespace Go.Proofs.YtleokgmflelkcaaDoor
open Go Go.RowKit

theorem indexOpt0 (a : Option Addr) (c : Nat) (w : World) : Calls Tryd.prog 77 #[.slice a 0 c, .func (.func 57) #[] #[]] w (RB (.int .i64 (-1)) w) := by
  go_enter Tryd.func77, Tryd.ntmps77
  go_wp2
  go_loopw [8] (fun i wr => i = .int .i64 0 ∧ wr = w) (fun _ _ => 0)
  case atStart => exact ⟨rfl, rfl⟩
  case round =>
    obtain ⟨rfl, rfl⟩ := hrel
    go_wp2
    go_ret
    exact RB.mk' rfl (Below.refl _ _)

theorem deleteOpt0 (a : Option Addr) (c : Nat) (w : World) : Calls Tryd.prog 56 #[.slice a 0 c, .func (.func 57) #[] #[]] w (RB (.slice a 0 c) w) := by
  have hB : Below w.heap.size w w := Below.refl _ _
  go_enter Tryd.func56, Tryd.ntmps56
  go_wp2_with (first | (go_at_call 77; (with_reducible refine (indexOpt0 _ _ _).mono ?_); rintro e w1 ⟨rfl, hb⟩; have hB := hB.trans (hb.mono hB.size); clear hb))
  go_ret
  exact RB.mk' rfl hB

theorem buildOpt0 (a : Option Addr) (c : Nat) (w : World) : Calls Tryd.prog 58 #[.slice a 0 c] w (RB (.tuple #[.slice none 0 0, .int .i64 0]) w) := by
  go_enter Tryd.func58, Tryd.ntmps58
  go_wp2
  go_loopw [13] (fun i wr => i = .int .i64 0 ∧ Below w.heap.size w wr) (fun _ _ => 0)
  case atStart => exact ⟨rfl, Below.refl _ _⟩
  case round =>
    obtain ⟨rfl, hB⟩ := hrel
    go_wp2
    go_loopw [7, 46] (fun b i wr => b = .slice none 0 0 ∧ i = .int .i64 0 ∧ Below w.heap.size w wr) (fun _ _ _ => 0)
    case atStart => exact ⟨rfl, rfl, hB⟩
    case round =>
      obtain ⟨rfl, rfl, hB⟩ := hrel
      go_wp2
      go_loopw [7] (fun b wr => b = .slice none 0 0 ∧ Below w.heap.size w wr) (fun _ _ => 0)
      case atStart => exact ⟨rfl, hB⟩
      case round =>
        obtain ⟨rfl, hB⟩ := hrel
        go_wp2
        go_ret2
        exact RB.mk' rfl hB

theorem OptRow.form0 {B : Nat} {w : World} {v : Value} {n : Nat} (h : OptRow B w v n []) : ∃ a c, v = .slice a 0 c := by
  obtain ⟨ss, h1, h2, h3, _⟩ := h
  simp only [List.length_nil] at h2
  subst h2
  rcases h3.2 with ⟨rfl, _⟩ | ⟨g, cap, cur, rfl, _⟩
  · exact ⟨none, 0, rfl⟩
  · exact ⟨_, _, rfl⟩

/-- Carry of no options: none. -/
theorem carry0_any (s : Sl) (w : World) (hs : Bs w s []) (hS : Sh w) : Calls Tryd.prog 27 #[.slice s.a s.n s.c] w (RS [] w) := by
  have hn : s.n = 0 := by rw [← hs.len]; rfl
  have hB : Below w.heap.size w w := Below.refl _ _
  have hv : validO [] = true := by simp [validO, parse_nil]
  have hval := Lib.hid (fun (V : World) (hb : Below w.heap.size w V) => hv ▸ valid_any s [] V (hs.below hb) (by omega) (hS.below hb))
  have hpar := Lib.hid (fun (V : World) (hb : Below w.heap.size w V) => parse_nil ▸ parse_any s [] V (hs.below hb) (by omega) (hS.below hb))
  replace hn := Lib.hid hn
  clear hv
  go_enter Tryd.func27, Tryd.ntmps27
  go_wp2_with (first | (go_at_call 51; (with_reducible refine (hval.out _ hB).mono ?_); rintro e w1 ⟨rfl, hb⟩; have hB := hB.trans (hb.mono hB.size); clear hb) | (go_at_call 55; (with_reducible refine (hpar.out _ hB).mono ?_); rintro e w2 ⟨v, m, rfl, hrow, hb⟩; obtain ⟨a, c, rfl⟩ := (hrow [] rfl).form0; have hB := hB.trans (hb.mono hB.size); clear hb hrow) | (go_at_call 56; (with_reducible refine (deleteOpt0 _ _ _).mono ?_); rintro e w3 ⟨rfl, hb⟩; have hB := hB.trans (hb.mono hB.size); clear hb) | (go_at_call 58; (with_reducible refine (buildOpt0 _ _ _).mono ?_); rintro e w4 ⟨rfl, hb⟩; have hB := hB.trans (hb.mono hB.size); clear hb))
  go_ret
  exact ⟨⟨none, 0, 0⟩, rfl, own_nil _ _, hB⟩
end Go.Proofs.YtleokgmflelkcaaDoor
