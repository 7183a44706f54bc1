/- RecutRefuses: the card, from the law's contract. -/
import Derived.Test.YtleokgmflelkcaaDoorP3
import Derived.Test.YtleokgmflelkcaaDoorCards
import Derived.Test.YtleokgmflelkcaaDoorTie
set_option linter.unusedSimpArgs false
set_option linter.unusedVariables false
namespace Go.Proofs.YtleokgmflelkcaaDoor
open Go Go.RowKit Go.ChangeShapes Go.WideShapes Go.ChangeAt

theorem refuses_plain (f : FuncId) (fn : Func) (hf : Tryd.pinned.checked.prog.funcNamed "mosaic/mosaiclaw11.RecutRefuses" = some f) (hfn : Tryd.pinned.checked.prog.funcs[f]? = some fn) :
    false = Tryd.pinned.checked.prog.looks [] ∧ ∀ (j : Nat) t, fn.params[j]? = some t → Tryd.pinned.checked.prog.wantsStandIn t = false := by
  obtain rfl : f = 9 := Option.some.inj ((show Tryd.prog.funcNamed "mosaic/mosaiclaw11.RecutRefuses" = some 9 by kernel_rfl).symm.trans hf) |>.symm
  obtain rfl : fn = Tryd.f9 := (Option.some.inj (Tryd.func9.symm.trans hfn)).symm
  refine ⟨by kernel_rfl, fun j t ht => ?_⟩
  rw [Tryd.params9] at ht
  have hm := Array.mem_of_getElem? ht
  have : t = 28 ∨ t = 3 ∨ t = 4 := by simpa using hm
  rcases this with rfl | rfl | rfl
  · exact (show Tryd.prog.wantsStandIn 28 = false by kernel_rfl)
  · exact (show Tryd.prog.wantsStandIn 3 = false by kernel_rfl)
  · exact (show Tryd.prog.wantsStandIn 4 = false by kernel_rfl)

theorem refuses_card (hc : RefusesAny) : Rows.RecutRefusesCardSaid :=
  Claim7.holds_tied_plain_at .later [] _ _ _ _ (refuses_said hc) (fun _ h => by cases h) (by kernel_rfl) (fun _ h => by cases h) recutRefuses_row_tie rfl ⟨rfl, rfl⟩ (by kernel_rfl) rfl refuses_plain (by kernel_rfl)
end Go.Proofs.YtleokgmflelkcaaDoor
