/- RecutRefuses: of every packet, MTU and choice of version the law returns true. -/
import Derived.Test.YtleokgmflelkcaaDoorC7
import Derived.Test.YtleokgmflelkcaaDoorP4
set_option linter.unusedSimpArgs false
set_option linter.unusedVariables false
namespace Go.Proofs.YtleokgmflelkcaaDoor
open Go Go.RowKit

theorem refuses_any : RefusesAny := by
  intro p os ds mtu six W hp hS
  cases six
  · by_cases h1 : mtu < 68 ∨ mtu > 65535
    · exact refuses_4a p os ds mtu 1 W hp hS (.inl ⟨rfl, h1⟩)
    · by_cases h2 : 20 + ((rightOs os).length : Int) + (rightDs os ds).length ≤ mtu
      · exact refuses_4b p os ds mtu W hp hS (by omega) (by omega) h2
      · exact refuses_4a p os ds mtu 100 W hp hS (.inr ⟨rfl, by omega, by omega, by omega⟩)
  · by_cases h1 : mtu < 68 ∨ mtu > 65535
    · exact refuses_6a p os ds mtu 1 W hp hS (.inl ⟨rfl, h1⟩)
    · by_cases h2 : 40 + ((rightDs os ds).length : Int) ≤ mtu
      · exact refuses_6b p os ds mtu W hp hS (by omega) (by omega) h2
      · exact refuses_6a p os ds mtu 100 W hp hS (.inr ⟨rfl, by omega, by omega, by omega⟩)
theorem recutRefuses_holds : Rows.RecutRefusesCardSaid := refuses_card refuses_any
end Go.Proofs.YtleokgmflelkcaaDoor
