/- The hand-in's plumbing: the listed variable, the law's arguments. -/
import Derived.Test.YtleokgmflelkcaaDoorP1
import Derived.Test.YtleokgmflelkcaaDoorA3
import Derived.Test.YtleokgmflelkcaaDoorCards
import Derived.Test.YtleokgmflelkcaaDoorTie
import Derived.Deep.DeepHandedRow
import Derived.Lib.LaidTab
set_option linter.unusedSimpArgs false
set_option linter.unusedVariables false
namespace Go.Proofs.YtleokgmflelkcaaDoor
open Go Go.RowKit Go.ChangeShapes Go.WideShapes Go.ChangeAt

theorem own_knob : ownKnob Tryd.prog.godebug = none := by kernel_rfl
theorem gTab : Tryd.prog.globalNamed "mosaic/opts.shapes" = some 0 := by kernel_rfl
theorem gTabType : (Tryd.prog.globals[0]?).map (·.type) = some 101 := by kernel_rfl
theorem cellsTab : Tryd.prog.cellsOf 101 = 2 := by kernel_rfl
theorem sh_of_laid {W : World} (h : laidMetH Tryd.prog [("mosaic/opts.shapes", Rows.laid_mosaic_opts_shapes)] W) : Sh W := by
  have ht : Lib.TabIs Tryd.prog W "mosaic/opts.shapes" .i64 [1, 2] := Lib.tabIs_of_head (rest := []) gTab gTabType Tryd.underlying101 Tryd.underlying3 cells3 cellsTab h
  have c0 : W.cell? ⟨0, 0, none⟩ = some (.int .i64 1) := ht.cell gTab 0 (by decide)
  have c1 : W.cell? ⟨0, 1, none⟩ = some (.int .i64 2) := ht.cell gTab 1 (by decide)
  refine ⟨c0, c1, ?_⟩
  unfold World.cell? at c0
  by_cases hb : 0 < W.heap.size
  · exact hb
  · rw [Array.getElem?_eq_none (by simpa using hb)] at c0
    simp at c0

set_option maxRecDepth 100000 in
/-- A packet that is an argument. -/
theorem arg_pk {H : Type} {enc : TypeId × Value → H} {W : World} {base : Nat} {v : Value} {d : DataW H} {p : List MemPlace} (hv : Value.okWide Tryd.prog W .any base 28 v) (h : DataW.Trod enc Tryd.prog W 0 (fun _ => true) true 28 v d p)
    (hw : ∀ n ∈ d.weights Tryd.prog 28, n ≤ reachBytes) : ∃ (q : Pk) (os ds : List Int), v = .agg (pkA q) ∧ PkIn W q os ds := by
  unfold Value.okWide at hv
  rw [Tryd.underlying28] at hv
  obtain ⟨cs, rfl, hsz, ts, hts, -, hrow⟩ := hv
  obtain ⟨fuel, hf⟩ := h
  have ht : Tryd.prog.cellTypes Tryd.prog.depth 28 = some [3, 3, 3, 3, 5, 5, 5, 5, 5, 5, 5, 5, 5, 5, 5, 5, 5, 5, 5, 5, 3, 5, 5, 5, 5, 5, 5, 5, 5, 5, 5, 5, 5, 5, 5, 5, 5, 3, 3, 25, 4, 4, 4, 3, 26, 26] := by kernel_rfl
  rw [ht] at hts
  obtain rfl := Option.some.inj hts
  have hok : ∀ (k : Nat) (v : Value), (k = 44 ∨ k = 45) → cs.toList[k]? = some v → Cell.ok Tryd.prog W .any base 26 v := by
    intro k v hk hv
    have hv' : cs[k]? = some v := by simpa using hv
    obtain ⟨u, hu, hc⟩ := hrow k v hv'
    have hu26 : u = 26 := by
      rcases hk with rfl | rfl <;> simpa using hu.symm
    subst hu26
    unfold Cell.okWide at hc
    rw [Tryd.underlying26] at hc
    exact hc
  obtain ⟨q, os, ds, hq, hin⟩ := open_pk (cs := cs.toList) (r := .any) (b0 := base) (fun v h => h.elim (hok 44 v (.inl rfl)) (hok 45 v (.inr rfl))) hf hw
  exact ⟨q, os, ds, congrArg Value.agg (Array.toList_inj.1 hq), hin⟩
end Go.Proofs.YtleokgmflelkcaaDoor
