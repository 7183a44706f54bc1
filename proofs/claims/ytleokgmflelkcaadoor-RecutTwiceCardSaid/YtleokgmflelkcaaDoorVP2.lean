/- The hand-in's plumbing: the listed variable, the law's arguments. -/
import Derived.Test.YtleokgmflelkcaaDoorVP1
import Derived.Test.YtleokgmflelkcaaDoorVA3
import Derived.Test.YtleokgmflelkcaaDoorCards
import Derived.Test.YtleokgmflelkcaaDoorTie
import Derived.Deep.DeepHandedRow
import Derived.Lib.LaidTab
set_option linter.unusedSimpArgs false
set_option linter.unusedVariables false
namespace Go.Proofs.YtleokgmflelkcaaDoor
open Go Go.RowKit Go.ChangeShapes Go.WideShapes Go.ChangeAt

theorem own_knob : ownKnob Tryd.prog.godebug = none := by kernel_rfl
theorem gTab : Tryd.prog.globalNamed "mosaic/opts.shapes" = some 0 := by kernel_rfl
theorem gTabType : (Tryd.prog.globals[0]?).map (·.type) = some 101 := by kernel_rfl
theorem cellsTab : Tryd.prog.cellsOf 101 = 2 := by kernel_rfl
theorem sh_of_laid {W : World} (h : laidMetH Tryd.prog [("mosaic/opts.shapes", Rows.laid_mosaic_opts_shapes)] W) : Sh W := by
  have ht : Lib.TabIs Tryd.prog W "mosaic/opts.shapes" .i64 [1, 2] := Lib.tabIs_of_head (rest := []) gTab gTabType Tryd.underlying101 Tryd.underlying3 cells3 cellsTab h
  have c0 : W.cell? ⟨0, 0, none⟩ = some (.int .i64 1) := ht.cell gTab 0 (by decide)
  have c1 : W.cell? ⟨0, 1, none⟩ = some (.int .i64 2) := ht.cell gTab 1 (by decide)
  refine ⟨c0, c1, ?_⟩
  unfold World.cell? at c0
  by_cases hb : 0 < W.heap.size
  · exact hb
  · rw [Array.getElem?_eq_none (by simpa using hb)] at c0
    simp at c0

set_option maxRecDepth 100000 in
/-- A packet that is an argument. -/
theorem arg_pk {H : Type} {enc : TypeId × Value → H} {W : World} {base : Nat} {v : Value} {d : DataW H} {p : List MemPlace} (hv : Value.okWide Tryd.prog W .any base 28 v) (h : DataW.Trod enc Tryd.prog W 0 (fun _ => true) true 28 v d p)
    (hw : ∀ n ∈ d.weights Tryd.prog 28, n ≤ reachBytes) : ∃ (q : Pk) (os ds : List Int), v = .agg (pkA q) ∧ PkIn W q os ds := by
  unfold Value.okWide at hv
  rw [Tryd.underlying28] at hv
  obtain ⟨cs, rfl, -⟩ := hv
  obtain ⟨fuel, hf⟩ := h
  obtain ⟨q, os, ds, hq, hin⟩ := open_pk (cs := cs.toList) hf hw
  exact ⟨q, os, ds, congrArg Value.agg (Array.toList_inj.1 hq), hin⟩
theorem reach_bytes : reachBytes = 140737488351232 := rfl
theorem bytes28 : Tryd.prog.bytesOf 28 = 152 := by kernel_rfl
theorem mem_all {H : Type} {P : Program} {e : TypeId} : ∀ {ds : List (DataW H)} {d : DataW H}, d ∈ ds → ∀ n ∈ d.weights P e, n ∈ DataW.weightsAll P e ds
  | x :: ds, d, h, n, hn => by
    rw [DataW.weightsAll]
    rcases List.mem_cons.1 h with rfl | h
    · exact List.mem_append_left _ hn
    · exact List.mem_append_right _ (mem_all h n hn)
set_option maxRecDepth 100000 in
/-- A list of packets that is an argument. -/
theorem arg_pks {H : Type} {enc : TypeId × Value → H} {W : World} {base : Nat} {v : Value} {d : DataW H} {p : List MemPlace} (hv : Value.okWide Tryd.prog W .any base 29 v) (h : DataW.Trod enc Tryd.prog W 0 (fun _ => true) true 29 v d p)
    (hw : ∀ n ∈ d.weights Tryd.prog 29, n ≤ reachBytes) : ∃ (s : Sl) (l : List Fp), v = .slice s.a s.n s.c ∧ PkS W s l ∧ s.n ≤ 925904528626 := by
  unfold Value.okWide at hv
  rw [Tryd.underlying29] at hv
  simp only at hv
  unfold Cell.okWide at hv
  rw [Tryd.underlying29] at hv
  unfold Cell.ok at hv
  rw [Tryd.underlying29] at hv
  obtain ⟨fuel, hf⟩ := h
  cases v <;> simp only at hv
  rename_i a n c
  cases a with
  | none =>
    rcases DataW.trod_slice Tryd.underlying29 hf with ⟨hcs, -⟩ | ⟨a, len, cap, elems, rest, m, -, hcs, -⟩
    · simp only [Value.cells, List.cons.injEq, and_true, Value.slice.injEq, true_and] at hcs
      obtain ⟨rfl, rfl⟩ := hcs
      exact ⟨⟨none, 0, 0⟩, [], rfl, PkS.nil W, by decide⟩
    · simp [Value.cells] at hcs
  | some a =>
    simp only at hv
    obtain ⟨hnc, -, -, hspot, row, cells, hsh, -⟩ := hv
    rcases DataW.trod_slice Tryd.underlying29 hf with ⟨hcs, -⟩ | ⟨a', len, cap, elems, rest, m, -, hcs, hx, -, -, -, hlen, hel, hsp, -⟩
    · simp [Value.cells] at hcs
    · simp only [Value.cells, List.cons.injEq, and_true, Value.slice.injEq, Option.some.injEq] at hcs
      obtain ⟨rfl, rfl, rfl⟩ := hcs
      obtain ⟨hrl, -⟩ := hsp rfl
      obtain ⟨b, o, sp⟩ := a
      simp only at hspot hsh
      subst hspot
      have hd := congrArg Prod.fst hx
      simp only at hd
      subst hd
      rw [cells28] at hel
      have hw1 := hw ((elems.length + rest.length) * 152) (by simp only [DataW.weights, Tryd.underlying29, bytes28, List.length_map, List.mem_cons, true_or])
      have hn : n ≤ 925904528626 := by rw [reach_bytes] at hw1; omega
      have each : ∀ i : Fin n, ∃ x : Fp, At W b (o + i.1 * 46) (pkA x.p) ∧ PkIn W x.p x.os x.ds := by
        intro i
        have he := hel i.1 i.2
        rw [List.getElem?_eq_getElem (by omega), Option.bind_eq_some_iff] at he
        obtain ⟨cs, hcs, hy⟩ := he
        obtain ⟨q, os, ds, hq, hin⟩ := open_pk hy (fun k hk => hw k (by
          simp only [DataW.weights, Tryd.underlying29, List.mem_cons, List.mem_append]
          exact .inr (.inl (mem_all (List.mem_map_of_mem (List.getElem_mem _)) k hk))))
        refine ⟨⟨q, os, ds⟩, fun j hj => ?_, hin⟩
        obtain ⟨-, -, hc⟩ := World.cells?_some hcs
        rw [pkA_size] at hj
        have := hc j hj
        have hadd : ((⟨b, o, none⟩ : Addr).add (i.1 * 46)).add j = ⟨b, o + i.1 * 46 + j, none⟩ := by
          unfold Addr.add; split <;> split <;> simp_all
        rw [hadd, hq] at this
        rw [this]; simp
      refine ⟨⟨some ⟨b, o, none⟩, n, c⟩, List.ofFn fun i : Fin n => Classical.choose (each i), rfl, ⟨by simp, hnc, fun x hx => ?_, .inr ⟨b, o, rfl, lt_of_shape hsh, fun i x hx => ?_⟩⟩, hn⟩
      · rw [List.mem_ofFn] at hx
        obtain ⟨i, rfl⟩ := hx
        exact (Classical.choose_spec (each i)).2
      · rw [List.getElem?_ofFn] at hx
        split at hx
        · rename_i hi
          cases hx
          exact (Classical.choose_spec (each ⟨i, hi⟩)).1
        · cases hx
end Go.Proofs.YtleokgmflelkcaaDoor
