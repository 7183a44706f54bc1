/- Cuts of byte slices inside a region that draws its order: one step of the lexical walk. -/
import Derived.Test.YtleokgmflelkcaaDoorA14
set_option linter.unusedSimpArgs false
set_option linter.unusedVariables false
namespace Go.Proofs.YtleokgmflelkcaaDoor
open Go Go.RowKit

section
variable {ops : Array Oper} {rest : List Oper} {o : Oper} {a : Act} {C : World → Prop} {Q : Act → Prop}
theorem wpQuiet_run (hw : Region.wanted o (yielded ops a.tmps) = true) (v : Value) (hr : ∀ w, C w → (execOp a.eval o).run Tryd.prog w = .ok (.value v) w) (h : wpQuiet Tryd.prog ops C Q rest (a.put o.dst v)) : wpQuiet Tryd.prog ops C Q (o :: rest) a := by
  unfold wpQuiet
  rw [hw]
  simp only [if_true]
  refine ⟨v, fun w hc => ?_, h⟩
  unfold Oper.quietAt
  rw [hr w hc]
  exact ⟨rfl, rfl⟩
theorem wpQuiet_slice_l (hw : Region.wanted o (yielded ops a.tmps) = true) (x lo : Operand) (ho : o.op = .slice 26 x (some lo) none none) (s s' : Sl) (l : Int) (hx : a.eval x = .slice s.a s.n s.c) (hlo : a.eval lo = .int .i64 l)
    (he : sliced s.a l.toNat s.n s.c 1 = .slice s'.a s'.n s'.c) (h0 : 0 ≤ l) (h1 : l ≤ s.n) (h : wpQuiet Tryd.prog ops C Q rest (a.put o.dst (.slice s'.a s'.n s'.c))) : wpQuiet Tryd.prog ops C Q (o :: rest) a := by
  refine wpQuiet_run hw _ (fun W _ => ?_) h
  have hrun := run_slice_l (P := Tryd.prog) W 26 s.a s.n s.c (by kernel_rfl) .i64 l h0 h1
  have hel : Tryd.prog.elem 26 = 5 := by kernel_rfl
  have hsz : (sizeOf 5).run Tryd.prog W = .ok 1 W := by kernel_rfl
  rw [hel, hsz, Result.andThen_ok, he] at hrun
  have hat : (Instr.sliceAt 26 (.slice s.a s.n s.c) (some (.int .i64 l)) none none).run Tryd.prog W = .ok (.slice s'.a s'.n s'.c) W := by
    rw [run_sliceAt_slice W 26 _ _ _ _ (by kernel_rfl)]; exact hrun
  unfold execOp
  simp only [ho, hx, Option.map_some, Option.map_none, hlo, hat, Sem.run_bind, Result.andThen_ok]
  rfl
theorem wpQuiet_slice_lh (hw : Region.wanted o (yielded ops a.tmps) = true) (x lo hi : Operand) (ho : o.op = .slice 26 x (some lo) (some hi) none) (s s' : Sl) (l u : Int) (hx : a.eval x = .slice s.a s.n s.c) (hlo : a.eval lo = .int .i64 l) (hhi : a.eval hi = .int .i64 u)
    (he : sliced s.a l.toNat u.toNat s.c 1 = .slice s'.a s'.n s'.c) (h0 : 0 ≤ l) (h1 : l ≤ u) (h2 : u ≤ s.c) (h : wpQuiet Tryd.prog ops C Q rest (a.put o.dst (.slice s'.a s'.n s'.c))) : wpQuiet Tryd.prog ops C Q (o :: rest) a := by
  refine wpQuiet_run hw _ (fun W _ => ?_) h
  have hrun := run_slice_lh (P := Tryd.prog) W 26 s.a s.n s.c (by kernel_rfl) .i64 .i64 l u h0 h1 h2
  have hel : Tryd.prog.elem 26 = 5 := by kernel_rfl
  have hsz : (sizeOf 5).run Tryd.prog W = .ok 1 W := by kernel_rfl
  rw [hel, hsz, Result.andThen_ok, he] at hrun
  have hat : (Instr.sliceAt 26 (.slice s.a s.n s.c) (some (.int .i64 l)) (some (.int .i64 u)) none).run Tryd.prog W = .ok (.slice s'.a s'.n s'.c) W := by
    rw [run_sliceAt_slice W 26 _ _ _ _ (by kernel_rfl)]; exact hrun
  unfold execOp
  simp only [ho, hx, Option.map_some, Option.map_none, hlo, hhi, hat, Sem.run_bind, Result.andThen_ok]
  rfl
end
end Go.Proofs.YtleokgmflelkcaaDoor
