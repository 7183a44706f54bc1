/- Regions that draw their order and hold calls that make memory: one walk, in any world in which an invariant holds. -/
import Derived.Test.YtleokgmflelkcaaDoorA0
import Derived.Deep.QuietTactic
import Derived.BigQuiet
set_option linter.unusedSimpArgs false
set_option linter.unusedVariables false
namespace Go.Proofs.YtleokgmflelkcaaDoor
open Go Go.RowKit

/-- A world in which I holds. -/
structure Wd (I : World → Prop) where
  w : World
  h : I w

theorem wp_region_in {id : Nat} {Q : Exit → Act → World → Prop} {a : Act} {w : World} {l : List Oper} (I : World → Prop) (hm : Tryd.prog.follows .mixedOrders = true) (hB : Region.lexB .any l.toArray = true) (hI : I w.drew)
    (h : wpQuiet Tryd.prog l.toArray (fun W => ∃ V : Wd I, W = V.w) (fun a' => ∀ w', (∃ V : Wd I, w' = V.w) → Q .normal a' w') l a) : (Code.region id l.toArray true).wp Tryd.prog Q a w :=
  wp_region_quiet (C := fun W => ∃ V : Wd I, W = V.w) hm hB ⟨⟨w.drew, hI⟩, rfl⟩ (by simpa using h)

theorem call_in {I : World → Prop} {f : FuncId} {args : Array Value} {V : Wd I} {v : Value} (stab : ∀ W W', I W → Below W.heap.size W W' → I W') (h : Calls Tryd.prog f args V.w (RB v V.w)) :
    Calls Tryd.prog f args V.w fun e w'' => e = .returned v ∧ ∃ V' : Wd I, w'' = V'.w :=
  h.mono fun _ w'' ⟨he, hb⟩ => ⟨he, ⟨⟨w'', stab _ _ V.h hb⟩, rfl⟩⟩

theorem Fr.drew {w W : World} {b : Nat} {cs : Array Value} (h : Fr w W b cs) : Fr w W.drew b cs := ⟨h.bel.drew, h.at_, h.lt⟩

/-- The walk's own bookkeeping with several boxes: w the world at the call's begin, W now; each box with its type and its cells. -/
structure Bx (w W : World) (bs : List (Nat × TypeId × Array Value)) : Prop where
  bel : Below w.heap.size w W
  at_ : ∀ x ∈ bs, w.heap.size ≤ x.1 ∧ W.heap[x.1]? = some (.cells x.2.2 x.2.1 (0, 0))
  nd : (bs.map (·.1)).Nodup
theorem Bx.start (w : World) : Bx w w [] := ⟨Below.refl _ _, (fun x h => by cases h), List.nodup_nil⟩
theorem Bx.lt {w W : World} {bs : List (Nat × TypeId × Array Value)} (h : Bx w W bs) : ∀ x ∈ bs, x.1 < W.heap.size := fun x hx => (Array.getElem?_eq_some_iff.1 (h.at_ x hx).2).1
theorem Bx.call {w W W1 : World} {bs : List (Nat × TypeId × Array Value)} (h : Bx w W bs) (hb : Below W.heap.size W W1) : Bx w W1 bs :=
  ⟨h.bel.trans (hb.mono h.bel.size), fun x hx => ⟨(h.at_ x hx).1, by rw [hb.block _ (h.lt x hx)]; exact (h.at_ x hx).2⟩, h.nd⟩
theorem Bx.drew {w W : World} {bs : List (Nat × TypeId × Array Value)} (h : Bx w W bs) : Bx w W.drew bs := ⟨h.bel.drew, h.at_, h.nd⟩
theorem Bx.alloc {w W : World} {bs : List (Nat × TypeId × Array Value)} (h : Bx w W bs) (cs : Array Value) (t : TypeId) : Bx w (W.alloc (.cells cs t)) ((W.heap.size, t, cs) :: bs) := by
  refine ⟨h.bel.alloc h.bel.size _, fun x hx => ?_, ?_⟩
  · rcases List.mem_cons.1 hx with rfl | hx
    · exact ⟨h.bel.size, heap_alloc_new _ _⟩
    · exact ⟨(h.at_ x hx).1, by rw [Below.heap_alloc _ _ _ (h.lt x hx)]; exact (h.at_ x hx).2⟩
  · rw [List.map_cons, List.nodup_cons]
    refine ⟨fun hm => ?_, h.nd⟩
    obtain ⟨x, hx, e⟩ := List.mem_map.1 hm
    have := h.lt x hx
    omega
theorem Bx.junk {w W : World} {bs : List (Nat × TypeId × Array Value)} (h : Bx w W bs) (o : Obj) : Bx w (W.alloc o) bs := h.call ((Below.refl _ _).alloc (Nat.le_refl _) _)
/-- A box is written over. -/
theorem Bx.set {w W : World} {bs cs : List (Nat × TypeId × Array Value)} {b : Nat} {t : TypeId} {c : Array Value} (h : Bx w W (bs ++ (b, t, c) :: cs)) (c' : Array Value) : Bx w (W.setRow b c') (bs ++ (b, t, c') :: cs) := by
  have hb := h.at_ (b, t, c) (by simp)
  have hnd := h.nd
  rw [List.map_append, List.map_cons] at hnd
  have hne : ∀ x, x ∈ bs ∨ x ∈ cs → x.1 ≠ b := by
    rintro x (hx | hx) e
    · have := (List.nodup_append.1 hnd).2.2 x.1 (List.mem_map_of_mem hx) b (by simp)
      exact this e
    · have := (List.nodup_cons.1 (List.nodup_append.1 hnd).2.1).1
      have hm : x.1 ∈ cs.map (·.1) := List.mem_map_of_mem hx
      rw [e] at hm
      exact this hm
  refine ⟨?_, fun x hx => ?_, ?_⟩
  · exact ⟨h.bel.os, h.bel.tape, h.bel.output, by rw [setRow_size]; exact h.bel.size, fun k hk => by rw [setRow_other _ _ _ _ (by have := hb.1; simp only at this; omega)]; exact h.bel.block k hk⟩
  · simp only [List.mem_append, List.mem_cons] at hx
    rcases hx with hx | rfl | hx
    · exact ⟨(h.at_ x (by simp [hx])).1, by rw [setRow_other _ _ _ _ (hne x (.inl hx))]; exact (h.at_ x (by simp [hx])).2⟩
    · exact ⟨hb.1, setRow_heap _ _ _ _ _ _ hb.2⟩
    · exact ⟨(h.at_ x (by simp [hx])).1, by rw [setRow_other _ _ _ _ (hne x (.inr hx))]; exact (h.at_ x (by simp [hx])).2⟩
  · rw [List.map_append, List.map_cons]; exact hnd
theorem Bx.set0 {w W : World} {cs : List (Nat × TypeId × Array Value)} {b : Nat} {t : TypeId} {c : Array Value} (h : Bx w W ((b, t, c) :: cs)) (c' : Array Value) : Bx w (W.setRow b c') ((b, t, c') :: cs) := Bx.set (bs := []) h c'
theorem Bx.set1 {w W : World} {x : Nat × TypeId × Array Value} {cs : List (Nat × TypeId × Array Value)} {b : Nat} {t : TypeId} {c : Array Value} (h : Bx w W (x :: (b, t, c) :: cs)) (c' : Array Value) : Bx w (W.setRow b c') (x :: (b, t, c') :: cs) := Bx.set (bs := [x]) h c'
theorem Bx.set2 {w W : World} {x y : Nat × TypeId × Array Value} {cs : List (Nat × TypeId × Array Value)} {b : Nat} {t : TypeId} {c : Array Value} (h : Bx w W (x :: y :: (b, t, c) :: cs)) (c' : Array Value) : Bx w (W.setRow b c') (x :: y :: (b, t, c') :: cs) := Bx.set (bs := [x, y]) h c'

theorem Bx.at {w W : World} {bs : List (Nat × TypeId × Array Value)} (h : Bx w W bs) {b : Nat} {t : TypeId} {c : Array Value} (hm : (b, t, c) ∈ bs) : W.heap[b]? = some (.cells c t (0, 0)) := (h.at_ _ hm).2
theorem at_of_heap {W : World} {b : Nat} {t : TypeId} {c : Array Value} (h : W.heap[b]? = some (.cells c t (0, 0))) : At W b 0 c := fun j hj => by
  rw [Nat.zero_add]; exact cell_of_row W b j c t (0, 0) h
/-- All that a walk asks of a boxed packet in W. -/
theorem pk_at {W : World} {b : Nat} {t : TypeId} {p : Pk} (h : W.heap[b]? = some (.cells (pkA p) t (0, 0))) :
    (∀ j, j < 46 → W.cell? ⟨b, j, none⟩ = (pkA p)[j]?) ∧ loadN Tryd.prog W ⟨b, 0, none⟩ 46 = .ok (pkA p) W ∧ loadN Tryd.prog W ⟨b, 3, none⟩ 17 = .ok (adrA p.src) W ∧ loadN Tryd.prog W ⟨b, 20, none⟩ 17 = .ok (adrA p.dst) W :=
  have h := at_of_heap h
  ⟨h.cells (pkA_size p), loadN_at h (pkA_size _), loadN_at h.src (adrA_size _), loadN_at h.dst (adrA_size _)⟩

/-- One cell of a box is written. -/
theorem wpList_store_cell {ops : Array Oper} {rest : List Oper} {o : Oper} {a : Act} {W : World} {Q : Exit → Act → World → Prop} (hgd : o.guard = none) (ty : TypeId) (x y : Operand) (ho : o.op = .store ty x y) (b k : Nat) (v : Value)
    (hx : a.eval x = .pointer (some ⟨b, k, none⟩)) (hy : a.eval y = v) (t : TypeId) (c : Array Value) (hb : W.heap[b]? = some (.cells c t (0, 0))) (hi : (sizeOf ty).run Tryd.prog W = .ok 1 W) (h1 : v.oneCell' = true) (hv : v.cells = #[v]) (hk : k < c.size)
    (h : wpList Tryd.prog ops Q rest (a.put o.dst undef) (W.setRow b (c.setIfInBounds k v))) : wpList Tryd.prog ops Q (o :: rest) a W := by
  refine wpList_plain hgd fun K hK => ?_
  have hcell : W.cell? ⟨b, k, none⟩ = c[k]? := cell_of_row W b k c t (0, 0) hb
  have hcs : c[k]? = some c[k] := Array.getElem?_eq_getElem hk
  have hfz : W.frozen? ⟨b, k, none⟩ = false := frozen_of_row W b k c t hb
  have hst : (store ⟨b, k, none⟩ v).run Tryd.prog W = .ok () (W.setRow b (c.setIfInBounds k v)) := by
    rw [run_store Tryd.prog W _ v _ h1, hcell, hcs, setCell_eq_setRow W b k c t (0, 0) v hb]
    simp [hfz]
  unfold Oper.wp execOp
  simp only [ho, hx, hy, Instr.storeAt, Instr.sureAddr, storeVar, Sem.run_bind, Sem.run_pure, Result.andThen_ok, hi, hv]
  simp only [List.size_toArray, List.length_cons, List.length_nil, Nat.zero_add, ne_eq, not_true_eq_false, if_false, storeCells, Addr.add_zero', Sem.run_bind, hst, Result.andThen_ok, Sem.run_pure]
  exact hK _ _ h
end Go.Proofs.YtleokgmflelkcaaDoor
