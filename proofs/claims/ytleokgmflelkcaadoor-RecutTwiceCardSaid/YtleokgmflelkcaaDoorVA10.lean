/- Regions that draw their order and hold calls that make memory: one walk, in any world in which an invariant holds. Packets in new memory: own, piece; one packet told from another. -/
import Derived.Test.YtleokgmflelkcaaDoorVA0
import Derived.Deep.QuietTactic
import Derived.BigQuiet
import Derived.Test.YtleokgmflelkcaaDoorVA7
import Derived.Test.YtleokgmflelkcaaDoorVA8
set_option linter.unusedSimpArgs false
set_option linter.unusedVariables false
namespace Go.Proofs.YtleokgmflelkcaaDoor
open Go Go.RowKit

/-- A world in which I holds. -/
structure Wd (I : World → Prop) where
  w : World
  h : I w

theorem wp_region_in {id : Nat} {Q : Exit → Act → World → Prop} {a : Act} {w : World} {l : List Oper} (I : World → Prop) (hm : Tryd.prog.follows .mixedOrders = true) (hB : Region.lexB .any l.toArray = true) (hI : I w.drew)
    (h : wpQuiet Tryd.prog l.toArray (fun W => ∃ V : Wd I, W = V.w) (fun a' => ∀ w', (∃ V : Wd I, w' = V.w) → Q .normal a' w') l a) : (Code.region id l.toArray true).wp Tryd.prog Q a w :=
  wp_region_quiet (C := fun W => ∃ V : Wd I, W = V.w) hm hB ⟨⟨w.drew, hI⟩, rfl⟩ (by simpa using h)

theorem call_in {I : World → Prop} {f : FuncId} {args : Array Value} {V : Wd I} {v : Value} (stab : ∀ W W', I W → Below W.heap.size W W' → I W') (h : Calls Tryd.prog f args V.w (RB v V.w)) :
    Calls Tryd.prog f args V.w fun e w'' => e = .returned v ∧ ∃ V' : Wd I, w'' = V'.w :=
  h.mono fun _ w'' ⟨he, hb⟩ => ⟨he, ⟨⟨w'', stab _ _ V.h hb⟩, rfl⟩⟩

theorem Fr.drew {w W : World} {b : Nat} {cs : Array Value} (h : Fr w W b cs) : Fr w W.drew b cs := ⟨h.bel.drew, h.at_, h.lt⟩

/-- The walk's own bookkeeping with several boxes: w the world at the call's begin, W now; each box with its type and its cells. -/
structure Bx (w W : World) (bs : List (Nat × TypeId × Array Value)) : Prop where
  bel : Below w.heap.size w W
  at_ : ∀ x ∈ bs, w.heap.size ≤ x.1 ∧ W.heap[x.1]? = some (.cells x.2.2 x.2.1 (0, 0))
  nd : (bs.map (·.1)).Nodup
theorem Bx.start (w : World) : Bx w w [] := ⟨Below.refl _ _, (fun x h => by cases h), List.nodup_nil⟩
theorem Bx.lt {w W : World} {bs : List (Nat × TypeId × Array Value)} (h : Bx w W bs) : ∀ x ∈ bs, x.1 < W.heap.size := fun x hx => (Array.getElem?_eq_some_iff.1 (h.at_ x hx).2).1
theorem Bx.call {w W W1 : World} {bs : List (Nat × TypeId × Array Value)} (h : Bx w W bs) (hb : Below W.heap.size W W1) : Bx w W1 bs :=
  ⟨h.bel.trans (hb.mono h.bel.size), fun x hx => ⟨(h.at_ x hx).1, by rw [hb.block _ (h.lt x hx)]; exact (h.at_ x hx).2⟩, h.nd⟩
theorem Bx.drew {w W : World} {bs : List (Nat × TypeId × Array Value)} (h : Bx w W bs) : Bx w W.drew bs := ⟨h.bel.drew, h.at_, h.nd⟩
theorem Bx.alloc {w W : World} {bs : List (Nat × TypeId × Array Value)} (h : Bx w W bs) (cs : Array Value) (t : TypeId) : Bx w (W.alloc (.cells cs t)) ((W.heap.size, t, cs) :: bs) := by
  refine ⟨h.bel.alloc h.bel.size _, fun x hx => ?_, ?_⟩
  · rcases List.mem_cons.1 hx with rfl | hx
    · exact ⟨h.bel.size, heap_alloc_new _ _⟩
    · exact ⟨(h.at_ x hx).1, by rw [Below.heap_alloc _ _ _ (h.lt x hx)]; exact (h.at_ x hx).2⟩
  · rw [List.map_cons, List.nodup_cons]
    refine ⟨fun hm => ?_, h.nd⟩
    obtain ⟨x, hx, e⟩ := List.mem_map.1 hm
    have := h.lt x hx
    omega
theorem Bx.junk {w W : World} {bs : List (Nat × TypeId × Array Value)} (h : Bx w W bs) (o : Obj) : Bx w (W.alloc o) bs := h.call ((Below.refl _ _).alloc (Nat.le_refl _) _)
/-- A box is written over. -/
theorem Bx.set {w W : World} {bs cs : List (Nat × TypeId × Array Value)} {b : Nat} {t : TypeId} {c : Array Value} (h : Bx w W (bs ++ (b, t, c) :: cs)) (c' : Array Value) : Bx w (W.setRow b c') (bs ++ (b, t, c') :: cs) := by
  have hb := h.at_ (b, t, c) (by simp)
  have hnd := h.nd
  rw [List.map_append, List.map_cons] at hnd
  have hne : ∀ x, x ∈ bs ∨ x ∈ cs → x.1 ≠ b := by
    rintro x (hx | hx) e
    · have := (List.nodup_append.1 hnd).2.2 x.1 (List.mem_map_of_mem hx) b (by simp)
      exact this e
    · have := (List.nodup_cons.1 (List.nodup_append.1 hnd).2.1).1
      have hm : x.1 ∈ cs.map (·.1) := List.mem_map_of_mem hx
      rw [e] at hm
      exact this hm
  refine ⟨?_, fun x hx => ?_, ?_⟩
  · exact ⟨h.bel.os, h.bel.tape, h.bel.output, by rw [setRow_size]; exact h.bel.size, fun k hk => by rw [setRow_other _ _ _ _ (by have := hb.1; simp only at this; omega)]; exact h.bel.block k hk⟩
  · simp only [List.mem_append, List.mem_cons] at hx
    rcases hx with hx | rfl | hx
    · exact ⟨(h.at_ x (by simp [hx])).1, by rw [setRow_other _ _ _ _ (hne x (.inl hx))]; exact (h.at_ x (by simp [hx])).2⟩
    · exact ⟨hb.1, setRow_heap _ _ _ _ _ _ hb.2⟩
    · exact ⟨(h.at_ x (by simp [hx])).1, by rw [setRow_other _ _ _ _ (hne x (.inr hx))]; exact (h.at_ x (by simp [hx])).2⟩
  · rw [List.map_append, List.map_cons]; exact hnd
theorem Bx.set0 {w W : World} {cs : List (Nat × TypeId × Array Value)} {b : Nat} {t : TypeId} {c : Array Value} (h : Bx w W ((b, t, c) :: cs)) (c' : Array Value) : Bx w (W.setRow b c') ((b, t, c') :: cs) := Bx.set (bs := []) h c'
theorem Bx.set1 {w W : World} {x : Nat × TypeId × Array Value} {cs : List (Nat × TypeId × Array Value)} {b : Nat} {t : TypeId} {c : Array Value} (h : Bx w W (x :: (b, t, c) :: cs)) (c' : Array Value) : Bx w (W.setRow b c') (x :: (b, t, c') :: cs) := Bx.set (bs := [x]) h c'
theorem Bx.set2 {w W : World} {x y : Nat × TypeId × Array Value} {cs : List (Nat × TypeId × Array Value)} {b : Nat} {t : TypeId} {c : Array Value} (h : Bx w W (x :: y :: (b, t, c) :: cs)) (c' : Array Value) : Bx w (W.setRow b c') (x :: y :: (b, t, c') :: cs) := Bx.set (bs := [x, y]) h c'

theorem Bx.at {w W : World} {bs : List (Nat × TypeId × Array Value)} (h : Bx w W bs) {b : Nat} {t : TypeId} {c : Array Value} (hm : (b, t, c) ∈ bs) : W.heap[b]? = some (.cells c t (0, 0)) := (h.at_ _ hm).2
theorem at_of_heap {W : World} {b : Nat} {t : TypeId} {c : Array Value} (h : W.heap[b]? = some (.cells c t (0, 0))) : At W b 0 c := fun j hj => by
  rw [Nat.zero_add]; exact cell_of_row W b j c t (0, 0) h
/-- All that a walk asks of a boxed packet in W. -/
theorem pk_at {W : World} {b : Nat} {t : TypeId} {p : Pk} (h : W.heap[b]? = some (.cells (pkA p) t (0, 0))) :
    (∀ j, j < 46 → W.cell? ⟨b, j, none⟩ = (pkA p)[j]?) ∧ loadN Tryd.prog W ⟨b, 0, none⟩ 46 = .ok (pkA p) W ∧ loadN Tryd.prog W ⟨b, 3, none⟩ 17 = .ok (adrA p.src) W ∧ loadN Tryd.prog W ⟨b, 20, none⟩ 17 = .ok (adrA p.dst) W :=
  have h := at_of_heap h
  ⟨h.cells (pkA_size p), loadN_at h (pkA_size _), loadN_at h.src (adrA_size _), loadN_at h.dst (adrA_size _)⟩

/-- One cell of a box is written. -/
theorem wpList_store_cell {ops : Array Oper} {rest : List Oper} {o : Oper} {a : Act} {W : World} {Q : Exit → Act → World → Prop} (hgd : o.guard = none) (ty : TypeId) (x y : Operand) (ho : o.op = .store ty x y) (b k : Nat) (v : Value)
    (hx : a.eval x = .pointer (some ⟨b, k, none⟩)) (hy : a.eval y = v) (t : TypeId) (c : Array Value) (hb : W.heap[b]? = some (.cells c t (0, 0))) (hi : (sizeOf ty).run Tryd.prog W = .ok 1 W) (h1 : v.oneCell' = true) (hv : v.cells = #[v]) (hk : k < c.size)
    (h : wpList Tryd.prog ops Q rest (a.put o.dst undef) (W.setRow b (c.setIfInBounds k v))) : wpList Tryd.prog ops Q (o :: rest) a W := by
  refine wpList_plain hgd fun K hK => ?_
  have hcell : W.cell? ⟨b, k, none⟩ = c[k]? := cell_of_row W b k c t (0, 0) hb
  have hcs : c[k]? = some c[k] := Array.getElem?_eq_getElem hk
  have hfz : W.frozen? ⟨b, k, none⟩ = false := frozen_of_row W b k c t hb
  have hst : (store ⟨b, k, none⟩ v).run Tryd.prog W = .ok () (W.setRow b (c.setIfInBounds k v)) := by
    rw [run_store Tryd.prog W _ v _ h1, hcell, hcs, setCell_eq_setRow W b k c t (0, 0) v hb]
    simp [hfz]
  unfold Oper.wp execOp
  simp only [ho, hx, hy, Instr.storeAt, Instr.sureAddr, storeVar, Sem.run_bind, Sem.run_pure, Result.andThen_ok, hi, hv]
  simp only [List.size_toArray, List.length_cons, List.length_nil, Nat.zero_add, ne_eq, not_true_eq_false, if_false, storeCells, Addr.add_zero', Sem.run_bind, hst, Result.andThen_ok, Sem.run_pure]
  exact hK _ _ h
end Go.Proofs.YtleokgmflelkcaaDoor
namespace Go.Proofs.YtleokgmflelkcaaDoor
open Go Go.RowKit

def zAdr : Adr := ⟨0, List.replicate 16 0, rfl, by intro x hx; rw [List.eq_of_mem_replicate hx]; decide⟩
def zPk : Pk := ⟨0, 0, 0, zAdr, zAdr, 0, 0, 0, false, false, false, 0, ⟨none, 0, 0⟩, ⟨none, 0, 0⟩⟩
def zKy : Ky := ⟨0, zAdr, zAdr, 0, 0⟩
def zBr : Br := ⟨0, 0, 0, zAdr, zAdr, 0, 0, 0, false, false⟩
@[go_sem] theorem zPk_fold : (#[.int .i64 0, .int .i64 0, .int .i64 0, .int .i64 0, .int .u8 0, .int .u8 0, .int .u8 0, .int .u8 0, .int .u8 0, .int .u8 0, .int .u8 0, .int .u8 0, .int .u8 0, .int .u8 0, .int .u8 0, .int .u8 0, .int .u8 0, .int .u8 0, .int .u8 0, .int .u8 0, .int .i64 0, .int .u8 0, .int .u8 0, .int .u8 0, .int .u8 0, .int .u8 0, .int .u8 0, .int .u8 0, .int .u8 0, .int .u8 0, .int .u8 0, .int .u8 0, .int .u8 0, .int .u8 0, .int .u8 0, .int .u8 0, .int .u8 0, .int .i64 0, .int .i64 0, .int .u32 0, .bool false, .bool false, .bool false, .int .i64 0, .slice none 0 0, .slice none 0 0] : Array Value) = pkA zPk := by unfold pkA; rfl
@[go_sem] theorem zKy_fold : (#[.int .i64 0, .int .i64 0, .int .u8 0, .int .u8 0, .int .u8 0, .int .u8 0, .int .u8 0, .int .u8 0, .int .u8 0, .int .u8 0, .int .u8 0, .int .u8 0, .int .u8 0, .int .u8 0, .int .u8 0, .int .u8 0, .int .u8 0, .int .u8 0, .int .i64 0, .int .u8 0, .int .u8 0, .int .u8 0, .int .u8 0, .int .u8 0, .int .u8 0, .int .u8 0, .int .u8 0, .int .u8 0, .int .u8 0, .int .u8 0, .int .u8 0, .int .u8 0, .int .u8 0, .int .u8 0, .int .u8 0, .int .i64 0, .int .u32 0] : Array Value) = kyA zKy := by unfold kyA; rfl
@[go_sem] theorem zBr_fold : (#[.int .i64 0, .int .i64 0, .int .i64 0, .int .i64 0, .int .u8 0, .int .u8 0, .int .u8 0, .int .u8 0, .int .u8 0, .int .u8 0, .int .u8 0, .int .u8 0, .int .u8 0, .int .u8 0, .int .u8 0, .int .u8 0, .int .u8 0, .int .u8 0, .int .u8 0, .int .u8 0, .int .i64 0, .int .u8 0, .int .u8 0, .int .u8 0, .int .u8 0, .int .u8 0, .int .u8 0, .int .u8 0, .int .u8 0, .int .u8 0, .int .u8 0, .int .u8 0, .int .u8 0, .int .u8 0, .int .u8 0, .int .u8 0, .int .u8 0, .int .i64 0, .int .i64 0, .int .u32 0, .bool false, .bool false] : Array Value) = brA zBr := by unfold brA; rfl

theorem grownBy_setRow (W : World) (b : Nat) (c : Array Value) : W.grownBy (W.setRow b c) (some b) :=
  ⟨rfl, rfl, rfl, by rw [setRow_size]; exact Nat.le_refl _, fun k _ hne => setRow_other _ _ _ _ (fun e => hne (by rw [e]))⟩
theorem Own.box {B : Nat} {W W' : World} {s : Sl} {xs : List Int} (h : Own B W s xs) {b : Nat} {t : TypeId} {c : Array Value} (hb : W.heap[b]? = some (.cells c t (0, 0))) (ht : t ≠ 5) (hg : W.grownBy W' (some b)) : Own B W' s xs := by
  refine h.kept hg ?_
  obtain ⟨⟨_, h2⟩, _⟩ := h
  rcases h2 with ⟨hv, _⟩ | ⟨g, cap, cur, hv, _, hh, _⟩
  · rw [hv]; exact .inl rfl
  · right
    rw [hv]
    simp only [Value.ownBlock, ne_eq, Option.some.injEq]
    rintro rfl
    rw [hh] at hb
    simp only [Option.some.injEq, Obj.cells.injEq] at hb
    exact ht hb.2.1.symm

theorem Bx.h0 {w W : World} {cs : List (Nat × TypeId × Array Value)} {b : Nat} {t : TypeId} {c : Array Value} (h : Bx w W ((b, t, c) :: cs)) : W.heap[b]? = some (.cells c t (0, 0)) := h.at (by simp)
theorem Bx.h1 {w W : World} {x : Nat × TypeId × Array Value} {cs : List (Nat × TypeId × Array Value)} {b : Nat} {t : TypeId} {c : Array Value} (h : Bx w W (x :: (b, t, c) :: cs)) : W.heap[b]? = some (.cells c t (0, 0)) := h.at (by simp)
theorem Bx.h2 {w W : World} {x y : Nat × TypeId × Array Value} {cs : List (Nat × TypeId × Array Value)} {b : Nat} {t : TypeId} {c : Array Value} (h : Bx w W (x :: y :: (b, t, c) :: cs)) : W.heap[b]? = some (.cells c t (0, 0)) := h.at (by simp)

section
variable {ops : Array Oper} {rest : List Oper} {o : Oper} {a : Act} {W w : World} {Q : Exit → Act → World → Prop}
theorem wpList_store_bx (hgd : o.guard = none) (ty : TypeId) (x y : Operand) (ho : o.op = .store ty x y) (b k : Nat) (v : Value) (hx : a.eval x = .pointer (some ⟨b, k, none⟩)) (hy : a.eval y = v)
    {t : TypeId} {c : Array Value} {bs cs : List (Nat × TypeId × Array Value)} (hX : Bx w W (bs ++ (b, t, c) :: cs)) (hi : (sizeOf ty).run Tryd.prog W = .ok 1 W) (h1 : v.oneCell' = true) (hv : v.cells = #[v]) (hk : k < c.size) (c' : Array Value) (hc : c.setIfInBounds k v = c')
    (h : ∀ W', Bx w W' (bs ++ (b, t, c') :: cs) → W.grownBy W' (some b) → wpList Tryd.prog ops Q rest (a.put o.dst undef) W') : wpList Tryd.prog ops Q (o :: rest) a W := by
  refine wpList_store_cell hgd ty x y ho b k v hx hy t c (hX.at (by simp)) hi h1 hv hk ?_
  rw [hc]
  exact h _ (hX.set c') (grownBy_setRow _ _ _)
theorem wpList_storeA_bx (hgd : o.guard = none) (ty : TypeId) (x y : Operand) (ho : o.op = .store ty x y) (b : Nat) (c' : Array Value) (hx : a.eval x = .pointer (some ⟨b, 0, none⟩)) (hy : a.eval y = .agg c')
    {t : TypeId} {c : Array Value} {bs cs : List (Nat × TypeId × Array Value)} (hX : Bx w W (bs ++ (b, t, c) :: cs)) (hi : (Tryd.prog.info? ty).map (·.size) = some c'.size) (hs : c.size = c'.size) (h1 : c'.all (·.oneCell') = true)
    (h : ∀ W', Bx w W' (bs ++ (b, t, c') :: cs) → W.grownBy W' (some b) → wpList Tryd.prog ops Q rest (a.put o.dst undef) W') : wpList Tryd.prog ops Q (o :: rest) a W :=
  wpList_store_row hgd ty x y ho b c' hx hy t c (hX.at (by simp)) hi hs h1 (h _ (hX.set c') (grownBy_setRow _ _ _))
/-- 'append(s0, s...)' of bytes, with a slice told behind it. -/
theorem wpList_append_sl (hgd : o.guard = none) (sx x : Operand) (ho : o.op = .call { callee := .builtin .append, args := #[sx, x], argTypes := #[26, 26] }) (B : Nat) (s0 : Sl) (xs : List Int) (hs : a.eval sx = .slice s0.a s0.n s0.c)
    (hown : Own B W s0 xs) (s : Sl) (ys : List Int) (hx : a.eval x = .slice s.a s.n s.c) (hb : Bs W s ys) (h47 : s0.n + s.n ≤ 140737488355328) (hB : B ≤ W.heap.size)
    (h : ∀ s' W', Own B W' s' (xs ++ ys) → s'.n = s0.n + s.n → Below B W W' → wpList Tryd.prog ops Q rest (a.put o.dst (.slice s'.a s'.n s'.c)) W') : wpList Tryd.prog ops Q (o :: rest) a W := by
  refine wpList_append_bs hgd sx x ho B _ s0.n xs hs hown.1 s ys hx hb h47 hB fun v' W' h1 h2 => ?_
  have hr : bytesR (xs ++ ys) := fun z hz => by
    rcases List.mem_append.1 hz with hz | hz
    · exact hown.2 z hz
    · exact hb.rng z hz
  have hbl : Below B W W' := (Below.refl _ _).grown h2 hB (ownBlock_ge hown.1)
  have h0 := h1
  rcases h1.2 with ⟨hv, hn⟩ | ⟨g, cap, cur, hv, _⟩
  · subst hv
    have hn0 : s0.n + s.n = 0 := hn
    exact h ⟨none, 0, 0⟩ W' ⟨by rw [hn] at h0; exact h0, hr⟩ hn0.symm hbl
  · subst hv
    exact h ⟨some ⟨g, 0, none⟩, s0.n + s.n, cap⟩ W' ⟨h0, hr⟩ rfl hbl
end

theorem g28 (w : World) : (isAgg 28).run Tryd.prog w = .ok true w := by kernel_rfl
theorem g59 (w : World) : (isAgg 59).run Tryd.prog w = .ok true w := by kernel_rfl
theorem g80 (w : World) : (isAgg 80).run Tryd.prog w = .ok true w := by kernel_rfl
theorem i28 : (Tryd.prog.info? 28).map (·.size) = some 46 := by kernel_rfl
theorem i59 : (Tryd.prog.info? 59).map (·.size) = some 42 := by kernel_rfl
theorem i80 : (Tryd.prog.info? 80).map (·.size) = some 37 := by kernel_rfl
theorem size26 (w : World) : (sizeOf 26).run Tryd.prog w = .ok 1 w := by kernel_rfl
theorem pkA_one (p : Pk) : (pkA p).all (·.oneCell') = true := by unfold pkA; simp [Value.oneCell']

/-- A packet that came back, its lists out of the call's own memory. -/
def RPk (p : Pk) (os ds : List Int) (w : World) (e : Ending) (w' : World) : Prop :=
  ∃ s1 s2 : Sl, e = .returned (.agg (pkA { p with o := s1, d := s2 })) ∧ Own w.heap.size w' s1 os ∧ Own w.heap.size w' s2 ds ∧ Below w.heap.size w w'

theorem results_cell {fn : Func} {q : Tmp} {ty : TypeId} (h : fn.results = #[.cell q ty]) (tmps : Array Value) (W : World) (b : Nat) (t : TypeId) (cs : Array Value)
    (hp : tmps.getD q undef = .pointer (some ⟨b, 0, none⟩)) (hb : W.heap[b]? = some (.cells cs t (0, 0))) (hagg : (isAgg ty).run Tryd.prog W = .ok true W) (hi : (Tryd.prog.info? ty).map (·.size) = some cs.size) :
    (results fn tmps).run Tryd.prog W = .ok (.agg cs) W := by
  have hl := loadN_at (P := Tryd.prog) (at_of_heap hb) rfl
  unfold loadN at hl
  cases hq : Tryd.prog.info? ty with
  | none => simp [hq] at hi
  | some i =>
    have hs : i.size = cs.size := by simpa [hq] using hi
    have hp' : tmps[q]?.getD undef = .pointer (some ⟨b, 0, none⟩) := by simpa using hp
    have hlv : (loadVar ty ⟨b, 0, none⟩).run Tryd.prog W = .ok (.agg cs) W := by
      simp [loadVar, Sem.run_bind, hagg, sizeOf, typeInfo, hq, hs, hl]
    simp [results, h, hp', asAddr, hlv]

set_option maxRecDepth 100000 in
theorem lawown_any (p : Pk) (os ds : List Int) (w : World) (hp : PkIn w p os ds) : Calls Tryd.prog 12 #[.agg (pkA p)] w (RPk p os ds w) := by
  have h3 := Lib.hid (show (⟨none, 0, 0⟩ : Sl).n + p.o.n ≤ 140737488355328 by have := hp.om; simp only; omega)
  have h4 := Lib.hid (show (⟨none, 0, 0⟩ : Sl).n + p.d.n ≤ 140737488355328 by have := hp.dm; simp only; omega)
  go_enter Tryd.func12, Tryd.ntmps12
  go_wp2_with (first | (at_builtin; refine wpList_append_sl rfl (.const _) (.tmp 4) rfl _ ⟨none, 0, 0⟩ [] rfl (own_nil _ _) p.o os rfl (hp.o.below (((Below.refl _ _).alloc (Nat.le_refl _) _).alloc (by simp) _)) h3.out (Nat.le_refl _) ?_; intro s1 W1 hs1 hn1 hb1; have hX := (((Bx.start w).alloc (pkA p) 28).alloc (pkA zPk) 28).call hb1; simp only [World.size_alloc, List.nil_append] at hX hs1; clear hb1 hn1) | (refine wpList_store_bx rfl 26 (.tmp 6) (.tmp 5) rfl _ 44 _ rfl rfl (bs := [_]) hX (size26 _) rfl rfl (by rw [pkA_size]; decide) _ (pkA_set_o _ _ _ _) ?_; intro W2 hX2 hg2; have hs1 := hs1.box hX.h1 (by decide) hg2; obtain ⟨hr, hl, _, _⟩ := pk_at hX2.h1; clear hX hg2) | (at_builtin; refine wpList_append_sl rfl (.const _) (.tmp 8) rfl _ ⟨none, 0, 0⟩ [] rfl (own_nil _ _) p.d ds rfl (hp.d.below hX2.bel) h4.out (Nat.le_refl _) ?_; intro s2 W3 hs2 hn2 hb2; have hX3 := hX2.call hb2; have hs1 := hs1.below hb2; simp only [List.nil_append] at hs2; clear hb2 hn2) | (refine wpList_store_bx rfl 26 (.tmp 10) (.tmp 9) rfl _ 45 _ rfl rfl (bs := [_]) hX3 (size26 _) rfl rfl (by rw [pkA_size]; decide) _ (pkA_set_d _ _ _ _) ?_; intro W4 hX4 hg4; have hs1 := hs1.box hX3.h1 (by decide) hg4; have hs2 := hs2.box hX3.h1 (by decide) hg4; obtain ⟨hr, hl, _, _⟩ := pk_at hX4.h1; clear hg4) | (refine wpList_storeA_bx rfl 28 (.tmp 2) (.tmp 11) rfl _ _ rfl rfl (bs := []) hX4 (by rw [pkA_size]; exact i28) (by rw [pkA_size, pkA_size]) (pkA_one _) ?_; intro W5 hX5 hg5; have hs1 := hs1.box hX4.h0 (by decide) hg5; have hs2 := hs2.box hX4.h0 (by decide) hg5))
  exact bodyPost_ret (results_cell rfl _ _ _ _ _ rfl hX5.h0 (g28 _) (by rw [pkA_size]; exact i28)) rfl ⟨s1, s2, rfl, hs1.mono (by omega), hs2.mono hX2.bel.size, hX5.bel⟩
end Go.Proofs.YtleokgmflelkcaaDoor
