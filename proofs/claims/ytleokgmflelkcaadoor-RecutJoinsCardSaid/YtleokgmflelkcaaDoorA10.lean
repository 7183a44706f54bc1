/- Packets in new memory: own, piece; one packet told from another. -/
import Derived.Test.YtleokgmflelkcaaDoorA7
import Derived.Test.YtleokgmflelkcaaDoorA8
import Derived.Test.YtleokgmflelkcaaDoorA9
set_option linter.unusedSimpArgs false
set_option linter.unusedVariables false
namespace Go.Proofs.YtleokgmflelkcaaDoor
open Go Go.RowKit

def zAdr : Adr := ⟨0, List.replicate 16 0, rfl, by intro x hx; rw [List.eq_of_mem_replicate hx]; decide⟩
def zPk : Pk := ⟨0, 0, 0, zAdr, zAdr, 0, 0, 0, false, false, false, 0, ⟨none, 0, 0⟩, ⟨none, 0, 0⟩⟩
def zKy : Ky := ⟨0, zAdr, zAdr, 0, 0⟩
def zBr : Br := ⟨0, 0, 0, zAdr, zAdr, 0, 0, 0, false, false⟩
@[go_sem] theorem zPk_fold : (#[.int .i64 0, .int .i64 0, .int .i64 0, .int .i64 0, .int .u8 0, .int .u8 0, .int .u8 0, .int .u8 0, .int .u8 0, .int .u8 0, .int .u8 0, .int .u8 0, .int .u8 0, .int .u8 0, .int .u8 0, .int .u8 0, .int .u8 0, .int .u8 0, .int .u8 0, .int .u8 0, .int .i64 0, .int .u8 0, .int .u8 0, .int .u8 0, .int .u8 0, .int .u8 0, .int .u8 0, .int .u8 0, .int .u8 0, .int .u8 0, .int .u8 0, .int .u8 0, .int .u8 0, .int .u8 0, .int .u8 0, .int .u8 0, .int .u8 0, .int .i64 0, .int .i64 0, .int .u32 0, .bool false, .bool false, .bool false, .int .i64 0, .slice none 0 0, .slice none 0 0] : Array Value) = pkA zPk := by unfold pkA; rfl
@[go_sem] theorem zKy_fold : (#[.int .i64 0, .int .i64 0, .int .u8 0, .int .u8 0, .int .u8 0, .int .u8 0, .int .u8 0, .int .u8 0, .int .u8 0, .int .u8 0, .int .u8 0, .int .u8 0, .int .u8 0, .int .u8 0, .int .u8 0, .int .u8 0, .int .u8 0, .int .u8 0, .int .i64 0, .int .u8 0, .int .u8 0, .int .u8 0, .int .u8 0, .int .u8 0, .int .u8 0, .int .u8 0, .int .u8 0, .int .u8 0, .int .u8 0, .int .u8 0, .int .u8 0, .int .u8 0, .int .u8 0, .int .u8 0, .int .u8 0, .int .i64 0, .int .u32 0] : Array Value) = kyA zKy := by unfold kyA; rfl
@[go_sem] theorem zBr_fold : (#[.int .i64 0, .int .i64 0, .int .i64 0, .int .i64 0, .int .u8 0, .int .u8 0, .int .u8 0, .int .u8 0, .int .u8 0, .int .u8 0, .int .u8 0, .int .u8 0, .int .u8 0, .int .u8 0, .int .u8 0, .int .u8 0, .int .u8 0, .int .u8 0, .int .u8 0, .int .u8 0, .int .i64 0, .int .u8 0, .int .u8 0, .int .u8 0, .int .u8 0, .int .u8 0, .int .u8 0, .int .u8 0, .int .u8 0, .int .u8 0, .int .u8 0, .int .u8 0, .int .u8 0, .int .u8 0, .int .u8 0, .int .u8 0, .int .u8 0, .int .i64 0, .int .i64 0, .int .u32 0, .bool false, .bool false] : Array Value) = brA zBr := by unfold brA; rfl

theorem grownBy_setRow (W : World) (b : Nat) (c : Array Value) : W.grownBy (W.setRow b c) (some b) :=
  ⟨rfl, rfl, rfl, by rw [setRow_size]; exact Nat.le_refl _, fun k _ hne => setRow_other _ _ _ _ (fun e => hne (by rw [e]))⟩
theorem Own.box {B : Nat} {W W' : World} {s : Sl} {xs : List Int} (h : Own B W s xs) {b : Nat} {t : TypeId} {c : Array Value} (hb : W.heap[b]? = some (.cells c t (0, 0))) (ht : t ≠ 5) (hg : W.grownBy W' (some b)) : Own B W' s xs := by
  refine h.kept hg ?_
  obtain ⟨⟨_, h2⟩, _⟩ := h
  rcases h2 with ⟨hv, _⟩ | ⟨g, cap, cur, hv, _, hh, _⟩
  · rw [hv]; exact .inl rfl
  · right
    rw [hv]
    simp only [Value.ownBlock, ne_eq, Option.some.injEq]
    rintro rfl
    rw [hh] at hb
    simp only [Option.some.injEq, Obj.cells.injEq] at hb
    exact ht hb.2.1.symm

theorem Bx.h0 {w W : World} {cs : List (Nat × TypeId × Array Value)} {b : Nat} {t : TypeId} {c : Array Value} (h : Bx w W ((b, t, c) :: cs)) : W.heap[b]? = some (.cells c t (0, 0)) := h.at (by simp)
theorem Bx.h1 {w W : World} {x : Nat × TypeId × Array Value} {cs : List (Nat × TypeId × Array Value)} {b : Nat} {t : TypeId} {c : Array Value} (h : Bx w W (x :: (b, t, c) :: cs)) : W.heap[b]? = some (.cells c t (0, 0)) := h.at (by simp)
theorem Bx.h2 {w W : World} {x y : Nat × TypeId × Array Value} {cs : List (Nat × TypeId × Array Value)} {b : Nat} {t : TypeId} {c : Array Value} (h : Bx w W (x :: y :: (b, t, c) :: cs)) : W.heap[b]? = some (.cells c t (0, 0)) := h.at (by simp)

section
variable {ops : Array Oper} {rest : List Oper} {o : Oper} {a : Act} {W w : World} {Q : Exit → Act → World → Prop}
theorem wpList_store_bx (hgd : o.guard = none) (ty : TypeId) (x y : Operand) (ho : o.op = .store ty x y) (b k : Nat) (v : Value) (hx : a.eval x = .pointer (some ⟨b, k, none⟩)) (hy : a.eval y = v)
    {t : TypeId} {c : Array Value} {bs cs : List (Nat × TypeId × Array Value)} (hX : Bx w W (bs ++ (b, t, c) :: cs)) (hi : (sizeOf ty).run Tryd.prog W = .ok 1 W) (h1 : v.oneCell' = true) (hv : v.cells = #[v]) (hk : k < c.size) (c' : Array Value) (hc : c.setIfInBounds k v = c')
    (h : ∀ W', Bx w W' (bs ++ (b, t, c') :: cs) → W.grownBy W' (some b) → wpList Tryd.prog ops Q rest (a.put o.dst undef) W') : wpList Tryd.prog ops Q (o :: rest) a W := by
  refine wpList_store_cell hgd ty x y ho b k v hx hy t c (hX.at (by simp)) hi h1 hv hk ?_
  rw [hc]
  exact h _ (hX.set c') (grownBy_setRow _ _ _)
theorem wpList_storeA_bx (hgd : o.guard = none) (ty : TypeId) (x y : Operand) (ho : o.op = .store ty x y) (b : Nat) (c' : Array Value) (hx : a.eval x = .pointer (some ⟨b, 0, none⟩)) (hy : a.eval y = .agg c')
    {t : TypeId} {c : Array Value} {bs cs : List (Nat × TypeId × Array Value)} (hX : Bx w W (bs ++ (b, t, c) :: cs)) (hi : (Tryd.prog.info? ty).map (·.size) = some c'.size) (hs : c.size = c'.size) (h1 : c'.all (·.oneCell') = true)
    (h : ∀ W', Bx w W' (bs ++ (b, t, c') :: cs) → W.grownBy W' (some b) → wpList Tryd.prog ops Q rest (a.put o.dst undef) W') : wpList Tryd.prog ops Q (o :: rest) a W :=
  wpList_store_row hgd ty x y ho b c' hx hy t c (hX.at (by simp)) hi hs h1 (h _ (hX.set c') (grownBy_setRow _ _ _))
/-- 'append(s0, s...)' of bytes, with a slice told behind it. -/
theorem wpList_append_sl (hgd : o.guard = none) (sx x : Operand) (ho : o.op = .call { callee := .builtin .append, args := #[sx, x], argTypes := #[26, 26] }) (B : Nat) (s0 : Sl) (xs : List Int) (hs : a.eval sx = .slice s0.a s0.n s0.c)
    (hown : Own B W s0 xs) (s : Sl) (ys : List Int) (hx : a.eval x = .slice s.a s.n s.c) (hb : Bs W s ys) (h47 : s0.n + s.n ≤ 140737488355328) (hB : B ≤ W.heap.size)
    (h : ∀ s' W', Own B W' s' (xs ++ ys) → s'.n = s0.n + s.n → Below B W W' → wpList Tryd.prog ops Q rest (a.put o.dst (.slice s'.a s'.n s'.c)) W') : wpList Tryd.prog ops Q (o :: rest) a W := by
  refine wpList_append_bs hgd sx x ho B _ s0.n xs hs hown.1 s ys hx hb h47 hB fun v' W' h1 h2 => ?_
  have hr : bytesR (xs ++ ys) := fun z hz => by
    rcases List.mem_append.1 hz with hz | hz
    · exact hown.2 z hz
    · exact hb.rng z hz
  have hbl : Below B W W' := (Below.refl _ _).grown h2 hB (ownBlock_ge hown.1)
  have h0 := h1
  rcases h1.2 with ⟨hv, hn⟩ | ⟨g, cap, cur, hv, _⟩
  · subst hv
    have hn0 : s0.n + s.n = 0 := hn
    exact h ⟨none, 0, 0⟩ W' ⟨by rw [hn] at h0; exact h0, hr⟩ hn0.symm hbl
  · subst hv
    exact h ⟨some ⟨g, 0, none⟩, s0.n + s.n, cap⟩ W' ⟨h0, hr⟩ rfl hbl
end

theorem g28 (w : World) : (isAgg 28).run Tryd.prog w = .ok true w := by kernel_rfl
theorem g59 (w : World) : (isAgg 59).run Tryd.prog w = .ok true w := by kernel_rfl
theorem g80 (w : World) : (isAgg 80).run Tryd.prog w = .ok true w := by kernel_rfl
theorem i28 : (Tryd.prog.info? 28).map (·.size) = some 46 := by kernel_rfl
theorem i59 : (Tryd.prog.info? 59).map (·.size) = some 42 := by kernel_rfl
theorem i80 : (Tryd.prog.info? 80).map (·.size) = some 37 := by kernel_rfl
theorem size26 (w : World) : (sizeOf 26).run Tryd.prog w = .ok 1 w := by kernel_rfl
theorem pkA_one (p : Pk) : (pkA p).all (·.oneCell') = true := by unfold pkA; simp [Value.oneCell']

/-- A packet that came back, its lists out of the call's own memory. -/
def RPk (p : Pk) (os ds : List Int) (w : World) (e : Ending) (w' : World) : Prop :=
  ∃ s1 s2 : Sl, e = .returned (.agg (pkA { p with o := s1, d := s2 })) ∧ Own w.heap.size w' s1 os ∧ Own w.heap.size w' s2 ds ∧ Below w.heap.size w w'

theorem results_cell {fn : Func} {q : Tmp} {ty : TypeId} (h : fn.results = #[.cell q ty]) (tmps : Array Value) (W : World) (b : Nat) (t : TypeId) (cs : Array Value)
    (hp : tmps.getD q undef = .pointer (some ⟨b, 0, none⟩)) (hb : W.heap[b]? = some (.cells cs t (0, 0))) (hagg : (isAgg ty).run Tryd.prog W = .ok true W) (hi : (Tryd.prog.info? ty).map (·.size) = some cs.size) :
    (results fn tmps).run Tryd.prog W = .ok (.agg cs) W := by
  have hl := loadN_at (P := Tryd.prog) (at_of_heap hb) rfl
  unfold loadN at hl
  cases hq : Tryd.prog.info? ty with
  | none => simp [hq] at hi
  | some i =>
    have hs : i.size = cs.size := by simpa [hq] using hi
    have hp' : tmps[q]?.getD undef = .pointer (some ⟨b, 0, none⟩) := by simpa using hp
    have hlv : (loadVar ty ⟨b, 0, none⟩).run Tryd.prog W = .ok (.agg cs) W := by
      simp [loadVar, Sem.run_bind, hagg, sizeOf, typeInfo, hq, hs, hl]
    simp [results, h, hp', asAddr, hlv]

set_option maxRecDepth 100000 in
theorem lawown_any (p : Pk) (os ds : List Int) (w : World) (hp : PkIn w p os ds) : Calls Tryd.prog 12 #[.agg (pkA p)] w (RPk p os ds w) := by
  have h3 := Lib.hid (show (⟨none, 0, 0⟩ : Sl).n + p.o.n ≤ 140737488355328 by have := hp.om; simp only; omega)
  have h4 := Lib.hid (show (⟨none, 0, 0⟩ : Sl).n + p.d.n ≤ 140737488355328 by have := hp.dm; simp only; omega)
  go_enter Tryd.func12, Tryd.ntmps12
  go_wp2_with (first | (at_builtin; refine wpList_append_sl rfl (.const _) (.tmp 4) rfl _ ⟨none, 0, 0⟩ [] rfl (own_nil _ _) p.o os rfl (hp.o.below (((Below.refl _ _).alloc (Nat.le_refl _) _).alloc (by simp) _)) h3.out (Nat.le_refl _) ?_; intro s1 W1 hs1 hn1 hb1; have hX := (((Bx.start w).alloc (pkA p) 28).alloc (pkA zPk) 28).call hb1; simp only [World.size_alloc, List.nil_append] at hX hs1; clear hb1 hn1) | (refine wpList_store_bx rfl 26 (.tmp 6) (.tmp 5) rfl _ 44 _ rfl rfl (bs := [_]) hX (size26 _) rfl rfl (by rw [pkA_size]; decide) _ (pkA_set_o _ _ _ _) ?_; intro W2 hX2 hg2; have hs1 := hs1.box hX.h1 (by decide) hg2; obtain ⟨hr, hl, _, _⟩ := pk_at hX2.h1; clear hX hg2) | (at_builtin; refine wpList_append_sl rfl (.const _) (.tmp 8) rfl _ ⟨none, 0, 0⟩ [] rfl (own_nil _ _) p.d ds rfl (hp.d.below hX2.bel) h4.out (Nat.le_refl _) ?_; intro s2 W3 hs2 hn2 hb2; have hX3 := hX2.call hb2; have hs1 := hs1.below hb2; simp only [List.nil_append] at hs2; clear hb2 hn2) | (refine wpList_store_bx rfl 26 (.tmp 10) (.tmp 9) rfl _ 45 _ rfl rfl (bs := [_]) hX3 (size26 _) rfl rfl (by rw [pkA_size]; decide) _ (pkA_set_d _ _ _ _) ?_; intro W4 hX4 hg4; have hs1 := hs1.box hX3.h1 (by decide) hg4; have hs2 := hs2.box hX3.h1 (by decide) hg4; obtain ⟨hr, hl, _, _⟩ := pk_at hX4.h1; clear hg4) | (refine wpList_storeA_bx rfl 28 (.tmp 2) (.tmp 11) rfl _ _ rfl rfl (bs := []) hX4 (by rw [pkA_size]; exact i28) (by rw [pkA_size, pkA_size]) (pkA_one _) ?_; intro W5 hX5 hg5; have hs1 := hs1.box hX4.h0 (by decide) hg5; have hs2 := hs2.box hX4.h0 (by decide) hg5))
  exact bodyPost_ret (results_cell rfl _ _ _ _ _ rfl hX5.h0 (g28 _) (by rw [pkA_size]; exact i28)) rfl ⟨s1, s2, rfl, hs1.mono (by omega), hs2.mono hX2.bel.size, hX5.bel⟩
end Go.Proofs.YtleokgmflelkcaaDoor
