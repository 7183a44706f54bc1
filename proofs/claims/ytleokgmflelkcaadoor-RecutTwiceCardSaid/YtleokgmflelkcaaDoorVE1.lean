/- The options that later fragments carry: plain, and the laws that the walk needs. slices.IndexFunc and slices.DeleteFunc of options. -/
import Derived.Test.YtleokgmflelkcaaDoorVA15
set_option linter.unusedSimpArgs false
set_option linter.unusedVariables false
namespace Go.Proofs.YtleokgmflelkcaaDoor
open Go Go.RowKit

def keepO (l : List OptL) : List OptL := l.filter fun o => decide (128 ≤ o.1)
def layO (l : List OptL) : List Int := l.flatMap fun o => o.1 :: ((2 + o.2.length : Nat) : Int) :: o.2
def padO (b : List Int) : List Int := b ++ List.replicate ((4 - b.length % 4) % 4) 0
/-- What Carry answers. -/
def carryF (os : List Int) : List Int := if validO os then padO (layO (keepO ((parseO os).getD []))) else []

/-- How many bytes options have. -/
def sizeO (l : List OptL) : Nat := (l.map fun o => if o.1 = 1 then 1 else 2 + o.2.length).sum
theorem sizeO_cons (o : OptL) (l : List OptL) : sizeO (o :: l) = (if o.1 = 1 then 1 else 2 + o.2.length) + sizeO l := by simp [sizeO]
/-- What parsed options are. -/
theorem parse_facts : ∀ (n : Nat) (xs : List Int), xs.length ≤ n → bytesR xs → ∀ l, parseO xs = some l → (∀ o ∈ l, 1 ≤ o.1 ∧ o.1 ≤ 255 ∧ bytesR o.2 ∧ o.2.length + 2 ≤ 255) ∧ sizeO l ≤ xs.length
  | n, [], _, _, l, h => by
    rw [parse_nil] at h
    cases h
    exact ⟨(fun o h => by cases h), by decide⟩
  | 0, k :: r, hn, _, l, h => by simp at hn
  | n + 1, k :: r, hn, hr, l, h => by
    have hk := hr k (by simp)
    have hr' : bytesR r := fun x hx => hr x (by simp [hx])
    simp only [List.length_cons] at hn
    rw [parse_cons] at h
    by_cases h0 : k = 0
    · rw [if_pos h0] at h
      split at h
      · cases h
        exact ⟨(fun o h => by cases h), by simp [sizeO]⟩
      · cases h
    · rw [if_neg h0] at h
      by_cases h1 : k = 1
      · rw [if_pos h1] at h
        obtain ⟨l', hl, rfl⟩ := Option.map_eq_some_iff.1 h
        obtain ⟨a, b⟩ := parse_facts n r (by omega) hr' l' hl
        refine ⟨fun o ho => ?_, by rw [sizeO_cons, if_pos rfl]; simp; omega⟩
        rcases List.mem_cons.1 ho with rfl | ho
        · exact ⟨by decide, by decide, (fun x h => by cases h), by simp⟩
        · exact a o ho
      · rw [if_neg h1] at h
        cases r with
        | nil => cases h
        | cons m d =>
          simp only at h
          split at h
          · cases h
          rename_i hm
          obtain ⟨l', hl, rfl⟩ := Option.map_eq_some_iff.1 h
          have hmr := hr m (by simp)
          have hd : bytesR d := fun x hx => hr x (by simp [hx])
          simp only [List.length_cons] at hn
          obtain ⟨a, b⟩ := parse_facts n (d.drop (m.toNat - 2)) (by simp; omega) (fun x hx => hd x (List.mem_of_mem_drop hx)) l' hl
          have hlen : (d.take (m.toNat - 2)).length = m.toNat - 2 := by simp; omega
          refine ⟨fun o ho => ?_, ?_⟩
          · rcases List.mem_cons.1 ho with rfl | ho
            · exact ⟨by simp only; omega, by simp only; omega, fun x hx => hd x (List.mem_of_mem_take hx), by simp only; omega⟩
            · exact a o ho
          · rw [sizeO_cons, if_neg h1]
            simp only [hlen, List.length_cons]
            simp only [List.length_drop] at b
            omega

theorem layO_cons (o : OptL) (l : List OptL) : layO (o :: l) = o.1 :: ((2 + o.2.length : Nat) : Int) :: (o.2 ++ layO l) := by simp [layO]
theorem layO_snoc (l : List OptL) (o : OptL) : layO (l ++ [o]) = layO l ++ (o.1 :: ((2 + o.2.length : Nat) : Int) :: o.2) := by simp [layO]
theorem keep_size : ∀ (l : List OptL), (layO (keepO l)).length ≤ sizeO l
  | [] => by decide
  | o :: l => by
    have ih := keep_size l
    rw [sizeO_cons]
    unfold keepO at ih ⊢
    rw [List.filter_cons]
    split
    · rename_i h
      have h : 128 ≤ o.1 := by simpa using h
      rw [layO_cons, if_neg (by omega)]
      simp only [List.length_cons, List.length_append]
      omega
    · omega
theorem zeros_rep (n : Nat) : zeros (List.replicate n 0) = true := by
  unfold zeros
  rw [List.all_eq_true]
  intro x hx
  rw [List.eq_of_mem_replicate hx]; rfl
theorem parse_zeros (n : Nat) : parseO (List.replicate n 0) = some [] := by
  cases n with
  | zero => exact parse_nil
  | succ n =>
    rw [List.replicate_succ, parse_cons, if_pos rfl, ← List.replicate_succ, if_pos (zeros_rep _)]
/-- What is laid is parsed again. -/
theorem parse_lay (n : Nat) : ∀ (l : List OptL), (∀ o ∈ l, 128 ≤ o.1) → parseO (layO l ++ List.replicate n 0) = some l
  | [], _ => by simpa [layO] using parse_zeros n
  | o :: l, h => by
    have h0 := h o (by simp)
    have ih := parse_lay n l (fun x hx => h x (by simp [hx]))
    rw [layO_cons, List.cons_append, List.cons_append, parse_cons, if_neg (by omega), if_neg (by omega)]
    simp only
    rw [if_neg (by simp only [List.length_append]; omega)]
    have e : ((2 + o.2.length : Nat) : Int).toNat - 2 = o.2.length := by omega
    rw [e, List.append_assoc, List.drop_left, List.take_left, ih]
    rfl
theorem pad_len (b : List Int) : (padO b).length % 4 = 0 ∧ b.length ≤ (padO b).length ∧ ∀ m, b.length ≤ m → m % 4 = 0 → (padO b).length ≤ m := by
  unfold padO
  rw [List.length_append, List.length_replicate]
  refine ⟨by omega, by omega, fun m h1 h2 => by omega⟩

theorem valid_parts {xs : List Int} (h : validO xs = true) : xs.length ≤ 40 ∧ xs.length % 4 = 0 ∧ ∃ l, parseO xs = some l := by
  simp only [validO, Bool.and_eq_true, decide_eq_true_eq] at h
  exact ⟨h.1.1, h.1.2, Option.isSome_iff_exists.1 h.2⟩
theorem mem_keep {l : List OptL} {o : OptL} (h : o ∈ keepO l) : o ∈ l ∧ 128 ≤ o.1 := by
  unfold keepO at h
  simpa using h
/-- What is carried is no longer, and may stand as options. -/
theorem carry_facts {xs : List Int} (hr : bytesR xs) : (carryF xs).length ≤ xs.length ∧ validO (carryF xs) = true := by
  unfold carryF
  cases hv : validO xs
  · exact ⟨by simp, by simp [validO, parse_nil]⟩
  · simp only [if_true]
    obtain ⟨h1, h2, l, hl⟩ := valid_parts hv
    rw [hl, Option.getD_some]
    have hk := keep_size l
    have hf := parse_facts xs.length xs (Nat.le_refl _) hr l hl
    obtain ⟨p1, p2, p3⟩ := pad_len (layO (keepO l))
    have hle := p3 xs.length (by omega) h2
    refine ⟨hle, ?_⟩
    simp only [validO, Bool.and_eq_true, decide_eq_true_eq]
    refine ⟨⟨by omega, p1⟩, ?_⟩
    unfold padO
    rw [parse_lay _ _ (fun o ho => (mem_keep ho).2)]
    rfl

set_option maxRecDepth 100000 in
theorem and128 : ∀ k : Fin 256, (bits BinOp.and IntKind.i64 (k.1 : Int) 128 == 0) = decide ((k.1 : Int) < 128) := by decide
theorem and128' {k : Int} (h0 : 0 ≤ k) (h1 : k ≤ 255) : (bits BinOp.and IntKind.i64 k 128 == 0) = decide (k < 128) := by
  have := and128 ⟨k.toNat, by omega⟩
  have e : ((k.toNat : Nat) : Int) = k := by omega
  simpa [e] using this
theorem pred57 (k : Int) (a : Option Addr) (n c : Nat) (w : World) (h0 : 0 ≤ k) (h1 : k ≤ 255) : Calls Tryd.prog 57 #[.agg #[.int .i64 k, .slice a n c]] w (RB (.bool (decide (k < 128))) w) := by
  have he := Lib.hid (and128' h0 h1)
  go_enter Tryd.func57, Tryd.ntmps57
  go_wp2
  go_ret
  exact RB.mk' (by rw [← he.out]; rfl) ((Below.refl _ _).alloc (Nat.le_refl _) _)

theorem size75 (w : World) : (sizeOf 75).run Tryd.prog w = .ok 2 w := by kernel_rfl
theorem i75 : (Tryd.prog.info? 75).map (·.size) = some 2 := by kernel_rfl
/-- Two cells in the midst of a row are written. -/
theorem wpList_store_two {ops : Array Oper} {rest : List Oper} {o : Oper} {a : Act} {W : World} {Q : Exit → Act → World → Prop} (hgd : o.guard = none) (x y : Operand) (ho : o.op = .store 75 x y) (b k : Nat) (v0 v1 : Value)
    (hx : a.eval x = .pointer (some ⟨b, k, none⟩)) (hy : a.eval y = .agg #[v0, v1]) (t : TypeId) (c : Array Value) (hb : W.heap[b]? = some (.cells c t (0, 0))) (h0 : v0.oneCell' = true) (h1 : v1.oneCell' = true) (hk : k + 1 < c.size)
    (h : ∀ W', W'.heap[b]? = some (.cells ((c.setIfInBounds k v0).setIfInBounds (k + 1) v1) t (0, 0)) → W.grownBy W' (some b) → wpList Tryd.prog ops Q rest (a.put o.dst undef) W') : wpList Tryd.prog ops Q (o :: rest) a W := by
  refine wpList_plain hgd fun K hK => ?_
  have hst : ∀ (W : World) (c : Array Value) (m : Nat) (v : Value), W.heap[b]? = some (.cells c t (0, 0)) → v.oneCell' = true → m < c.size → (store ⟨b, m, none⟩ v).run Tryd.prog W = .ok () (W.setRow b (c.setIfInBounds m v)) := by
    intro W c m v hb h1 hm
    have hcell : W.cell? ⟨b, m, none⟩ = c[m]? := cell_of_row W b m c t (0, 0) hb
    have hcs : c[m]? = some c[m] := Array.getElem?_eq_getElem hm
    have hfz : W.frozen? ⟨b, m, none⟩ = false := frozen_of_row W b m c t hb
    rw [run_store Tryd.prog W _ v _ h1, hcell, hcs, setCell_eq_setRow W b m c t (0, 0) v hb]
    simp [hfz]
  have hb2 := setRow_heap _ _ _ (c.setIfInBounds k v0) _ _ hb
  have s0 := hst W c k v0 hb h0 (by omega)
  have s1 := hst (W.setRow b (c.setIfInBounds k v0)) (c.setIfInBounds k v0) (k + 1) v1 hb2 h1 (by simpa using hk)
  have hadd : (⟨b, k, none⟩ : Addr).add 1 = ⟨b, k + 1, none⟩ := by unfold Addr.add; rfl
  have hb3 := setRow_heap _ _ _ ((c.setIfInBounds k v0).setIfInBounds (k + 1) v1) _ _ hb2
  unfold Oper.wp execOp
  simp only [ho, hx, hy, Instr.storeAt, Instr.sureAddr, storeVar, Sem.run_bind, Sem.run_pure, Result.andThen_ok, size75, Value.cells]
  simp only [List.size_toArray, List.length_cons, List.length_nil, Nat.zero_add, ne_eq, not_true_eq_false, if_false, storeCells, Addr.add_zero', hadd, Sem.run_bind, s0, s1, Result.andThen_ok, Sem.run_pure]
  exact hK _ _ (h _ hb3 ((grownBy_setRow W b _).trans (grownBy_setRow _ b _)))

theorem setCells_row {b : Nat} {ty : TypeId} : ∀ (vs : List Value) (o : Nat) (W : World) (cur : Array Value), W.heap[b]? = some (.cells cur ty (0, 0)) → o + vs.length ≤ cur.size →
    ∃ cur', (W.setCells b o vs).heap[b]? = some (.cells cur' ty (0, 0)) ∧ cur'.size = cur.size ∧ (∀ j, j < o → cur'[j]? = cur[j]?) ∧ W.grownBy (W.setCells b o vs) (some b)
  | [], o, W, cur, hb, ho => ⟨cur, hb, rfl, fun j hj => rfl, World.grownBy.refl _ _⟩
  | v :: vs, o, W, cur, hb, ho => by
    simp only [List.length_cons] at ho
    have e : W.setCell ⟨b, o, none⟩ v = W.setRow b (cur.setIfInBounds o v) := setCell_eq_setRow W b o cur ty (0, 0) v hb
    have hb2 := setRow_heap _ _ _ (cur.setIfInBounds o v) _ _ hb
    obtain ⟨cur', h1, h2, h3, h4⟩ := setCells_row vs (o + 1) (W.setRow b (cur.setIfInBounds o v)) (cur.setIfInBounds o v) hb2 (by simp; omega)
    refine ⟨cur', ?_, by simpa using h2, fun j hj => ?_, ?_⟩
    · rw [World.setCells, e]; exact h1
    · rw [h3 j (by omega), Array.getElem?_setIfInBounds_ne (by omega)]
    · rw [World.setCells, e]; exact (grownBy_setRow W b _).trans h4
theorem zero75 (w : World) : ∃ z0 z1 : Value, (zeroValue 75).run Tryd.prog w = .ok (.agg #[z0, z1]) w ∧ z0.oneCell' = true ∧ z1.oneCell' = true := ⟨.int .i64 0, .slice none 0 0, by kernel_rfl, rfl, rfl⟩
/-- 'clear' of the end of a row of options. -/
theorem run_clear75 (W : World) (ty : TypeId) (b o n c : Nat) (cur : Array Value) (hb : W.heap[b]? = some (.cells cur 75 (0, 0))) (hc : o + n * 2 ≤ cur.size) :
    ∃ W' cur', (Builtin.clear_ #[70] ty #[.slice (some ⟨b, o, none⟩) n c]).run Tryd.prog W = .ok (.tuple #[]) W' ∧ W'.heap[b]? = some (.cells cur' 75 (0, 0)) ∧ cur'.size = cur.size ∧ (∀ j, j < o → cur'[j]? = cur[j]?) ∧ W.grownBy W' (some b) := by
  cases n with
  | zero =>
    refine ⟨W, cur, ?_, hb, rfl, fun _ _ => rfl, World.grownBy.refl _ _⟩
    simp [Builtin.clear_, run_underlying Tryd.underlying70]
  | succ n =>
    obtain ⟨z0, z1, hz, h0, h1⟩ := zero75 W
    have hlen : (Builtin.zeroCells #[z0, z1] (n + 1)).toList.length = (n + 1) * 2 := by simp [Builtin.zeroCells]
    have hst := run_storeCells_cells (P := Tryd.prog) b o (Builtin.zeroCells #[z0, z1] (n + 1)).toList 0 W (by
      intro j hj
      rw [hlen] at hj
      rw [cell_of_row W b _ cur 75 (0, 0) hb, Array.getElem?_eq_getElem (by omega)]; rfl) (by
      intro j hj
      exact frozen_of_row W b _ cur 75 hb) (by
      intro v hv
      simp only [Builtin.zeroCells, Array.toList_map, List.mem_map] at hv
      obtain ⟨i, _, rfl⟩ := hv
      have : i % 2 = 0 ∨ i % 2 = 1 := by omega
      rcases this with h | h <;> simp [h, h0, h1])
    simp only [Nat.add_zero] at hst
    obtain ⟨cur', e1, e2, e3, e4⟩ := setCells_row (Builtin.zeroCells #[z0, z1] (n + 1)).toList o W cur hb (by rw [hlen]; exact hc)
    refine ⟨_, cur', ?_, e1, e2, e3, e4⟩
    simp [Builtin.clear_, run_underlying Tryd.underlying70, hz, Value.cells, hst]
end Go.Proofs.YtleokgmflelkcaaDoor
namespace Go.Proofs.YtleokgmflelkcaaDoor
open Go Go.RowKit

theorem dropL {α : Type} {l : List α} {k : Nat} {x : α} (h : l[k]? = some x) : l.drop k = x :: l.drop (k + 1) := by
  have hk := (List.getElem?_eq_some_iff.1 h).1
  rw [List.drop_eq_getElem_cons hk]
  congr 1
  rw [List.getElem?_eq_getElem hk] at h
  exact Option.some.inj h
theorem takeL {α : Type} {l : List α} {k : Nat} {x : α} (h : l[k]? = some x) : l.take (k + 1) = l.take k ++ [x] := by
  rw [List.take_add_one, h]; rfl

theorem load2 {W : World} {g m : Nat} {v0 v1 : Value} (h1 : W.cell? ⟨g, m, none⟩ = some v0) (h2 : W.cell? ⟨g, m + 1, none⟩ = some v1) : loadN Tryd.prog W ⟨g, m, none⟩ 2 = .ok #[v0, v1] W := by
  refine loadN_at (cs := #[v0, v1]) (fun j hj => ?_) rfl
  have : j = 0 ∨ j = 1 := by simp at hj; omega
  rcases this with rfl | rfl
  · exact h1
  · exact h2
/-- The place of the first option that is not carried; -1: all are. -/
def idxC : Nat → List OptL → Int
  | _, [] => -1
  | i, o :: l => if o.1 < 128 then i else idxC (i + 1) l
theorem idxC_spec : ∀ (l : List OptL) (i : Nat), (idxC i l = -1 ∧ ∀ o ∈ l, 128 ≤ o.1) ∨ ∃ (k : Nat) (o : OptL), idxC i l = ((i + k : Nat) : Int) ∧ l[k]? = some o ∧ o.1 < 128 ∧ ∀ o' ∈ l.take k, 128 ≤ o'.1
  | [], i => .inl ⟨rfl, fun o h => by cases h⟩
  | o :: l, i => by
    by_cases h : o.1 < 128
    · exact .inr ⟨0, o, by rw [idxC, if_pos h]; simp, rfl, h, fun o' h => by simp at h⟩
    · rw [idxC, if_neg h]
      rcases idxC_spec l (i + 1) with ⟨h1, h2⟩ | ⟨k, x, h1, h2, h3, h4⟩
      · refine .inl ⟨h1, fun x hx => ?_⟩
        rcases List.mem_cons.1 hx with rfl | hx
        · omega
        · exact h2 x hx
      · refine .inr ⟨k + 1, x, by rw [h1]; congr 1; omega, by simpa using h2, h3, fun y hy => ?_⟩
        rw [List.take_succ_cons] at hy
        rcases List.mem_cons.1 hy with rfl | hy
        · omega
        · exact h4 y hy

def IxRel (l : List OptL) (n : Nat) (w : World) (i : Value) (wr : World) : Prop := ∃ k : Nat, i = .int .i64 k ∧ k ≤ n ∧ idxC 0 l = idxC k (l.drop k) ∧ Below w.heap.size w wr

set_option maxRecDepth 100000 in
theorem index77 (g o n c : Nat) (l : List OptL) (w : World) (hl : l.length = n) (hn : n ≤ 1000) (hg : g < w.heap.size) (hk : ∀ x ∈ l, 0 ≤ x.1 ∧ x.1 ≤ 255)
    (hc : ∀ (i : Nat) (x : OptL), l[i]? = some x → ∃ (a : Option Addr) (m c' : Nat), w.cell? ⟨g, o + i * 2, none⟩ = some (.int .i64 x.1) ∧ w.cell? ⟨g, o + i * 2 + 1, none⟩ = some (.slice a m c')) :
    Calls Tryd.prog 77 #[.slice (some ⟨g, o, none⟩) n c, .func (.func 57) #[] #[]] w (RB (.int .i64 (idxC 0 l)) w) := by
  replace hl := Lib.hid hl
  replace hc := Lib.hid hc
  replace hk := Lib.hid hk
  go_enter Tryd.func77, Tryd.ntmps77
  go_wp2
  go_loopw [8] (fun i wr => IxRel l n w i wr) (fun i _ => n - (intOf i).toNat)
  case atStart => exact ⟨0, rfl, by omega, rfl, Below.refl _ _⟩
  case round =>
    obtain ⟨k, rfl, hkn, hval, hB⟩ := hrel
    rename_i wr
    replace hval := Lib.hid hval
    by_cases hlt : k < n
    · obtain ⟨x, hx⟩ : ∃ x, l[k]? = some x := ⟨_, List.getElem?_eq_getElem (by rw [hl.out]; exact hlt)⟩
      obtain ⟨a, m, c', h1, h2⟩ := hc.out k x hx
      have h1 := (hB.cell (p := ⟨g, o + k * 2, none⟩) hg).trans h1
      have h2 := (hB.cell (p := ⟨g, o + k * 2 + 1, none⟩) hg).trans h2
      have hld := load2 h1 h2
      clear h1 h2
      have hdrop := Lib.hid (dropL hx)
      have hkx := hk.out x (List.mem_of_getElem? hx)
      replace hx := Lib.hid hx
      have hp := Lib.hid (fun W => pred57 x.1 a m c' W hkx.1 hkx.2)
      by_cases he : x.1 < 128
      · rw [decide_eq_true he] at hp
        replace he := Lib.hid he
        go_wp2_with (go_at_call 57; (with_reducible refine (hp.out _).mono ?_); rintro e w1 ⟨rfl, hb⟩; have hB := hB.trans (hb.mono hB.size); clear hb)
        go_ret
        exact RB.mk' (by rw [hval.out, hdrop.out, idxC, if_pos he.out]; rfl) hB
      · rw [decide_eq_false he] at hp
        replace he := Lib.hid he
        go_wp2_with (go_at_call 57; (with_reducible refine (hp.out _).mono ?_); rintro e w1 ⟨rfl, hb⟩; have hB := hB.trans (hb.mono hB.size); clear hb)
        go_roundw
        case rel => exact ⟨k + 1, by go_num, by omega, by rw [hval.out, hdrop.out, idxC, if_neg (by have := he.out; omega)], hB⟩
        case measure => simp [intOf]; omega
    · go_wp2
      go_ret
      have : k = n := by omega
      subst this
      exact RB.mk' (by rw [hval.out, List.drop_eq_nil_of_le (by rw [hl.out]; exact Nat.le_refl _)]; rfl) hB

theorem below_grownBy {W W' : World} {row : Option Nat} (h : Below W.heap.size W W') : W.grownBy W' row := ⟨h.os, h.tape, h.output, h.size, fun k hk _ => h.block k hk⟩
abbrev OS := OptL × Sl
def kpP (p : OS) : Bool := decide (128 ≤ p.1.1)
/-- Options and their slices at the begin of a row. -/
def RowAt (cur : Array Value) (ps : List OS) : Prop := ∀ (q : Nat) (p : OS), ps[q]? = some p → cur[q * 2]? = some (.int .i64 p.1.1) ∧ cur[q * 2 + 1]? = some (.slice p.2.a p.2.n p.2.c)
def DelRel (ps : List OS) (n c g : Nat) (w : World) (i j : Value) (wr : World) : Prop :=
  ∃ (a b : Nat) (cur : Array Value), i = .int .i64 a ∧ j = .int .i64 b ∧ b ≤ n ∧ a < b ∧ a = ((ps.take b).filter kpP).length ∧ wr.heap[g]? = some (.cells cur 75 (0, 0)) ∧ cur.size = c * 2 ∧ RowAt cur ((ps.take b).filter kpP) ∧
    (∀ (q : Nat) (p : OS), b ≤ q → ps[q]? = some p → cur[q * 2]? = some (.int .i64 p.1.1) ∧ cur[q * 2 + 1]? = some (.slice p.2.a p.2.n p.2.c)) ∧ w.grownBy wr (some g)
def RD (ps : List OS) (c g : Nat) (w : World) (e : Ending) (w' : World) : Prop :=
  ∃ (cur : Array Value), e = .returned (.slice (some ⟨g, 0, none⟩) (ps.filter kpP).length c) ∧ w'.heap[g]? = some (.cells cur 75 (0, 0)) ∧ cur.size = c * 2 ∧ RowAt cur (ps.filter kpP) ∧ w.grownBy w' (some g)

theorem rowAt_set {cur : Array Value} {ps : List OS} {p : OS} {a : Nat} (h : RowAt cur ps) (ha : a = ps.length) (hs : a * 2 + 1 < cur.size) :
    RowAt ((cur.setIfInBounds (a * 2) (.int .i64 p.1.1)).setIfInBounds (a * 2 + 1) (.slice p.2.a p.2.n p.2.c)) (ps ++ [p]) := by
  intro q x hx
  by_cases hq : q < ps.length
  · rw [List.getElem?_append_left hq] at hx
    obtain ⟨h1, h2⟩ := h q x hx
    rw [Array.getElem?_setIfInBounds_ne (by omega), Array.getElem?_setIfInBounds_ne (by omega), Array.getElem?_setIfInBounds_ne (by omega), Array.getElem?_setIfInBounds_ne (by omega)]
    exact ⟨h1, h2⟩
  · rw [List.getElem?_append_right (by omega)] at hx
    have hq0 : q - ps.length = 0 := by
      have := (List.getElem?_eq_some_iff.1 hx).1
      simp at this; omega
    rw [hq0] at hx
    simp only [List.getElem?_cons_zero, Option.some.injEq] at hx
    subst hx
    obtain rfl : q = a := by omega
    refine ⟨?_, ?_⟩
    · rw [Array.getElem?_setIfInBounds_ne (by omega), Array.getElem?_setIfInBounds_self_of_lt (by omega)]
    · rw [Array.getElem?_setIfInBounds_self_of_lt (by simpa using hs)]

set_option maxRecDepth 100000 in
set_option maxHeartbeats 1000000 in
theorem delete56 (g n c : Nat) (cur : Array Value) (ps : List OS) (w : World) (hh : w.heap[g]? = some (.cells cur 75 (0, 0))) (hsz : cur.size = c * 2) (hnc : n ≤ c) (hcm : c ≤ maxLen) (hl : ps.length = n) (hrow : RowAt cur ps)
    (hk : ∀ p ∈ ps, 0 ≤ p.1.1 ∧ p.1.1 ≤ 255) (hn : n ≤ 1000) : Calls Tryd.prog 56 #[.slice (some ⟨g, 0, none⟩) n c, .func (.func 57) #[] #[]] w (RD ps c g w) := by
  have hg : g < w.heap.size := (Array.getElem?_eq_some_iff.1 hh).1
  have hix := Lib.hid (index77 g 0 n c (ps.map (·.1)) w (by rw [List.length_map, hl]) hn hg (fun x hx => by obtain ⟨p, hp, rfl⟩ := List.mem_map.1 hx; exact hk p hp) (fun i x hx => by
    rw [List.getElem?_map] at hx
    obtain ⟨p, hp, rfl⟩ := Option.map_eq_some_iff.1 hx
    obtain ⟨h1, h2⟩ := hrow i p hp
    exact ⟨p.2.a, p.2.n, p.2.c, by rw [Nat.zero_add, cell_of_row w g _ cur 75 (0, 0) hh]; exact h1, by rw [Nat.zero_add, cell_of_row w g _ cur 75 (0, 0) hh]; exact h2⟩))
  replace hl := Lib.hid hl
  replace hk := Lib.hid hk
  unfold maxLen at hcm
  rcases idxC_spec (ps.map (·.1)) 0 with ⟨e1, hall⟩ | ⟨k0, x0, e1, hx0, hlt0, hall⟩
  · rw [e1] at hix
    have hfin : RD ps c g w (.returned (.slice (some ⟨g, 0, none⟩) n c)) w := by
      have hf : ps.filter kpP = ps := List.filter_eq_self.2 fun p hp => by simpa [kpP] using hall p.1 (List.mem_map_of_mem hp)
      exact ⟨cur, by rw [hf, hl.out], hh, hsz, by rw [hf]; exact hrow, World.grownBy.refl _ _⟩
    have hfin2 : ∀ W, Below w.heap.size w W → RD ps c g w (.returned (.slice (some ⟨g, 0, none⟩) n c)) W := fun W hb => by
      obtain ⟨cur, a, b, c, d, e⟩ := hfin
      exact ⟨cur, a, by rw [hb.block g hg]; exact b, c, d, e.trans (below_grownBy hb)⟩
    replace hfin2 := Lib.hid hfin2
    clear hfin hrow hh hsz e1 hall
    go_enter Tryd.func56, Tryd.ntmps56
    go_wp2_with (first | (go_at_call 77; (with_reducible refine hix.out.mono ?_); rintro e w1 ⟨rfl, hb⟩))
    go_ret
    exact hfin2.out _ hb
  · rw [e1, Nat.zero_add] at hix
    rw [List.getElem?_map] at hx0
    obtain ⟨p0, hp0, rfl⟩ := Option.map_eq_some_iff.1 hx0
    have hk0 : k0 < n := by have := (List.getElem?_eq_some_iff.1 hp0).1; rw [hl.out] at this; exact this
    have hf0 : (ps.take (k0 + 1)).filter kpP = ps.take k0 := by
      rw [takeL hp0, List.filter_append]
      have h1 : (ps.take k0).filter kpP = ps.take k0 := List.filter_eq_self.2 fun p hp => by
        have := hall p.1 (by rw [← List.map_take]; exact List.mem_map_of_mem hp)
        simpa [kpP] using this
      have h2 : [p0].filter kpP = [] := by simp [kpP]; exact hlt0
      rw [h1, h2, List.append_nil]
    have hstart : DelRel ps n c g w (.int .i64 k0) (.int .i64 ((k0 : Int) + 1)) w := by
      refine ⟨k0, k0 + 1, cur, rfl, by go_num, by omega, by omega, by rw [hf0, List.length_take, hl.out]; omega, hh, hsz, ?_, fun q p _ hp => hrow q p hp, World.grownBy.refl _ _⟩
      rw [hf0]
      intro q p hp
      rw [List.getElem?_take] at hp
      split at hp
      · exact hrow q p hp
      · cases hp
    have hstart2 : ∀ W, Below w.heap.size w W → DelRel ps n c g w (.int .i64 k0) (.int .i64 ((k0 : Int) + 1)) W := fun W hb => by
      obtain ⟨a, b, cur, h1, h2, h3, h4, h5, h6, h7, h8, h9, h10⟩ := hstart
      exact ⟨a, b, cur, h1, h2, h3, h4, h5, by rw [hb.block g hg]; exact h6, h7, h8, h9, h10.trans (below_grownBy hb)⟩
    replace hstart2 := Lib.hid hstart2
    clear hstart hrow hh hsz e1 hall hf0
    have hk0b : ((k0 : Int) == -1) = false := beq_eq_false_iff_ne.2 (by omega)
    go_enter Tryd.func56, Tryd.ntmps56
    go_wp2_with (first | (go_at_call 77; (with_reducible refine hix.out.mono ?_); rintro e w1 ⟨rfl, hb⟩))
    go_loopw [5, 6] (fun i j wr => DelRel ps n c g w i j wr) (fun _ j _ => n - (intOf j).toNat)
    case atStart => exact hstart2.out _ hb
    case round =>
      clear hb
      obtain ⟨a, b, cur, rfl, rfl, hbn, hab, ha, hheap, hsz, hrow, hrest, hgr⟩ := hrel
      rename_i wr
      replace ha := Lib.hid ha
      have hgw : g < wr.heap.size := (Array.getElem?_eq_some_iff.1 hheap).1
      by_cases hlt : b < n
      · obtain ⟨x, hx⟩ : ∃ x, ps[b]? = some x := ⟨_, List.getElem?_eq_getElem (by rw [hl.out]; exact hlt)⟩
        obtain ⟨h1, h2⟩ := hrest b x (Nat.le_refl _) hx
        have h1 := (cell_of_row wr g _ cur 75 (0, 0) hheap).trans h1
        have h2 := (cell_of_row wr g _ cur 75 (0, 0) hheap).trans h2
        have hsnoc := Lib.hid (takeL hx)
        have hkx := hk.out x (List.mem_of_getElem? hx)
        replace hx := Lib.hid hx
        have hp := Lib.hid (fun W => pred57 x.1.1 x.2.a x.2.n x.2.c W hkx.1 hkx.2)
        have hX1 := (Bx.start wr).alloc #[.int .i64 x.1.1, .slice x.2.a x.2.n x.2.c] 75
        have hl7 := loadN_at (P := Tryd.prog) (n := 2) (at_of_heap hX1.h0) rfl
        have hld := load2 h1 h2
        clear h1 h2
        replace hrow := Lib.hid hrow
        replace hrest := Lib.hid hrest
        have hgr := Lib.hid hgr
        have hheap := Lib.hid hheap
        by_cases he : x.1.1 < 128
        · rw [decide_eq_true he] at hp
          have hf := Lib.hid (show (ps.take (b + 1)).filter kpP = (ps.take b).filter kpP by rw [hsnoc.out, List.filter_append]; simp [kpP]; exact he)
          replace he := Lib.hid he
          go_wp2_with (first | (go_at_call 57; (with_reducible refine (hp.out _).mono ?_); rintro e w2 ⟨rfl, hb⟩; have hX2 := hX1.call hb; clear hb))
          go_roundw
          case rel => exact ⟨a, b + 1, cur, rfl, by go_num, by omega, by omega, by rw [hf.out]; exact ha.out, by rw [hX2.bel.block g hgw]; exact hheap.out, hsz, by rw [hf.out]; exact hrow.out, fun q p hq hp => hrest.out q p (by omega) hp, hgr.out.trans (below_grownBy hX2.bel)⟩
          case measure => simp [intOf]; omega
        · rw [decide_eq_false he] at hp
          have hf := Lib.hid (show (ps.take (b + 1)).filter kpP = (ps.take b).filter kpP ++ [x] by rw [hsnoc.out, List.filter_append]; simp [kpP]; omega)
          have hac : a * 2 + 1 < cur.size := by omega
          replace he := Lib.hid he
          go_wp2_with (first | (go_at_call 57; (with_reducible refine (hp.out _).mono ?_); rintro e w2 ⟨rfl, hb⟩; have hX2 := hX1.call hb; clear hb; have hl8 := loadN_at (P := Tryd.prog) (n := 2) (at_of_heap hX2.h0) rfl) | (refine wpList_store_two rfl (.tmp 33) (.tmp 32) rfl g (a * 2) (.int .i64 x.1.1) (.slice x.2.a x.2.n x.2.c) rfl rfl 75 cur (by rw [hX2.bel.block g hgw]; exact hheap.out) rfl rfl hac ?_; intro W3 hh3 hg3; dsimp only [Act.put]))
          go_roundw
          case rel => exact ⟨a + 1, b + 1, _, by go_num, by go_num, by omega, by omega, by rw [hf.out, List.length_append, ← ha.out]; rfl, hh3, by simp; exact hsz, by rw [hf.out]; exact rowAt_set hrow.out ha.out hac, (fun q p hq hp => by rw [Array.getElem?_setIfInBounds_ne (by omega), Array.getElem?_setIfInBounds_ne (by omega), Array.getElem?_setIfInBounds_ne (by omega), Array.getElem?_setIfInBounds_ne (by omega)]; exact hrest.out q p (by omega) hp), (hgr.out.trans (below_grownBy hX2.bel)).trans hg3⟩
          case measure => simp [intOf]; omega
      · have hbn' : b = n := by omega
        subst hbn'
        have hca : ¬ c = a := by omega
        have hac : a ≤ c := by omega
        obtain ⟨W', cur', hcl0, hh', hsz', hsame, hg'⟩ := run_clear75 wr 0 g (a * 2) (b - a) (c - a) cur hheap (by omega)
        have hcl : ∀ ty, (Builtin.clear_ #[70] ty #[.slice (some ⟨g, a * 2, none⟩) (b - a) (c - a)]).run Tryd.prog wr = .ok (.tuple #[]) W' := fun ty => hcl0
        have hfa := Lib.hid (show ps.take b = ps from List.take_of_length_le (by rw [hl.out]; exact Nat.le_refl _))
        replace hrow := Lib.hid hrow
        replace hrest := Lib.hid hrest
        have hgr := Lib.hid (hgr.trans hg')
        replace hsame := Lib.hid hsame
        replace hsz := Lib.hid (hsz'.trans hsz)
        clear hcl0 hheap hsz'
        replace hh' := Lib.hid hh'
        have hab' : a ≤ b := by omega
        go_wp2
        go_ret
        have e := ha.out
        rw [hfa.out] at e
        refine ⟨cur', by rw [← e]; rfl, hh'.out, hsz.out, ?_, hgr.out⟩
        have hr := hrow.out
        rw [hfa.out] at hr
        intro q p hp
        have hq := (List.getElem?_eq_some_iff.1 hp).1
        rw [hsame.out _ (by omega), hsame.out _ (by omega)]
        exact hr q p hp
end Go.Proofs.YtleokgmflelkcaaDoor
