/- Lists of int that are arguments; a list of packets behind another. -/
import Derived.Test.YtleokgmflelkcaaDoorVP2
import Derived.Test.YtleokgmflelkcaaDoorVA24
import Derived.Test.YtleokgmflelkcaaDoorVA18
set_option linter.unusedSimpArgs false
set_option linter.unusedVariables false
namespace Go.Proofs.YtleokgmflelkcaaDoor
open Go Go.RowKit Go.ChangeShapes Go.WideShapes Go.ChangeAt

/-- The slice s reads as these ints. -/
structure Is (w : World) (s : Sl) (xs : List Int) : Prop where
  len : xs.length = s.n
  le : s.n ≤ s.c
  at_ : s.n = 0 ∨ ∃ b o, s.a = some ⟨b, o, none⟩ ∧ b < w.heap.size ∧ ∀ (i : Nat) (x : Int), xs[i]? = some x → w.cell? ⟨b, o + i, none⟩ = some (.int .i64 x)
theorem Is.below {w w' : World} {s : Sl} {xs : List Int} (h : Is w s xs) (hb : Below w.heap.size w w') : Is w' s xs := by
  refine ⟨h.len, h.le, ?_⟩
  rcases h.at_ with h0 | ⟨b, o, h1, h2, h3⟩
  · exact .inl h0
  · refine .inr ⟨b, o, h1, Nat.lt_of_lt_of_le h2 hb.size, fun i x hx => ?_⟩
    have h4 := h3 i x hx
    unfold World.cell? at h4 ⊢
    rw [hb.block _ h2]
    exact h4

set_option maxRecDepth 100000 in
theorem arg_is {H : Type} {enc : TypeId × Value → H} {W : World} {base : Nat} {v : Value} {d : DataW H} {p : List MemPlace} (hv : Value.okWide Tryd.prog W .any base 43 v) (h : DataW.Trod enc Tryd.prog W 0 (fun _ => true) true 43 v d p)
    (hw : ∀ n ∈ d.weights Tryd.prog 43, n ≤ reachBytes) : ∃ (s : Sl) (xs : List Int), v = .slice s.a s.n s.c ∧ Is W s xs ∧ s.n ≤ 17592186043904 := by
  unfold Value.okWide at hv
  rw [Tryd.underlying43] at hv
  simp only at hv
  unfold Cell.okWide at hv
  rw [Tryd.underlying43] at hv
  unfold Cell.ok at hv
  rw [Tryd.underlying43] at hv
  obtain ⟨fuel, hf⟩ := h
  cases v <;> simp only at hv
  rename_i a n c
  rcases open_ints Tryd.underlying43 Tryd.underlying3 cells3 hf with ⟨hcs, hx⟩ | ⟨a', len, cap, zs, hcs, _, hl, hm, hz, hx, hcell, hwz⟩
  · simp only [Value.cells, List.cons.injEq, and_true, Value.slice.injEq] at hcs
    obtain ⟨rfl, rfl, rfl⟩ := hcs
    exact ⟨⟨none, 0, 0⟩, [], rfl, ⟨rfl, Nat.le_refl _, .inl rfl⟩, by decide⟩
  · simp only [Value.cells, List.cons.injEq, and_true, Value.slice.injEq] at hcs
    obtain ⟨rfl, rfl, rfl⟩ := hcs
    simp only [if_true] at hz
    have hbytes : Tryd.prog.bytesOf 3 = 8 := by kernel_rfl
    have hd := congrArg Prod.fst hx
    simp only at hd
    subst hd
    have hwt := hw (((zs.take n).length + (zs.drop n).length) * 8) (by
      simp only [DataW.weights, Tryd.underlying43, hbytes, lits, List.length_map, List.mem_cons, true_or])
    have hn : n ≤ 17592186043904 := by
      have : reachBytes = 140737488351232 := rfl
      rw [List.length_take, List.length_drop] at hwt
      omega
    have htl : (zs.take n).length = n := by rw [List.length_take]; omega
    by_cases h0 : n = 0
    · exact ⟨⟨some a', n, c⟩, zs.take n, rfl, ⟨htl, hl, .inl h0⟩, hn⟩
    have hc0 := hcell 0 (by omega)
    rw [Addr.add_zero'] at hc0
    obtain ⟨hspot, hlt⟩ := cell_plain hc0
    obtain ⟨b, o, sp⟩ := a'
    simp only at hspot hlt
    subst hspot
    refine ⟨⟨some ⟨b, o, none⟩, n, c⟩, zs.take n, rfl, ⟨htl, hl, .inr ⟨b, o, rfl, hlt, fun i x hi => ?_⟩⟩, hn⟩
    have hin : i < n := by have := (List.getElem?_eq_some_iff.1 hi).1; omega
    have := hcell i (by omega)
    have hadd : (⟨b, o, none⟩ : Addr).add i = ⟨b, o + i, none⟩ := by unfold Addr.add; split <;> simp_all
    rw [hadd] at this
    rw [this]
    rw [List.getElem?_take, if_pos hin] at hi
    rw [List.getD_eq_getElem?_getD, hi]
    rfl

theorem PkRow.reads2 {B : Nat} {w : World} {v : Value} {n : Nat} {l : List Mp} (h : PkRow B w v n l) (hl : ∀ m ∈ l, m.os.length ≤ 140737488351232 ∧ m.ds.length ≤ 140737488351232) :
    ∃ (s : Sl) (xs : List Fp), v = .slice s.a s.n s.c ∧ s.n = n ∧ PkS w s xs ∧ xs.map Fp.mp = l ∧ ∀ x ∈ xs, IsP B w x.p x.mp := by
  obtain ⟨ps, h1, h2, h3, h4⟩ := h
  subst h2
  have hxs : ∀ (ps : List Pk) (l : List Mp), ps.length = l.length → (∀ (i : Nat) (p : Pk) (m : Mp), ps[i]? = some p → l[i]? = some m → IsP B w p m) → (∀ m ∈ l, m.os.length ≤ 140737488351232 ∧ m.ds.length ≤ 140737488351232) →
      ∃ xs : List Fp, xs.map Fp.p = ps ∧ xs.map Fp.mp = l ∧ ∀ x ∈ xs, PkIn w x.p x.os x.ds ∧ IsP B w x.p x.mp := by
    intro ps
    induction ps with
    | nil =>
      intro l hl _ _
      cases l with
      | nil => exact ⟨[], rfl, rfl, fun x h => by cases h⟩
      | cons a l => simp at hl
    | cons p ps ih =>
      intro l hl hi hm
      cases l with
      | nil => simp at hl
      | cons m l =>
        obtain ⟨xs, e1, e2, e3⟩ := ih l (by simpa using hl) (fun i p m a b => hi (i + 1) p m (by simpa using a) (by simpa using b)) (fun m h => hm m (List.mem_cons_of_mem _ h))
        have h0 := hi 0 p m rfl rfl
        have hm0 := hm m (by simp)
        have ho := h0.2.2.2.1.bs
        have hd := h0.2.2.2.2.bs
        refine ⟨⟨p, m.os, m.ds⟩ :: xs, by simp [e1], ?_, fun x hx => ?_⟩
        · rw [List.map_cons, e2]
          congr 1
          simp only [Fp.mp, Pk.mp, h0.1, h0.2.1, h0.2.2.1]
        · rcases List.mem_cons.1 hx with rfl | hx
          · refine ⟨⟨ho, hd, by rw [← ho.len]; exact hm0.1, by rw [← hd.len]; exact hm0.2⟩, rfl, rfl, rfl, h0.2.2.2.1, h0.2.2.2.2⟩
          · exact e3 x hx
  obtain ⟨xs, e1, e2, e3⟩ := hxs ps l h1 h4 hl
  have hlen : xs.length = l.length := by rw [← e2, List.length_map]
  rcases h3.2 with ⟨hv, hn⟩ | ⟨g, cap, cur, hv, hg, hh, hc, _, hsz, htk⟩
  · exact ⟨⟨none, 0, 0⟩, xs, hv, hn.symm, ⟨by rw [hlen, hn], Nat.le_refl _, fun x hx => (e3 x hx).1, .inl ⟨rfl, rfl, rfl⟩⟩, e2, fun x hx => (e3 x hx).2⟩
  · refine ⟨⟨some ⟨g, 0, none⟩, l.length, cap⟩, xs, hv, rfl, ⟨hlen, hc, fun x hx => (e3 x hx).1, .inr ⟨g, 0, rfl, (Array.getElem?_eq_some_iff.1 hh).1, fun i x hx j hj => ?_⟩⟩, e2, fun x hx => (e3 x hx).2⟩
    rw [pkA_size] at hj
    have hi : i < l.length := by have := (List.getElem?_eq_some_iff.1 hx).1; omega
    rw [Nat.zero_add, cell_of_row w g _ cur 28 (0, 0) hh]
    have hp : ps[i]? = some x.p := by rw [← e1, List.getElem?_map, hx]; rfl
    rw [← flat_get ps i x.p hp j hj, ← htk, List.getElem?_take, if_pos (by omega)]
    simp
/-- append(a, b...) of two rows of packets. -/
theorem wpList_append_row {W : World} {ops : Array Oper} {rest : List Oper} {o : Oper} {a : Act} {Q : Exit → Act → World → Prop} (hgd : o.guard = none) (sx x : Operand)
    (ho : o.op = .call { callee := .builtin .append, args := #[sx, x], argTypes := #[29, 29] }) (B : Nat) (v : Value) (n : Nat) (l : List Mp) (hs : a.eval sx = v) (hrow : PkRow B W v n l)
    (v2 : Value) (n2 : Nat) (l2 : List Mp) (hx : a.eval x = v2) (hrow2 : PkRow B W v2 n2 l2) (hb2 : ∀ m ∈ l2, m.os.length ≤ 140737488351232 ∧ m.ds.length ≤ 140737488351232) (hn : n + n2 ≤ 925904528626) (hB : B ≤ W.heap.size)
    (h : ∀ (s' : Sl) w', PkRow B w' (.slice s'.a s'.n s'.c) (n + n2) (l ++ l2) → Below B W w' → wpList Tryd.prog ops Q rest (a.put o.dst (.slice s'.a s'.n s'.c)) w') : wpList Tryd.prog ops Q (o :: rest) a W := by
  obtain ⟨s2, xs, rfl, hn2, hpk, hmp, hisp⟩ := hrow2.reads2 hb2
  obtain ⟨ps, h1, h2, h3, h4⟩ := hrow
  refine wpList_append_pks hgd sx x ho B v n ps hs h3 s2 xs hx hpk (by omega) hB fun v' w' k1 k2 k3 => ?_
  rw [hn2] at k1
  have keep : ∀ (p : Pk) (m : Mp), IsP B W p m → IsP B w' p m := fun p m h => ⟨h.1, h.2.1, h.2.2.1, h.2.2.2.1.kept k3 (own_ne' h.2.2.2.1 h3 (by decide)), h.2.2.2.2.kept k3 (own_ne' h.2.2.2.2 h3 (by decide))⟩
  have hxl : xs.length = l2.length := by rw [← hmp, List.length_map]
  have hl2 : l2.length = n2 := by rw [← hxl, hpk.len, hn2]
  have hr : PkRow B w' v' (n + n2) (l ++ l2) := by
    refine ⟨ps ++ xs.map Fp.p, by simp [h1, hxl], by simp [h2, hl2], k1, fun i p m e1 e2 => ?_⟩
    by_cases hi : i < l.length
    · rw [List.getElem?_append_left (by omega)] at e1 e2
      exact keep _ _ (h4 i p m e1 e2)
    · rw [List.getElem?_append_right (by omega)] at e1 e2
      rw [h1] at e1
      rw [List.getElem?_map, Option.map_eq_some_iff] at e1
      obtain ⟨y, hy, rfl⟩ := e1
      rw [← hmp, List.getElem?_map, hy] at e2
      simp only [Option.map_some, Option.some.injEq] at e2
      subst e2
      exact keep _ _ (hisp y (List.mem_of_getElem? hy))
  obtain ⟨-, s', rfl, -⟩ := hr.form
  exact h s' w' hr k2
end Go.Proofs.YtleokgmflelkcaaDoor
