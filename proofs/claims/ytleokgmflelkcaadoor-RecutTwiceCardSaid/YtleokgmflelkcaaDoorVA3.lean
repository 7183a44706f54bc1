/- Slices of bytes: what lies in memory, and the functions that copy and compare them. The functions of package opts, the program's own: shape, empty, Parse, Valid. -/
import Derived.Test.YtleokgmflelkcaaDoorVA0
import Derived.Lib.SliceRun
import Derived.Deep.DeepMust
import Derived.Deep.QuietTactic
import Derived.BigQuiet
import Derived.Deep.DeepCutAuto
set_option linter.unusedSimpArgs false
set_option linter.unusedVariables false
namespace Go.Proofs.YtleokgmflelkcaaDoor
open Go Go.RowKit

/-- The byte at a place. -/
def bAt (xs : List Int) (i : Nat) : Int := xs.getD i 0

def bytesR (xs : List Int) : Prop := ∀ x ∈ xs, 0 ≤ x ∧ x ≤ 255
theorem bytesR_get {xs : List Int} (h : bytesR xs) (i : Nat) : 0 ≤ bAt xs i ∧ bAt xs i ≤ 255 := by
  unfold bAt
  rw [List.getD_eq_getElem?_getD]
  by_cases hi : i < xs.length
  · rw [List.getElem?_eq_getElem hi]; exact h _ (List.getElem_mem hi)
  · rw [List.getElem?_eq_none (by omega)]; decide

/-- The slice s reads as the bytes xs. -/
structure Bs (w : World) (s : Sl) (xs : List Int) : Prop where
  len : xs.length = s.n
  le : s.n ≤ s.c
  rng : bytesR xs
  at_ : (s.n = 0 ∧ s.c = 0) ∨ ∃ b o, s.a = some ⟨b, o, none⟩ ∧ b < w.heap.size ∧ ∀ i, i < s.n → w.cell? ⟨b, o + i, none⟩ = some (.int .u8 (bAt xs i))

theorem Bs.below {w w' : World} {s : Sl} {xs : List Int} (h : Bs w s xs) (hb : Below w.heap.size w w') : Bs w' s xs := by
  refine ⟨h.len, h.le, h.rng, ?_⟩
  rcases h.at_ with h0 | ⟨b, o, h1, h2, h3⟩
  · exact .inl h0
  · exact .inr ⟨b, o, h1, Nat.lt_of_lt_of_le h2 hb.size, fun i hi => by rw [hb.cell (p := ⟨b, o + i, none⟩) h2]; exact h3 i hi⟩

/-- The slice s is the call's own (from block B on), or nil, and reads as xs. -/
def Own (B : Nat) (w : World) (s : Sl) (xs : List Int) : Prop := w.ownsRow B 5 1 (.slice s.a s.n s.c) s.n (xs.map (Value.int .u8)) ∧ bytesR xs

theorem Own.bs {B : Nat} {w : World} {s : Sl} {xs : List Int} (h : Own B w s xs) : Bs w s xs := by
  obtain ⟨⟨h1, h2⟩, hr⟩ := h
  simp only [List.length_map, Nat.mul_one] at h1
  rcases h2 with ⟨hv, hn⟩ | ⟨g, cap, cur, hv, hg, hh, hc, hm, hs, ht⟩
  · simp only [Value.slice.injEq] at hv
    exact ⟨h1, by omega, hr, .inl ⟨hn, by omega⟩⟩
  · simp only [Value.slice.injEq] at hv
    refine ⟨h1, by omega, hr, .inr ⟨g, 0, hv.1, ?_, fun i hi => ?_⟩⟩
    · have := (Array.getElem?_eq_some_iff.1 hh).1
      exact this
    · simp only [World.cell?, hh, Option.isSome_none, Bool.false_eq_true, if_false, Nat.zero_add]
      have hi' : i < (xs.map (Value.int .u8)).length := by rw [List.length_map]; omega
      have e : cur.toList[i]? = (xs.map (Value.int .u8))[i]? := by
        rw [← ht, List.getElem?_take, if_pos (by omega)]
      unfold bAt
      rw [← Array.getElem?_toList, e, List.getElem?_map, List.getD_eq_getElem?_getD, List.getElem?_eq_getElem (by omega)]
      rfl

/-- A slice out of the call's own memory that reads as xs came back. -/
def RS (xs : List Int) (w : World) (e : Ending) (w' : World) : Prop := ∃ s : Sl, e = .returned (.slice s.a s.n s.c) ∧ Own w.heap.size w' s xs ∧ Below w.heap.size w w'

theorem RS.of_owns {xs : List Int} {w w' : World} {v : Value} {n : Nat} (h : w'.ownsRow w.heap.size 5 1 v n (xs.map (Value.int .u8))) (hr : bytesR xs) (hb : Below w.heap.size w w') : RS xs w (.returned v) w' := by
  have h0 := h
  obtain ⟨h1, h2⟩ := h
  rcases h2 with ⟨hv, hn⟩ | ⟨g, cap, cur, hv, _⟩
  · subst hv; subst hn
    exact ⟨⟨none, 0, 0⟩, rfl, ⟨h0, hr⟩, hb⟩
  · subst hv
    exact ⟨⟨some ⟨g, 0, none⟩, n, cap⟩, rfl, ⟨h0, hr⟩, hb⟩

theorem info5 : (Tryd.prog.info? 5).map (fun i => (i.zero, i.size, i.bytes)) = some (some (.int .u8 0), 1, 1) := by kernel_rfl

theorem cells_of_bs {w : World} {b o n : Nat} {xs : List Int} (hl : xs.length = n) (h : ∀ i, i < n → w.cell? ⟨b, o + i, none⟩ = some (.int .u8 (bAt xs i))) :
    ∀ j u, (xs.map (Value.int .u8))[j]? = some u → w.cell? ((⟨b, o, none⟩ : Addr).add j) = some u := by
  intro j u hu
  have hj : j < xs.length := by have := (List.getElem?_eq_some_iff.1 hu).1; simpa using this
  have hadd : (⟨b, o, none⟩ : Addr).add j = ⟨b, o + j, none⟩ := by unfold Addr.add; split <;> simp_all
  unfold bAt at h
  rw [hadd, h j (by omega), ← hu, List.getElem?_map, List.getD_eq_getElem?_getD, List.getElem?_eq_getElem hj]
  rfl
theorem one_of_bytes (xs : List Int) : ∀ u ∈ xs.map (Value.int .u8), u.oneCell' = true := by
  intro u hu
  obtain ⟨x, _, rfl⟩ := List.mem_map.1 hu
  rfl
theorem owns_empty (w : World) : (w.alloc (.cells #[] 5)).ownsRow w.heap.size 5 1 (.slice (some ⟨w.heap.size, 0, none⟩) 0 0) 0 [] :=
  ⟨rfl, .inr ⟨w.heap.size, 0, #[], rfl, Nat.le_refl _, heap_alloc_new _ _, by omega, by unfold maxLen; omega, rfl, rfl⟩⟩

set_option maxRecDepth 100000 in
theorem clone_any (s : Sl) (xs : List Int) (w : World) (h : Bs w s xs) (hm : s.n ≤ 140737488351232) : Calls Tryd.prog 61 #[.slice s.a s.n s.c] w (RS xs w) := by
  obtain ⟨hl, hle, hr, h⟩ := h
  obtain ⟨i0, hi, hz0, hz1, hz2⟩ := info_parts info5
  obtain ⟨a, n, c⟩ := s
  simp only at hl hle hm h ⊢
  rcases h with ⟨rfl, rfl⟩ | ⟨b, o, rfl, hb, hc⟩
  · have : xs = [] := List.eq_nil_of_length_eq_zero hl
    subst this
    cases a with
    | some ad =>
      have ht := fun W => Lib.run_eql_slice_nil (P := Tryd.prog) W 26 5 (some ad) 0 0 0 0 Tryd.underlying26
      have h0 := owns_empty w
      have hc3 := Lib.hid (show 0 + 0 ≤ maxLen by unfold maxLen; omega)
      have hc4 := Lib.hid (show (0 + 0) * 1 ≤ 140737488355328 by omega)
      have hc5 := Lib.hid (show w.heap.size ≤ (w.alloc (.cells #[] 5)).heap.size by simp)
      clear hl
      go_enter Tryd.func61, Tryd.ntmps61
      go_wp2_with (at_builtin; go_must (refine wpList_append_own _ rfl _ _ 26 rfl w.heap.size 5 i0 (.int .u8 0) 1 1 Tryd.underlying26 hi hz0 hz1 hz2 rfl (by decide) _ _ _ rfl h0 ad 0 0 [] rfl rfl (fun j u hu => by simp at hu) (fun u hu => by cases hu) hc3.out hc4.out hc5.out ?_); intro v' w1 hown hgrow hnil)
      go_ret
      have hg : (w.alloc (.cells #[] 5)).grownBy w1 (some w.heap.size) := hgrow
      have hB : Below w.heap.size w w1 := ((Below.refl _ w).alloc (Nat.le_refl _) _).grown hg (by simp) (by intro k hk; injection hk with hk; omega)
      rw [Nat.zero_add] at hown
      exact RS.of_owns (xs := []) hown hr hB
    | none =>
    have hq : RS [] w (.returned (.slice none 0 0)) w := ⟨⟨none, 0, 0⟩, rfl, ⟨⟨rfl, .inl ⟨rfl, rfl⟩⟩, hr⟩, Below.refl _ _⟩
    replace hq := Lib.hid hq
    have ht := fun W => Lib.run_eql_slice_nil (P := Tryd.prog) W 26 5 none 0 0 0 0 Tryd.underlying26
    go_enter Tryd.func61, Tryd.ntmps61
    go_wp2
    go_ret
    exact hq.out
  · have ht := fun W => Lib.run_eql_slice_nil (P := Tryd.prog) W 26 5 (some ⟨b, o, none⟩) n c 0 0 Tryd.underlying26
    have h0 := owns_empty w
    have hc1 : ∀ i, i < n → (w.alloc (.cells #[] 5)).cell? ⟨b, o + i, none⟩ = some (.int .u8 (bAt xs i)) := fun i hin => by
      rw [World.cell?_alloc_lt w _ ⟨b, o + i, none⟩ hb]; exact hc i hin
    have hnews := cells_of_bs hl hc1
    have hone := one_of_bytes xs
    have hln : (xs.map (Value.int .u8)).length = n * 1 := by rw [List.length_map, hl, Nat.mul_one]
    clear hc hc1
    replace hl := Lib.hid hl
    replace hln := Lib.hid hln
    replace hnews := Lib.hid hnews
    replace hone := Lib.hid hone
    have hc3 := Lib.hid (show 0 + n ≤ maxLen by unfold maxLen; omega)
    have hc4 := Lib.hid (show (0 + n) * 1 ≤ 140737488355328 by omega)
    have hc5 := Lib.hid (show w.heap.size ≤ (w.alloc (.cells #[] 5)).heap.size by simp)
    go_enter Tryd.func61, Tryd.ntmps61
    go_wp2_with (at_builtin; go_must (refine wpList_append_own _ rfl _ _ 26 rfl w.heap.size 5 i0 (.int .u8 0) 1 1 Tryd.underlying26 hi hz0 hz1 hz2 rfl (by decide) _ _ _ rfl h0 ⟨b, o, none⟩ n c (xs.map (Value.int .u8)) rfl hln.out hnews.out hone.out hc3.out hc4.out hc5.out ?_); intro v' w1 hown hgrow hnil)
    go_ret
    have hg : (w.alloc (.cells #[] 5)).grownBy w1 (some w.heap.size) := hgrow
    have hB : Below w.heap.size w w1 := ((Below.refl _ w).alloc (Nat.le_refl _) _).grown hg (by simp) (by intro k hk; injection hk with hk; omega)
    rw [Nat.zero_add] at hown
    exact RS.of_owns hown hr hB

/-- 'append(v, s...)' of bytes, v the call's own, s whatever (nil too). -/
theorem wpList_append_bs {w : World} {ops : Array Oper} {rest : List Oper} {o : Oper} {a : Act} {Q : Exit → Act → World → Prop} (hgd : o.guard = none) (sx x : Operand)
    (ho : o.op = .call { callee := .builtin .append, args := #[sx, x], argTypes := #[26, 26] }) (B : Nat) (v : Value) (n : Nat) (xs : List Int) (hs : a.eval sx = v)
    (hown : w.ownsRow B 5 1 v n (xs.map (Value.int .u8))) (s : Sl) (ys : List Int) (hx : a.eval x = .slice s.a s.n s.c) (hb : Bs w s ys) (h47 : n + s.n ≤ 140737488355328) (hB : B ≤ w.heap.size)
    (h : ∀ v' w', w'.ownsRow B 5 1 v' (n + s.n) ((xs ++ ys).map (Value.int .u8)) → w.grownBy w' v.ownBlock → wpList Tryd.prog ops Q rest (a.put o.dst v') w') : wpList Tryd.prog ops Q (o :: rest) a w := by
  obtain ⟨i0, hi, hz0, hz1, hz2⟩ := info_parts info5
  obtain ⟨hl, hle, hr, hat⟩ := hb
  rcases hat with ⟨h2, h3⟩ | ⟨b, off, h1, h2, h3⟩
  · have hy : ys = [] := List.eq_nil_of_length_eq_zero (by omega)
    cases h1 : s.a with
    | some ad =>
      rw [h1] at hx
      exact wpList_append_own w hgd sx x 26 ho B 5 i0 (.int .u8 0) 1 1 Tryd.underlying26 hi hz0 hz1 hz2 rfl (by decide) v n _ hs hown ad s.n s.c (ys.map (Value.int .u8)) hx (by rw [List.length_map, hl, Nat.mul_one])
        (fun j u hu => by rw [hy] at hu; simp at hu) (one_of_bytes ys) (by unfold maxLen; omega) (by omega) hB (fun v' w' h4 h5 _ => h v' w' (by rwa [List.map_append]) h5)
    | none =>
    refine wpList_plain hgd fun K hK' => ?_
    have hrun := run_append_owned_none (P := Tryd.prog) w B 26 o.type 5 i0 1 Tryd.underlying26 hi _ n _ hown
    rw [h1, h2, h3] at hx
    unfold Oper.wp
    simp [execOp, ho, resolve, invoke, builtin, hs, hx, hrun, Result.andThen]
    exact hK' _ _ (h v w (by rw [h2, hy]; simpa using hown) (World.grownBy.refl _ _))
  · rw [h1] at hx
    exact wpList_append_own w hgd sx x 26 ho B 5 i0 (.int .u8 0) 1 1 Tryd.underlying26 hi hz0 hz1 hz2 rfl (by decide) v n _ hs hown ⟨b, off, none⟩ s.n s.c (ys.map (Value.int .u8)) hx (by rw [List.length_map, hl, Nat.mul_one])
      (cells_of_bs hl h3) (one_of_bytes ys) (by unfold maxLen; omega) (by omega) hB (fun v' w' h4 h5 _ => h v' w' (by rwa [List.map_append]) h5)

theorem owns_nil (w : World) (B : Nat) : w.ownsRow B 5 1 (.slice none 0 0) 0 (([] : List Int).map (Value.int .u8)) := ⟨rfl, .inl ⟨rfl, rfl⟩⟩

theorem ref11own_any (s : Sl) (xs : List Int) (w : World) (h : Bs w s xs) (hm : s.n ≤ 140737488351232) : Calls Tryd.prog 49 #[.slice s.a s.n s.c] w (RS xs w) := by
  have hn := owns_nil w w.heap.size
  have h3 := Lib.hid (show 0 + s.n ≤ 140737488355328 by omega)
  have h4 := Lib.hid (Nat.le_refl w.heap.size)
  go_enter Tryd.func49, Tryd.ntmps49
  go_wp2_with (at_builtin; refine wpList_append_bs rfl _ _ rfl w.heap.size _ 0 [] rfl hn s xs rfl h h3.out h4.out ?_; intro v' w1 hown hgrow)
  go_ret
  rw [Nat.zero_add] at hown
  have hg : w.grownBy w1 none := hgrow
  exact RS.of_owns hown h.rng ((Below.refl _ w).grown hg (Nat.le_refl _) (by intro k hk; cases hk))

theorem convert_bs {w : World} {s : Sl} {xs : List Int} (h : Bs w s xs) : (convert 26 9 (.slice s.a s.n s.c)).run Tryd.prog w = .ok (.string (strOfNums xs)) w := by
  obtain ⟨hl, hle, hr, hat⟩ := h
  rcases hat with ⟨h2, h3⟩ | ⟨b, off, h1, h2, h3⟩
  · have hy : xs = [] := List.eq_nil_of_length_eq_zero (by omega)
    subst hy
    cases h1 : s.a with
    | some ad =>
      rw [run_convert_bytes_string w 26 9 5 _ _ _ Tryd.underlying26 Tryd.underlying5 Tryd.underlying9, h2]
      simp [Conv.bytesToString, loadCells]
      rfl
    | none =>
    exact run_convert_bytes_nil w 26 5 Tryd.underlying26 Tryd.underlying5 _ _ 9 Tryd.underlying9
  · rw [h1]
    exact run_convert_bytes_arg w 26 5 Tryd.underlying26 Tryd.underlying5 b off s.n s.c xs hl h3 9 Tryd.underlying9

theorem byte_inj {x y : Int} (hx : 0 ≤ x ∧ x ≤ 255) (hy : 0 ≤ y ∧ y ≤ 255) (h : UInt8.ofNat x.toNat = UInt8.ofNat y.toNat) : x = y := by
  have := congrArg UInt8.toNat h
  simp at this
  omega
theorem strOfNums_inj {xs ys : List Int} (hx : bytesR xs) (hy : bytesR ys) : strOfNums xs = strOfNums ys ↔ xs = ys := by
  constructor
  · intro h
    have h1 : (xs.map fun n => UInt8.ofNat n.toNat) = ys.map fun n => UInt8.ofNat n.toNat := by
      rw [← strOfNums_data, ← strOfNums_data, h]
    clear h
    induction xs generalizing ys with
    | nil => cases ys with | nil => rfl | cons y ys => simp at h1
    | cons x xs ih =>
      cases ys with
      | nil => simp at h1
      | cons y ys =>
        simp only [List.map_cons, List.cons.injEq] at h1
        rw [byte_inj (hx x (by simp)) (hy y (by simp)) h1.1, ih (fun z hz => hx z (by simp [hz])) (fun z hz => hy z (by simp [hz])) h1.2]
  · rintro rfl; rfl

theorem eqS (xs ys : List Int) (hx : bytesR xs) (hy : bytesR ys) : ((strOfNums xs).toList == (strOfNums ys).toList) = decide (xs = ys) := by
  rw [ByteArray.toList_eq, ByteArray.toList_eq, Bool.eq_iff_iff, beq_iff_eq, decide_eq_true_iff, ← strOfNums_inj hx hy]
  constructor
  · intro h
    have : (strOfNums xs).data = (strOfNums ys).data := Array.toList_inj.1 h
    cases hx : strOfNums xs; cases hy : strOfNums ys
    rw [hx, hy] at this
    simp only at this
    rw [this]
  · intro h; rw [h]

theorem bytesEqual_any (s t : Sl) (xs ys : List Int) (w : World) (hs : Bs w s xs) (ht : Bs w t ys) : Calls Tryd.prog 40 #[.slice s.a s.n s.c, .slice t.a t.n t.c] w (RB (.bool (decide (xs = ys))) w) := by
  have h1 := convert_bs hs
  have h2 := convert_bs ht
  have h3 := Lib.hid (eqS xs ys hs.rng ht.rng)
  go_enter Tryd.func40, Tryd.ntmps40
  go_wp2
  go_ret
  exact RB.mk' (by rw [← h3.out]; rfl) (Below.refl _ _)

theorem hasPrefix_any (s t : Sl) (xs ys : List Int) (w : World) (hs : Bs w s xs) (ht : Bs w t ys) (hm : s.n ≤ 140737488351232) (hm2 : t.n ≤ 140737488351232) : Calls Tryd.prog 41 #[.slice s.a s.n s.c, .slice t.a t.n t.c] w (RB (.bool (decide (ys <+: xs))) w) := by
  by_cases h : t.n ≤ s.n
  · have hcut : Bs w ⟨s.a, t.n, s.c⟩ (xs.take t.n) := by
      obtain ⟨hl, hle, hr, hat⟩ := hs
      refine ⟨by simp; omega, by simp; omega, fun x hx => hr x (List.mem_of_mem_take hx), ?_⟩
      rcases hat with ⟨h2, h3⟩ | ⟨b, off, h1, h2, h3⟩
      · exact .inl ⟨by simp; omega, h3⟩
      · refine .inr ⟨b, off, h1, h2, fun i hi => ?_⟩
        simp only at hi
        unfold bAt at *
        rw [h3 i (by omega), List.getD_eq_getElem?_getD, List.getD_eq_getElem?_getD, List.getElem?_take, if_pos hi]
    have heq : decide (xs.take t.n = ys) = decide (ys <+: xs) := by
      rw [decide_eq_decide, List.prefix_iff_eq_take, ht.len]
      exact eq_comm
    have hc := bytesEqual_any ⟨s.a, t.n, s.c⟩ t (xs.take t.n) ys
    replace hc := Lib.hid hc
    replace heq := Lib.hid heq
    have hle := hs.le
    have hd : decide (t.n ≤ s.n) = true := by simpa using h
    replace hcut := Lib.hid hcut
    obtain ⟨a, n, c⟩ := s
    simp only at *
    obtain ⟨hl, _, hr, hat⟩ := hs
    simp only at hl hat
    rcases hat with ⟨rfl, rfl⟩ | ⟨b, off, rfl, h2, h3⟩
    · have h0 : t.n = 0 := by omega
      obtain ⟨a', n', c'⟩ := t
      simp only at *
      subst h0
      go_enter Tryd.func41, Tryd.ntmps41
      go_wp2_with (go_at_call 40; refine (hc.out _ hcut.out ht).mono ?_; rintro e w1 ⟨rfl, hb⟩)
      go_ret
      exact RB.mk' (by rw [← heq.out, List.take_zero]; simp [eq_comm]) hb
    · have hx1 : t.n ≤ c := by omega
      go_enter Tryd.func41, Tryd.ntmps41
      go_wp2_with (go_at_call 40; refine (hc.out _ hcut.out ht).mono ?_; rintro e w1 ⟨rfl, hb⟩)
      go_ret
      exact RB.mk' (by rw [← heq.out]; rfl) hb
  · have hd : decide (t.n ≤ s.n) = false := by simpa using h
    have hp : decide (ys <+: xs) = false := by
      rw [decide_eq_false_iff_not]
      intro hp
      have := hp.length_le
      rw [hs.len, ht.len] at this
      exact h this
    rw [hp]
    clear hp h
    go_enter Tryd.func41, Tryd.ntmps41
    go_wp2
    go_ret
    exact RB.mk' rfl (Below.refl _ _)

theorem RB.drewN {v u : Value} {w : World} (n : Nat) (h : u = v) : RB v w (.returned u) (w.drewN n) := ⟨by rw [h], ⟨rfl, rfl, rfl, Nat.le_refl _, fun _ _ => rfl⟩⟩

theorem list_eq_iff (xs ys : List Int) (n : Nat) (hx : xs.length = n) (hy : ys.length = n) : xs = ys ↔ ∀ j, j < n → bAt xs j = bAt ys j := by
  constructor
  · rintro rfl; intros; rfl
  · intro h
    apply List.ext_getElem (by omega)
    intro i h1 h2
    have := h i (by omega)
    unfold bAt at this
    rwa [List.getD_eq_getElem?_getD, List.getD_eq_getElem?_getD, List.getElem?_eq_getElem h1, List.getElem?_eq_getElem h2] at this

set_option maxRecDepth 100000 in
theorem ref11same_any (s t : Sl) (xs ys : List Int) (w : World) (hs : Bs w s xs) (ht : Bs w t ys) (hm : s.n ≤ 140737488351232) (hm2 : t.n ≤ 140737488351232) : Calls Tryd.prog 50 #[.slice s.a s.n s.c, .slice t.a t.n t.c] w (RB (.bool (decide (xs = ys))) w) := by
  by_cases hne : s.n = t.n
  · obtain ⟨a, n, c⟩ := s
    obtain ⟨a', n', c'⟩ := t
    simp only at hne hm hm2 ⊢
    subst hne
    have hb1 : ((n : Int) != (n : Int)) = false := by simp
    have hex := list_eq_iff xs ys n hs.len ht.len
    replace hex := Lib.hid hex
    obtain ⟨_, hle, hr, hat⟩ := hs
    obtain ⟨_, hle', hr', hat'⟩ := ht
    simp only at hle hle' hat hat'
    have hall : (∀ j, j < n → bAt xs j = bAt ys j) → decide (xs = ys) = true := fun h => by rw [decide_eq_true_iff]; exact hex.out.2 h
    have hnot : ∀ j, j < n → bAt xs j ≠ bAt ys j → decide (xs = ys) = false := fun j hj h => by rw [decide_eq_false_iff_not]; intro he; exact h (hex.out.1 he j hj)
    generalize decide (xs = ys) = X at *
    replace hall := Lib.hid hall
    replace hnot := Lib.hid hnot
    have hcells : ∀ k, k < n → ∃ b o b' o', a = some ⟨b, o, none⟩ ∧ a' = some ⟨b', o', none⟩ ∧ w.cell? ⟨b, o + k, none⟩ = some (.int .u8 (bAt xs k)) ∧ w.cell? ⟨b', o' + k, none⟩ = some (.int .u8 (bAt ys k)) := by
      intro k hk
      rcases hat with ⟨h0, _⟩ | ⟨b, o, h1, _, h3⟩
      · omega
      rcases hat' with ⟨h0, _⟩ | ⟨b', o', h1', _, h3'⟩
      · omega
      exact ⟨b, o, b', o', h1, h1', h3 k hk, h3' k hk⟩
    replace hcells := Lib.hid hcells
    clear hat hat'
    go_enter Tryd.func50, Tryd.ntmps50
    go_wp2
    go_loopw [5] (fun i wr => ∃ k m : Nat, k ≤ n ∧ i = .int .i64 k ∧ Hid (∀ j, j < k → bAt xs j = bAt ys j) ∧ wr = w.drewN m) (fun i _ => n - (intOf i).toNat)
    case atStart => exact ⟨0, 0, by omega, rfl, fun j hj => by omega, rfl⟩
    case round =>
      obtain ⟨k, m, hk, rfl, hz, rfl⟩ := hrel
      by_cases hlt : k < n
      · obtain ⟨b, o, b', o', rfl, rfl, h3, h4⟩ := hcells.out k hlt
        by_cases he : bAt xs k = bAt ys k
        · have heb : (bAt xs k != bAt ys k) = false := by simpa using he
          replace he := Lib.hid he
          go_wp2
          go_quiet (fail)
          go_wp2
          go_roundw
          case rel => exact ⟨k + 1, _, by omega, by go_num, fun j hj => by by_cases e : j = k; (· subst e; exact he.out); (· exact hz.out j (by omega)), rfl⟩
          case measure => simp [intOf]; omega
        · have heb : (bAt xs k != bAt ys k) = true := by simpa using he
          replace he := Lib.hid he
          go_wp2
          go_quiet (fail)
          go_wp2
          go_ret
          exact ⟨by rw [hnot.out k hlt he.out]; rfl, ⟨rfl, rfl, rfl, Nat.le_refl _, fun _ _ => rfl⟩⟩
      · go_wp2
        go_ret
        exact RB.drewN _ (by rw [hall.out (fun j hj => hz.out j (by omega))]; rfl)
  · have hb1 : ((s.n : Int) != (t.n : Int)) = true := by simp; omega
    have hd : decide (xs = ys) = false := by
      rw [decide_eq_false_iff_not]
      rintro rfl
      exact hne (hs.len.symm.trans ht.len)
    rw [hd]
    clear hne hd
    go_enter Tryd.func50, Tryd.ntmps50
    go_wp2
    go_ret
    exact RB.mk' rfl (Below.refl _ _)
end Go.Proofs.YtleokgmflelkcaaDoor
namespace Go.Proofs.YtleokgmflelkcaaDoor
open Go Go.RowKit

/-- The table of shapes lies where the program's text lays it. -/
structure Sh (w : World) : Prop where
  c0 : w.cell? ⟨0, 0, none⟩ = some (.int .i64 1)
  c1 : w.cell? ⟨0, 1, none⟩ = some (.int .i64 2)
  lt : 0 < w.heap.size
theorem Sh.below {w w' : World} (h : Sh w) (hb : Below w.heap.size w w') : Sh w' :=
  ⟨by rw [hb.cell (p := ⟨0, 0, none⟩) h.lt]; exact h.c0, by rw [hb.cell (p := ⟨0, 1, none⟩) h.lt]; exact h.c1, Nat.lt_of_lt_of_le h.lt hb.size⟩

def shapeF (k : Int) : Int := if k = 0 then 1 else if k = 1 then 2 else 0

theorem shape_any (k : Int) (h0 : 0 ≤ k) (w : World) (hS : Sh w) : Calls Tryd.prog 75 #[.int .i64 k] w (RB (.int .i64 (shapeF k)) w) := by
  obtain ⟨c0, c1, _⟩ := hS
  by_cases k0 : k = 0
  · subst k0
    go_enter Tryd.func75, Tryd.ntmps75
    go_wp2
    go_ret
    exact RB.mk' rfl (Below.refl _ _)
  by_cases k1 : k = 1
  · subst k1
    go_enter Tryd.func75, Tryd.ntmps75
    go_wp2
    go_ret
    exact RB.mk' rfl (Below.refl _ _)
  have hf : shapeF k = 0 := by simp [shapeF, k0, k1]
  rw [hf]
  have hk : ¬ k < 2 := by omega
  clear k0 k1 hf
  go_enter Tryd.func75, Tryd.ntmps75
  go_wp2
  go_ret
  exact RB.mk' rfl (Below.refl _ _)

theorem emptyPred_any (c : Int) (w : World) : Calls Tryd.prog 97 #[.int .u8 c] w (RB (.bool (c != 0)) w) := by
  go_enter Tryd.func97, Tryd.ntmps97
  go_wp2
  go_ret
  exact RB.mk' rfl (Below.refl _ _)

/-- The first place whose byte is not 0; -1: there is none. -/
def idxNZ (xs : List Int) : Int := if zeros xs then -1 else (xs.findIdx (· != 0) : Nat)

theorem idxNZ_spec (xs : List Int) (k : Nat) (hk : k < xs.length) (hz : ∀ j, j < k → bAt xs j = 0) (hn : bAt xs k ≠ 0) : idxNZ xs = k := by
  unfold bAt at *
  have hz' : zeros xs = false := by
    rw [Bool.eq_false_iff]; intro h; exact hn ((zeros_iff xs).1 h k hk)
  unfold idxNZ
  rw [hz', if_neg (by simp)]
  congr 1
  rw [List.findIdx_eq hk]
  constructor
  · rw [List.getD_eq_getElem?_getD, List.getElem?_eq_getElem hk] at hn
    simpa using hn
  · intro j hj
    have := hz j hj
    rw [List.getD_eq_getElem?_getD, List.getElem?_eq_getElem (by omega)] at this
    simpa using this
theorem idxNZ_none (xs : List Int) (n : Nat) (hn : xs.length = n) (hz : ∀ j, j < n → bAt xs j = 0) : idxNZ xs = -1 := by
  unfold bAt at hz
  subst hn
  unfold idxNZ
  rw [if_pos ((zeros_iff xs).2 hz)]
theorem zeros_idx (xs : List Int) : (!decide (0 ≤ idxNZ xs)) = zeros xs := by
  unfold idxNZ
  by_cases h : zeros xs
  · rw [if_pos h, h]; rfl
  · rw [if_neg h]
    have h' : zeros xs = false := by simpa using h
    rw [h']
    simp

set_option maxRecDepth 100000 in
theorem indexFuncB_any (s : Sl) (xs : List Int) (w : World) (hs : Bs w s xs) (hm : s.n ≤ 140737488351232) : Calls Tryd.prog 107 #[.slice s.a s.n s.c, .func (.func 97) #[] #[]] w (RB (.int .i64 (idxNZ xs)) w) := by
  obtain ⟨a, n, c⟩ := s
  simp only at hm ⊢
  obtain ⟨hl, hle, hr, hat⟩ := hs
  simp only at hl hle hat
  have hnone : (∀ j, j < n → bAt xs j = 0) → idxNZ xs = -1 := idxNZ_none xs n hl
  have hsome : ∀ k, k < n → (∀ j, j < k → bAt xs j = 0) → bAt xs k ≠ 0 → idxNZ xs = k := fun k hk => idxNZ_spec xs k (by omega)
  generalize idxNZ xs = X at *
  replace hnone := Lib.hid hnone
  replace hsome := Lib.hid hsome
  have hcells : ∀ k, k < n → ∃ b o, a = some ⟨b, o, none⟩ ∧ b < w.heap.size ∧ w.cell? ⟨b, o + k, none⟩ = some (.int .u8 (bAt xs k)) := by
    intro k hk
    rcases hat with ⟨h0, _⟩ | ⟨b, o, h1, h2, h3⟩
    · omega
    exact ⟨b, o, h1, h2, h3 k hk⟩
  replace hcells := Lib.hid hcells
  clear hat hl
  go_enter Tryd.func107, Tryd.ntmps107
  go_wp2
  go_loopw [5, 8] (fun _ i wr => ∃ k : Nat, k ≤ n ∧ i = .int .i64 k ∧ Hid (∀ j, j < k → bAt xs j = 0) ∧ Below w.heap.size w wr) (fun _ i _ => n - (intOf i).toNat)
  case atStart => exact ⟨0, by omega, rfl, fun j hj => by omega, Below.refl _ _⟩
  case round =>
    obtain ⟨k, hk, rfl, hz, hB⟩ := hrel
    by_cases hlt : k < n
    · obtain ⟨b, o, rfl, hbb, h3⟩ := hcells.out k hlt
      have h3' := (hB.cell (p := ⟨b, o + k, none⟩) hbb).trans h3
      clear h3
      cases he : (bAt xs k != 0)
      · have he' := Lib.hid (show bAt xs k = 0 by simpa using he)
        go_wp2_with (go_at_call 97; refine (emptyPred_any _ _).mono ?_; rintro e w1 ⟨rfl, hb⟩; have hB := hB.trans (hb.mono hB.size); clear hb)
        go_roundw
        case rel => exact ⟨k + 1, by omega, by go_num, fun j hj => by by_cases e : j = k; (· subst e; exact he'.out); (· exact hz.out j (by omega)), hB⟩
        case measure => simp [intOf]; omega
      · have he' := Lib.hid (show bAt xs k ≠ 0 by simpa using he)
        go_wp2_with (go_at_call 97; refine (emptyPred_any _ _).mono ?_; rintro e w1 ⟨rfl, hb⟩; have hB := hB.trans (hb.mono hB.size); clear hb)
        go_ret
        exact RB.mk' (by rw [hsome.out k hlt hz.out he'.out]; rfl) hB
    · go_wp2
      go_ret
      exact RB.mk' (by rw [hnone.out (fun j hj => hz.out j (by omega))]; rfl) hB

theorem containsFuncB_any (s : Sl) (xs : List Int) (w : World) (hs : Bs w s xs) (hm : s.n ≤ 140737488351232) : Calls Tryd.prog 96 #[.slice s.a s.n s.c, .func (.func 97) #[] #[]] w (RB (.bool (decide (0 ≤ idxNZ xs))) w) := by
  go_enter Tryd.func96, Tryd.ntmps96
  go_wp2_with (go_at_call 107; refine (indexFuncB_any s xs _ hs hm).mono ?_; rintro e w1 ⟨rfl, hb⟩)
  go_ret
  exact RB.mk' rfl hb

theorem empty_any (s : Sl) (xs : List Int) (w : World) (hs : Bs w s xs) (hm : s.n ≤ 140737488351232) : Calls Tryd.prog 76 #[.slice s.a s.n s.c] w (RB (.bool (zeros xs)) w) := by
  have hz := Lib.hid (zeros_idx xs)
  go_enter Tryd.func76, Tryd.ntmps76
  go_wp2_with (go_at_call 96; refine (containsFuncB_any s xs _ hs hm).mono ?_; rintro e w1 ⟨rfl, hb⟩)
  go_ret
  exact RB.mk' (by rw [← hz.out]; rfl) hb
end Go.Proofs.YtleokgmflelkcaaDoor
