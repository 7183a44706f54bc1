/- Plain lists: options as the chapter parses, checks, lays and carries them. opts.Parse and opts.Valid. The reference's own check of options. -/
import Derived.Test.YtleokgmflelkcaaDoorVA3
set_option linter.unusedSimpArgs false
set_option linter.unusedVariables false
namespace Go.Proofs.YtleokgmflelkcaaDoor
open Go

abbrev OptL := Int × List Int

def parseO (xs : List Int) : Option (List OptL) :=
  match xs with
  | [] => some []
  | k :: r =>
    if k = 0 then (if zeros (k :: r) then some [] else none)
    else if k = 1 then (parseO r).map ((1, []) :: ·)
    else match r with
      | [] => none
      | n :: d => if n < 2 ∨ n > d.length + 2 then none else (parseO (d.drop (n.toNat - 2))).map ((k, d.take (n.toNat - 2)) :: ·)
termination_by xs.length
decreasing_by all_goals (simp_wf; try omega)

theorem parse_cons (k : Int) (r : List Int) : parseO (k :: r) = if k = 0 then (if zeros (k :: r) then some [] else none)
    else if k = 1 then (parseO r).map ((1, []) :: ·)
    else match r with
      | [] => none
      | n :: d => if n < 2 ∨ n > d.length + 2 then none else (parseO (d.drop (n.toNat - 2))).map ((k, d.take (n.toNat - 2)) :: ·) := by rw [parseO.eq_def]
theorem parse_nil : parseO [] = some [] := by rw [parseO]

theorem drop_bAt (xs : List Int) (k : Nat) (h : k < xs.length) : xs.drop k = bAt xs k :: xs.drop (k + 1) := by
  unfold bAt
  rw [List.drop_eq_getElem_cons h, List.getD_eq_getElem?_getD, List.getElem?_eq_getElem h]; rfl

/-- What is left to parse from a place on. -/
def restO (xs : List Int) (k : Nat) : Option (List OptL) := parseO (xs.drop k)

theorem rest_end (xs : List Int) (k : Nat) (h : xs.length ≤ k) : restO xs k = some [] := by
  unfold restO; rw [List.drop_eq_nil_of_le h, parse_nil]
theorem rest_zero (xs : List Int) (k : Nat) (h : k < xs.length) (h0 : bAt xs k = 0) : restO xs k = if zeros (xs.drop k) then some [] else none := by
  unfold restO
  rw [drop_bAt xs k h, parse_cons, if_pos h0]
theorem rest_one (xs : List Int) (k : Nat) (h : k < xs.length) (h1 : bAt xs k = 1) : restO xs k = (restO xs (k + 1)).map ((1, []) :: ·) := by
  unfold restO
  rw [drop_bAt xs k h, parse_cons, if_neg (by rw [h1]; decide), if_pos h1]
theorem rest_last (xs : List Int) (k : Nat) (h : k + 1 = xs.length) (h0 : bAt xs k ≠ 0) (h1 : bAt xs k ≠ 1) : restO xs k = none := by
  unfold restO
  rw [drop_bAt xs k (by omega), List.drop_eq_nil_of_le (by omega), parse_cons, if_neg h0, if_neg h1]
theorem rest_bad (xs : List Int) (k : Nat) (h : k + 1 < xs.length) (h0 : bAt xs k ≠ 0) (h1 : bAt xs k ≠ 1) (hn : bAt xs (k + 1) < 2 ∨ bAt xs (k + 1) > (xs.length : Int) - k) : restO xs k = none := by
  unfold restO
  rw [drop_bAt xs k (by omega), drop_bAt xs (k + 1) h, parse_cons, if_neg h0, if_neg h1]
  dsimp only
  rw [if_pos]
  simp only [List.length_drop]
  omega
theorem rest_long (xs : List Int) (k n : Nat) (h : k + 1 < xs.length) (h0 : bAt xs k ≠ 0) (h1 : bAt xs k ≠ 1) (hn : bAt xs (k + 1) = n) (h2 : 2 ≤ n) (h3 : k + n ≤ xs.length) :
    restO xs k = (restO xs (k + n)).map ((bAt xs k, (xs.drop (k + 2)).take (n - 2)) :: ·) := by
  unfold restO
  rw [drop_bAt xs k (by omega), drop_bAt xs (k + 1) h, parse_cons, if_neg h0, if_neg h1]
  dsimp only
  rw [if_neg (by simp only [List.length_drop]; omega), hn]
  have e : xs.drop (k + n) = (xs.drop (k + 1 + 1)).drop ((n : Int).toNat - 2) := by
    rw [List.drop_drop]; congr 1; omega
  rw [e]
  have e2 : (n : Int).toNat - 2 = n - 2 := by omega
  rw [e2]

def validO (xs : List Int) : Bool := decide (xs.length ≤ 40) && decide (xs.length % 4 = 0) && (parseO xs).isSome
end Go.Proofs.YtleokgmflelkcaaDoor
namespace Go.Proofs.YtleokgmflelkcaaDoor
open Go Go.RowKit

def optCell (o : OptL) (s : Sl) : List Value := [.int .i64 o.1, .slice s.a s.n s.c]
def optCells : List OptL → List Sl → List Value
  | o :: l, s :: ss => optCell o s ++ optCells l ss
  | _, _ => []
theorem optCells_snoc : ∀ (l : List OptL) (ss : List Sl) (o : OptL) (s : Sl), ss.length = l.length → optCells (l ++ [o]) (ss ++ [s]) = optCells l ss ++ optCell o s
  | [], [], o, s, _ => by simp [optCells]
  | a :: l, b :: ss, o, s, h => by
    simp only [List.cons_append, optCells]
    rw [optCells_snoc l ss o s (by simpa using h), List.append_assoc]

/-- v is a row of options of the call's own (from block B on), n of them: these. -/
def OptRow (B : Nat) (w : World) (v : Value) (n : Nat) (l : List OptL) : Prop :=
  ∃ ss : List Sl, ss.length = l.length ∧ n = l.length ∧ w.ownsRow B 75 2 v n (optCells l ss) ∧ ∀ (i : Nat) (s : Sl) (o : OptL), ss[i]? = some s → l[i]? = some o → Own B w s o.2

theorem OptRow.nil (B : Nat) (w : World) : OptRow B w (.slice none 0 0) 0 [] := ⟨[], rfl, rfl, ⟨rfl, .inl ⟨rfl, rfl⟩⟩, fun i s o h => by simp at h⟩

/-- Two rows of unlike elements do not share a block. -/
theorem own_ne {B B' : Nat} {w : World} {s : Sl} {xs : List Int} (h : Own B w s xs) {v : Value} {n : Nat} {cs : List Value} (hv : w.ownsRow B' 75 2 v n cs) : (Value.slice s.a s.n s.c).ownBlock = none ∨ (Value.slice s.a s.n s.c).ownBlock ≠ v.ownBlock := by
  obtain ⟨⟨_, h2⟩, _⟩ := h
  obtain ⟨_, h4⟩ := hv
  rcases h2 with ⟨hv, _⟩ | ⟨g, cap, cur, hv, _, hh, _⟩
  · rw [hv]; exact .inl rfl
  · right
    rw [hv]
    rcases h4 with ⟨hv', _⟩ | ⟨g', cap', cur', hv', _, hh', _⟩
    · rw [hv']; simp [Value.ownBlock]
    · rw [hv']
      simp only [Value.ownBlock, ne_eq, Option.some.injEq]
      rintro rfl
      rw [hh] at hh'
      simp at hh'
theorem Own.kept {B : Nat} {w w' : World} {s : Sl} {xs : List Int} (h : Own B w s xs) {row : Option Nat} (hg : w.grownBy w' row) (hne : (Value.slice s.a s.n s.c).ownBlock = none ∨ (Value.slice s.a s.n s.c).ownBlock ≠ row) : Own B w' s xs :=
  ⟨h.1.kept hg hne, h.2⟩
theorem Own.below {B : Nat} {w w' : World} {s : Sl} {xs : List Int} (h : Own B w s xs) (hb : Below w.heap.size w w') : Own B w' s xs := by
  obtain ⟨⟨h1, h2⟩, hr⟩ := h
  refine ⟨⟨h1, ?_⟩, hr⟩
  rcases h2 with h2 | ⟨g, cap, cur, hv, hg, hh, r⟩
  · exact .inl h2
  · exact .inr ⟨g, cap, cur, hv, hg, by rw [hb.block g (Array.getElem?_eq_some_iff.1 hh).1]; exact hh, r⟩
theorem ownsRow_below {B : Nat} {w w' : World} {e : TypeId} {size : Nat} {v : Value} {n : Nat} {xs : List Value} (h : w.ownsRow B e size v n xs) (hb : Below w.heap.size w w') : w'.ownsRow B e size v n xs := by
  obtain ⟨h1, h2⟩ := h
  refine ⟨h1, ?_⟩
  rcases h2 with h2 | ⟨g, cap, cur, hv, hg, hh, r⟩
  · exact .inl h2
  · exact .inr ⟨g, cap, cur, hv, hg, by rw [hb.block g (Array.getElem?_eq_some_iff.1 hh).1]; exact hh, r⟩
theorem ownsRow_mono {B B' : Nat} {w : World} {e : TypeId} {size : Nat} {v : Value} {n : Nat} {xs : List Value} (h : w.ownsRow B e size v n xs) (hb : B' ≤ B) : w.ownsRow B' e size v n xs := by
  obtain ⟨h1, h2⟩ := h
  refine ⟨h1, ?_⟩
  rcases h2 with h2 | ⟨g, cap, cur, hv, hg, hh, r⟩
  · exact .inl h2
  · exact .inr ⟨g, cap, cur, hv, Nat.le_trans hb hg, hh, r⟩
theorem Own.mono {B B' : Nat} {w : World} {s : Sl} {xs : List Int} (h : Own B w s xs) (hb : B' ≤ B) : Own B' w s xs := ⟨ownsRow_mono h.1 hb, h.2⟩
theorem OptRow.below {B : Nat} {w w' : World} {v : Value} {n : Nat} {l : List OptL} (h : OptRow B w v n l) (hb : Below w.heap.size w w') : OptRow B w' v n l := by
  obtain ⟨ss, h1, h2, h3, h4⟩ := h
  exact ⟨ss, h1, h2, ownsRow_below h3 hb, fun i s o hs ho => (h4 i s o hs ho).below hb⟩
theorem OptRow.mono {B B' : Nat} {w : World} {v : Value} {n : Nat} {l : List OptL} (h : OptRow B w v n l) (hb : B' ≤ B) : OptRow B' w v n l := by
  obtain ⟨ss, h1, h2, h3, h4⟩ := h
  exact ⟨ss, h1, h2, ownsRow_mono h3 hb, fun i s o hs ho => (h4 i s o hs ho).mono hb⟩

/-- One option more, behind 'append'. -/
theorem OptRow.snoc {B : Nat} {w w' : World} {v v' : Value} {n : Nat} {l : List OptL} {ss : List Sl} {o : OptL} {s : Sl} (hr : w.ownsRow B 75 2 v n (optCells l ss)) (hss : ss.length = l.length) (hn : n = l.length)
    (ho : ∀ (i : Nat) (s : Sl) (o : OptL), ss[i]? = some s → l[i]? = some o → Own B w s o.2) (hs : Own B w s o.2)
    (hown : w'.ownsRow B 75 2 v' (n + 1) (optCells l ss ++ optCell o s)) (hg : w.grownBy w' v.ownBlock) : OptRow B w' v' (n + 1) (l ++ [o]) := by
  refine ⟨ss ++ [s], by simp [hss], by simp [hn], by rw [optCells_snoc l ss o s hss]; exact hown, fun i s' o' h1 h2 => ?_⟩
  by_cases hi : i < l.length
  · rw [List.getElem?_append_left (by omega)] at h1 h2
    have h := ho i s' o' h1 h2
    exact h.kept hg (own_ne h hr)
  · have hi' : i = l.length := by
      have := (List.getElem?_eq_some_iff.1 h2).1
      simp at this
      omega
    subst hi'
    rw [List.getElem?_append_right (by omega)] at h1 h2
    simp [hss] at h1 h2
    subst h1; subst h2
    exact hs.kept hg (own_ne hs hr)

theorem info75 : (Tryd.prog.info? 75).map (fun i => (i.zero.map (·.cells.size), i.size, i.bytes)) = some (some 2, 2, 32) := by kernel_rfl

theorem ownBlock_ge {B : Nat} {w : World} {e : TypeId} {size : Nat} {v : Value} {n : Nat} {xs : List Value} (h : w.ownsRow B e size v n xs) : ∀ k, v.ownBlock = some k → B ≤ k := by
  intro k hk
  rcases h.2 with ⟨hv, _⟩ | ⟨g, cap, cur, hv, hg, _⟩
  · rw [hv] at hk; cases hk
  · rw [hv] at hk
    have : g = k := by simpa [Value.ownBlock] using hk
    omega

theorem wpList_append_opt {W : World} {ops : Array Oper} {rest : List Oper} {o : Oper} {a : Act} {Q : Exit → Act → World → Prop} (hgd : o.guard = none) (sx x : Operand)
    (ho : o.op = .call { callee := .builtin .append, args := #[sx, x], argTypes := #[70, 70] }) (B : Nat) (v : Value) (n : Nat) (l : List OptL) (hs : a.eval sx = v) (hrow : OptRow B W v n l)
    (op : OptL) (s : Sl) (g : Nat) (hx : a.eval x = .slice (some ⟨g, 0, none⟩) 1 1) (hc : W.heap[g]? = some (.cells (optCell op s).toArray 75)) (hs' : Own B W s op.2) (hn : n ≤ 1000) (hB : B ≤ W.heap.size)
    (h : ∀ v' w', OptRow B w' v' (n + 1) (l ++ [op]) → Below B W w' → wpList Tryd.prog ops Q rest (a.put o.dst v') w') : wpList Tryd.prog ops Q (o :: rest) a W := by
  obtain ⟨ss, h1, h2, h3, h4⟩ := hrow
  have hinf := info75
  cases hi : Tryd.prog.info? 75 with
  | none => rw [hi] at hinf; cases hinf
  | some i0 =>
    rw [hi] at hinf
    simp only [Option.map_some, Option.some.injEq, Prod.mk.injEq] at hinf
    obtain ⟨hz, hsz, hby⟩ := hinf
    cases hz0 : i0.zero with
    | none => rw [hz0] at hz; cases hz
    | some z =>
      rw [hz0] at hz
      simp only [Option.map_some, Option.some.injEq] at hz
      refine wpList_append_own W hgd sx x 70 ho B 75 i0 z 2 32 Tryd.underlying70 hi hz0 hsz hby hz (by decide) v n _ hs h3 ⟨g, 0, none⟩ 1 1 (optCell op s) hx rfl ?_ ?_ (by unfold maxLen; omega) (by omega) hB
        (fun v' w' h5 h6 _ => h v' w' (OptRow.snoc h3 h1 h2 h4 hs' h5 h6) ((Below.refl _ _).grown h6 hB (ownBlock_ge h3)))
      · intro j u hu
        have hj : j < 2 := by have := (List.getElem?_eq_some_iff.1 hu).1; simpa [optCell] using this
        have hadd : (⟨g, 0, none⟩ : Addr).add j = ⟨g, j, none⟩ := by unfold Addr.add; split <;> simp_all
        rw [hadd]
        simp only [World.cell?, hc, Option.isSome_none, Bool.false_eq_true, if_false]
        rw [← hu]; simp
      · intro u hu
        simp only [optCell, List.mem_cons, List.not_mem_nil, or_false] at hu
        rcases hu with rfl | rfl <;> rfl

theorem OptRow.alloc {B : Nat} {w : World} {v : Value} {n : Nat} {l : List OptL} (h : OptRow B w v n l) (o : Obj) : OptRow B (w.alloc o) v n l := h.below ((Below.refl _ _).alloc (Nat.le_refl _) _)
theorem Own.alloc {B : Nat} {w : World} {s : Sl} {xs : List Int} (h : Own B w s xs) (o : Obj) : Own B (w.alloc o) s xs := h.below ((Below.refl _ _).alloc (Nat.le_refl _) _)
theorem own_nil (B : Nat) (w : World) : Own B w ⟨none, 0, 0⟩ [] := ⟨⟨rfl, .inl ⟨rfl, rfl⟩⟩, fun x h => by cases h⟩
theorem size_le_alloc {B : Nat} {w : World} (h : B ≤ w.heap.size) (o : Obj) : B ≤ (w.alloc o).heap.size := by simp; omega

/-- What Parse answers. -/
def RP (r : Option (List OptL)) (w : World) (e : Ending) (w' : World) : Prop :=
  ∃ v n, e = .returned (.tuple #[v, .int .i64 (if r.isSome then 0 else 40)]) ∧ (∀ l, r = some l → OptRow w.heap.size w' v n l) ∧ Below w.heap.size w w'

def ParseRel (xs : List Int) (w : World) (out i : Value) (wr : World) : Prop :=
  ∃ (k n : Nat) (l : List OptL), i = .int .i64 k ∧ k ≤ xs.length ∧ n ≤ k ∧ OptRow w.heap.size wr out n l ∧ parseO xs = (restO xs k).map (l ++ ·) ∧ Below w.heap.size w wr

theorem Bs.drop {w : World} {b o n c : Nat} {xs : List Int} (h : Bs w ⟨some ⟨b, o, none⟩, n, c⟩ xs) (k : Nat) (hk : k ≤ n) : Bs w ⟨some ⟨b, o + k, none⟩, n - k, c - k⟩ (xs.drop k) := by
  obtain ⟨hl, hle, hr, hat⟩ := h
  simp only at hl hle hat
  rcases hat with ⟨h0, h0'⟩ | ⟨b', o', h1, h2, h3⟩
  · exact ⟨by simp; omega, by simp; omega, fun x hx => hr x (List.mem_of_mem_drop hx), .inl ⟨by simp; omega, by simp; omega⟩⟩
  · cases h1
    refine ⟨by simp; omega, by simp; omega, fun x hx => hr x (List.mem_of_mem_drop hx), .inr ⟨b, o + k, rfl, h2, fun i hi => ?_⟩⟩
    simp only at hi
    have := h3 (k + i) (by omega)
    rw [Nat.add_assoc, this]
    unfold bAt
    simp [List.getD_eq_getElem?_getD, List.getElem?_drop]
theorem Bs.take {w : World} {a : Option Addr} {n c : Nat} {xs : List Int} (h : Bs w ⟨a, n, c⟩ xs) (k : Nat) (hk : k ≤ n) : Bs w ⟨a, k, c⟩ (xs.take k) := by
  obtain ⟨hl, hle, hr, hat⟩ := h
  simp only at hl hle hat
  refine ⟨by simp; omega, by simp; omega, fun x hx => hr x (List.mem_of_mem_take hx), ?_⟩
  rcases hat with ⟨h1, h2⟩ | ⟨b', o', h1, h2, h3⟩
  · exact .inl ⟨by simp; omega, h2⟩
  · refine .inr ⟨b', o', h1, h2, fun i hi => ?_⟩
    simp only at hi
    rw [h3 i (by omega)]
    unfold bAt
    rw [List.getD_eq_getElem?_getD, List.getD_eq_getElem?_getD, List.getElem?_take, if_pos hi]

set_option maxRecDepth 100000 in
set_option maxHeartbeats 1000000 in
theorem parse_any (s : Sl) (xs : List Int) (w : World) (hs : Bs w s xs) (hm : s.n ≤ 40) (hS : Sh w) : Calls Tryd.prog 55 #[.slice s.a s.n s.c] w (RP (parseO xs) w) := by
  obtain ⟨a, n, c⟩ := s
  simp only at hm ⊢
  have hbs := Lib.hid hs
  obtain ⟨hl, hle, hr, hat⟩ := hs
  simp only at hl hle hat
  have hat := Lib.hid hat
  replace hl := Lib.hid hl
  go_enter Tryd.func55, Tryd.ntmps55
  go_wp2
  go_step3
  go_wp2
  go_step3
  go_wp2
  go_loopw [4, 5] (fun out i wr => ParseRel xs w out i wr) (fun _ i _ => n - (intOf i).toNat)
  case atStart => exact ⟨0, 0, [], rfl, by omega, by omega, OptRow.nil _ _, by simp [restO], Below.refl _ _⟩
  case round =>
    obtain ⟨k, m, l, rfl, hk, hmk, hrow, hp, hB⟩ := hrel
    rw [hl.out] at hk
    replace hp := Lib.hid hp
    rename_i wr
    by_cases hlt : k < n
    · have hkl := Lib.hid (show k < xs.length by rw [hl.out]; exact hlt)
      have hrg := bytesR_get hr k
      have hSr := Lib.hid (hS.below hB)
      obtain ⟨b, o, rfl, hbb, h3⟩ : ∃ b o, a = some ⟨b, o, none⟩ ∧ b < w.heap.size ∧ ∀ k, k < n → w.cell? ⟨b, o + k, none⟩ = some (.int .u8 (bAt xs k)) := by
        rcases hat.out with ⟨h0, _⟩ | ⟨b, o, h1, h2, h3⟩
        · omega
        exact ⟨b, o, h1, h2, h3⟩
      have h3' := (hB.cell (p := ⟨b, o + k, none⟩) hbb).trans (h3 k hlt)
      replace h3 := Lib.hid h3
      have hcut := Lib.hid (hbs.out.drop k (by omega))
      have hck : ¬ c = k := by omega
      by_cases h0 : bAt xs k = 0
      · rw [h0] at h3' hrg
        have hsh : shapeF 0 = 1 := rfl
        have hrz := Lib.hid (rest_zero xs k hkl.out h0)
        clear h0
        cases hz : zeros (xs.drop k)
        · have hfin := Lib.hid (show parseO xs = none by rw [hp.out, hrz.out, hz]; rfl)
          go_wp2_with (first | (go_at_call 75; refine (shape_any _ (by decide) _ hSr.out).mono ?_; rintro e w1 ⟨rfl, hb⟩; have hB := hB.trans (hb.mono hB.size); clear hb) | (go_at_call 76; refine (empty_any _ _ _ (hcut.out.below hB) (by simp only; omega)).mono ?_; rintro e w1 ⟨rfl, hb⟩; have hB := hB.trans (hb.mono hB.size); clear hb))
          rw [Exit.noGoto_ret]
          go_ret2
          rw [hfin.out]
          exact ⟨_, 0, rfl, (fun l' hl' => by cases hl'), hB⟩
        · have hfin := Lib.hid (show parseO xs = some l by rw [hp.out, hrz.out, hz]; simp)
          go_wp2_with (first | (go_at_call 75; refine (shape_any _ (by decide) _ hSr.out).mono ?_; rintro e w1 ⟨rfl, hb⟩; have hrow := hrow.below hb; have hB := hB.trans (hb.mono hB.size); clear hb) | (go_at_call 76; refine (empty_any _ _ _ (hcut.out.below hB) (by simp only; omega)).mono ?_; rintro e w1 ⟨rfl, hb⟩; have hrow := hrow.below hb; have hB := hB.trans (hb.mono hB.size); clear hb))
          rw [Exit.noGoto_ret]
          go_ret2
          rw [hfin.out]
          exact ⟨_, m, rfl, fun l' hl' => by cases hl'; exact hrow, hB⟩
      by_cases h1 : bAt xs k = 1
      · rw [h1] at h3' hrg
        have hsh : shapeF 1 = 2 := rfl
        have hm1 : m ≤ 1000 := by omega
        have hrz := Lib.hid (rest_one xs k hkl.out h1)
        have hfin := Lib.hid (show parseO xs = (restO xs (k + 1)).map ((l ++ [(1, [])]) ++ ·) by rw [hp.out, hrz.out, Option.map_map]; congr 1; funext z; simp)
        clear h0 h1
        go_wp2_with (first | (go_at_call 75; refine (shape_any _ (by decide) _ hSr.out).mono ?_; rintro e w1 ⟨rfl, hb⟩; have hrow := hrow.below hb; have hB := hB.trans (hb.mono hB.size); clear hb) | (at_builtin; refine wpList_append_opt rfl _ _ rfl w.heap.size _ m l rfl (hrow.alloc _) (1, []) ⟨none, 0, 0⟩ _ rfl (heap_alloc_new _ _) (own_nil _ _) hm1 (size_le_alloc hB.size _) ?_; intro v' w2 hrow2 hb2; have hB := (hB.alloc hB.size _).trans hb2; clear hb2))
        go_roundw
        case rel => exact ⟨k + 1, m + 1, l ++ [(1, [])], by go_num, by have := hkl.out; omega, by omega, hrow2, hfin.out, hB⟩
        case measure => simp [intOf]; omega
      have hsh : shapeF (bAt xs k) = 0 := by simp [shapeF, h0, h1]
      by_cases hk1 : k + 1 < n
      · have hrl := Lib.hid (rest_long xs k)
        have hrb := Lib.hid (rest_bad xs k (by rw [hl.out]; exact hk1) h0 h1)
        have hrg2 := bytesR_get hr (k + 1)
        have hlt1 : (k : Int) + 1 < n := by omega
        have h01 := Lib.hid (And.intro h0 h1)
        have hN := Lib.hid (rfl : bAt xs (k + 1) = bAt xs (k + 1))
        have hK := Lib.hid (rfl : bAt xs k = bAt xs k)
        clear h0 h1
        obtain ⟨hN0, hN1⟩ := hrg2
        by_cases hbad : bAt xs (k + 1) < 2 ∨ bAt xs (k + 1) > (n : Int) - k
        · have hfin := Lib.hid (show parseO xs = none by rw [hp.out, hrb.out (by rw [hl.out]; exact hbad)]; rfl)
          by_cases hN2 : bAt xs (k + 1) < 2
          · clear hbad
            go_wp2_with (first | (go_at_call 75; refine (shape_any _ hrg.1 _ hSr.out).mono ?_; rintro e w1 ⟨rfl, hb⟩; have hrow := hrow.below hb; have hB := hB.trans (hb.mono hB.size); have h4 := (hB.cell (p := ⟨b, o + (k + 1), none⟩) hbb).trans (h3.out (k + 1) hk1); clear hb))
            rw [Exit.noGoto_ret]
            go_ret2
            rw [hfin.out]
            exact ⟨_, 0, rfl, (fun l' hl' => by cases hl'), hB⟩
          · have hN3 : (n : Int) - k < bAt xs (k + 1) := by omega
            have hN4 : 2 ≤ bAt xs (k + 1) := by omega
            clear hbad hN2
            go_wp2_with (first | (go_at_call 75; refine (shape_any _ hrg.1 _ hSr.out).mono ?_; rintro e w1 ⟨rfl, hb⟩; have hrow := hrow.below hb; have hB := hB.trans (hb.mono hB.size); have h4 := (hB.cell (p := ⟨b, o + (k + 1), none⟩) hbb).trans (h3.out (k + 1) hk1); clear hb))
            rw [Exit.noGoto_ret]
            go_ret2
            rw [hfin.out]
            exact ⟨_, 0, rfl, (fun l' hl' => by cases hl'), hB⟩
        · have hN2 : 2 ≤ bAt xs (k + 1) := by omega
          have hN3 : bAt xs (k + 1) ≤ (n : Int) - k := by omega
          clear hbad hrb
          obtain ⟨j, hj⟩ : ∃ j : Nat, bAt xs (k + 1) = j := ⟨(bAt xs (k + 1)).toNat, by omega⟩
          have hj2 : 2 ≤ j := by omega
          have hj3 : k + j ≤ n := by omega
          have hj4 : (j : Int) ≤ 255 := by omega
          have hfin := Lib.hid (show parseO xs = (restO xs (k + j)).map ((l ++ [(bAt xs k, (xs.drop (k + 2)).take (j - 2))]) ++ ·) by
            have := hrl.out j (by rw [hl.out]; exact hk1) h01.out.1 h01.out.2 hj hj2 (by rw [hl.out]; exact hj3)
            rw [hp.out, this, Option.map_map]; congr 1; funext z; simp)
          have h3j := Lib.hid (show w.cell? ⟨b, o + (k + 1), none⟩ = some (.int .u8 j) by rw [h3.out (k + 1) hk1, hj])
          have hm1 : m ≤ 1000 := by omega
          clear hj hrl hN0 hN1 hN2 hN3 hN
          have hsn := Lib.hid (show k + j - (k + 2) ≤ 140737488351232 by omega)
          by_cases hc2 : c = k + 2
          · have hsub := Lib.hid (show Bs w ⟨some ⟨b, o, none⟩, k + j - (k + 2), 0⟩ ((xs.drop (k + 2)).take (j - 2)) by
              have e : j = 2 := by omega
              subst e
              exact ⟨by simp, by simp, fun x hx => by simp at hx, .inr ⟨b, o, rfl, hbb, fun i hi => by simp at hi⟩⟩)
            subst hc2
            go_wp2_with (first | (go_at_call 75; refine (shape_any _ hrg.1 _ hSr.out).mono ?_; rintro e w1 ⟨rfl, hb⟩; have hrow := hrow.below hb; have hB := hB.trans (hb.mono hB.size); have h4 := (hB.cell (p := ⟨b, o + (k + 1), none⟩) hbb).trans (h3j.out); clear hb) | (go_at_call 61; refine (clone_any ⟨some ⟨b, o, none⟩, k + j - (k + 2), 0⟩ ((xs.drop (k + 2)).take (j - 2)) _ (hsub.out.below hB) hsn.out).mono ?_; rintro e w1 ⟨s', rfl, hown, hb⟩; have hrow := hrow.below hb; have hown := hown.mono hB.size; have hB := hB.trans (hb.mono hB.size); clear hb) | (at_builtin; refine wpList_append_opt rfl _ _ rfl w.heap.size _ m l rfl (hrow.alloc _) (bAt xs k, (xs.drop (k + 2)).take (j - 2)) s' _ rfl (heap_alloc_new _ _) (hown.alloc _) hm1 (size_le_alloc hB.size _) ?_; intro v' w2 hrow2 hb2; have hB := (hB.alloc hB.size _).trans hb2; clear hb2))
            go_roundw
            case rel => exact ⟨k + j, m + 1, _, by go_num, by rw [hl.out]; exact hj3, by omega, hrow2, hfin.out, hB⟩
            case measure => simp [intOf]; omega
          · have hsub := Lib.hid (show Bs w ⟨some ⟨b, o + (k + 2), none⟩, k + j - (k + 2), c - (k + 2)⟩ ((xs.drop (k + 2)).take (j - 2)) by
              have h1 := hbs.out.drop (k + 2) (by omega)
              have h2 := h1.take (j - 2) (by omega)
              have e : k + j - (k + 2) = j - 2 := by omega
              rw [e]; exact h2)
            go_wp2_with (first | (go_at_call 75; refine (shape_any _ hrg.1 _ hSr.out).mono ?_; rintro e w1 ⟨rfl, hb⟩; have hrow := hrow.below hb; have hB := hB.trans (hb.mono hB.size); have h4 := (hB.cell (p := ⟨b, o + (k + 1), none⟩) hbb).trans (h3j.out); clear hb) | (go_at_call 61; refine (clone_any ⟨some ⟨b, o + (k + 2), none⟩, k + j - (k + 2), c - (k + 2)⟩ ((xs.drop (k + 2)).take (j - 2)) _ (hsub.out.below hB) hsn.out).mono ?_; rintro e w1 ⟨s', rfl, hown, hb⟩; have hrow := hrow.below hb; have hown := hown.mono hB.size; have hB := hB.trans (hb.mono hB.size); clear hb) | (at_builtin; refine wpList_append_opt rfl _ _ rfl w.heap.size _ m l rfl (hrow.alloc _) (bAt xs k, (xs.drop (k + 2)).take (j - 2)) s' _ rfl (heap_alloc_new _ _) (hown.alloc _) hm1 (size_le_alloc hB.size _) ?_; intro v' w2 hrow2 hb2; have hB := (hB.alloc hB.size _).trans hb2; clear hb2))
            go_roundw
            case rel => exact ⟨k + j, m + 1, _, by go_num, by rw [hl.out]; exact hj3, by omega, hrow2, hfin.out, hB⟩
            case measure => simp [intOf]; omega
      · have hfin := Lib.hid (show parseO xs = none by rw [hp.out, rest_last xs k (by rw [hl.out]; omega) h0 h1]; rfl)
        generalize bAt xs k = K at *
        clear h0 h1
        have hge : (n : Int) ≤ k + 1 := by omega
        go_wp2_with (first | (go_at_call 75; refine (shape_any _ hrg.1 _ hSr.out).mono ?_; rintro e w1 ⟨rfl, hb⟩; have hB := hB.trans (hb.mono hB.size); clear hb))
        rw [Exit.noGoto_ret]
        go_ret2
        rw [hfin.out]
        exact ⟨_, 0, rfl, (fun l' hl' => by cases hl'), hB⟩
    · have hfin : parseO xs = some l := by rw [hp.out, rest_end xs k (by rw [hl.out]; omega)]; simp
      replace hfin := Lib.hid hfin
      go_wp2
      rw [Exit.noGoto_ret]
      go_ret2
      rw [hfin.out]
      exact ⟨_, m, rfl, fun l' hl' => by cases hl'; exact hrow, hB⟩

theorem valid_any (s : Sl) (xs : List Int) (w : World) (hs : Bs w s xs) (hm : s.n ≤ 140737488351232) (hS : Sh w) : Calls Tryd.prog 51 #[.slice s.a s.n s.c] w (RB (.bool (validO xs)) w) := by
  have hl := Lib.hid hs.len
  by_cases h40 : s.n ≤ 40
  · by_cases h4 : s.n % 4 = 0
    · have hv := Lib.hid (show validO xs = (parseO xs).isSome by simp [validO, hl.out, h40, h4])
      have h4' : ((s.n : Int) % 4 != 0) = false := by simp; omega
      have hd : decide ((40 : Int) < (s.n : Int)) = false := by simp; omega
      clear h4
      go_enter Tryd.func51, Tryd.ntmps51
      go_wp2_with (go_at_call 55; refine (parse_any s xs _ hs h40 hS).mono ?_; rintro e w1 ⟨v, n, rfl, hrow, hb⟩; clear hrow)
      all_goals (go_ret; exact RB.mk' (by rw [hv.out]; simp_all) hb)
    · have hv : validO xs = false := by simp [validO, hl.out, h4]
      rw [hv]
      have h4' : ((s.n : Int) % 4 != 0) = true := by simp; omega
      clear h4 hv
      go_enter Tryd.func51, Tryd.ntmps51
      go_wp2
      go_ret
      exact RB.mk' rfl (Below.refl _ _)
  · have hv : validO xs = false := by simp [validO, hl.out, h40]
    rw [hv]
    have h4' : (40 : Int) < s.n := by omega
    clear h40 hv
    go_enter Tryd.func51, Tryd.ntmps51
    go_wp2
    go_ret
    exact RB.mk' rfl (Below.refl _ _)
end Go.Proofs.YtleokgmflelkcaaDoor
namespace Go.Proofs.YtleokgmflelkcaaDoor
open Go Go.RowKit

theorem zeros_drop_iff (xs : List Int) (k : Nat) : zeros (xs.drop k) = true ↔ ∀ j, k ≤ j → j < xs.length → bAt xs j = 0 := by
  rw [zeros_iff]
  unfold bAt
  constructor
  · intro h j h1 h2
    have := h (j - k) (by simp; omega)
    rw [List.getD_eq_getElem?_getD, List.getElem?_drop, Nat.add_sub_cancel' h1] at this
    rw [List.getD_eq_getElem?_getD]; exact this
  · intro h j hj
    simp only [List.length_drop] at hj
    have := h (k + j) (by omega) (by omega)
    rw [List.getD_eq_getElem?_getD, List.getElem?_drop]
    rwa [List.getD_eq_getElem?_getD] at this

set_option maxRecDepth 100000 in
set_option maxHeartbeats 1000000 in
theorem ref5Options_any (s : Sl) (xs : List Int) (w : World) (hs : Bs w s xs) (hm : s.n ≤ 140737488351232) : Calls Tryd.prog 81 #[.slice s.a s.n s.c] w (RB (.bool (validO xs)) w) := by
  obtain ⟨a, n, c⟩ := s
  simp only at hm ⊢
  obtain ⟨hl, hle, hr, hat⟩ := hs
  simp only at hl hle hat
  have hat := Lib.hid hat
  replace hl := Lib.hid hl
  have hne : (n : Int) % 4 ≠ 0 → validO xs = false := by intro h; have : ¬ n % 4 = 0 := by omega
                                                         simp [validO, hl.out, this]
  by_cases h4 : n % 4 = 0
  · have h4b : ((n : Int) % 4 != 0) = false := by simp; omega
    by_cases h40 : n ≤ 40
    · have hv := Lib.hid (show validO xs = (parseO xs).isSome by simp [validO, hl.out, h40, h4])
      have hd : decide ((40 : Int) < (n : Int)) = false := by simp; omega
      clear h4 hne
      go_enter Tryd.func81, Tryd.ntmps81
      go_wp2
      go_loop [3] (fun i => ∃ k : Nat, i = .int .i64 k ∧ k ≤ n ∧ Hid ((parseO xs).isSome = (restO xs k).isSome)) (fun i => n - (intOf i).toNat)
      case atStart => exact ⟨0, rfl, by omega, by simp [Hid, restO]⟩
      case round =>
        obtain ⟨k, rfl, hk, hp⟩ := hrel
        by_cases hlt : k < n
        · have hkl := Lib.hid (show k < xs.length by rw [hl.out]; exact hlt)
          have hrg := bytesR_get hr k
          obtain ⟨b, o, rfl, hbb, h3⟩ : ∃ b o, a = some ⟨b, o, none⟩ ∧ b < w.heap.size ∧ ∀ k, k < n → w.cell? ⟨b, o + k, none⟩ = some (.int .u8 (bAt xs k)) := by
            rcases hat.out with ⟨_, h0, _⟩ | ⟨b, o, h1, h2, h3⟩
            · omega
            exact ⟨b, o, h1, h2, h3⟩
          have h3' := h3 k hlt
          replace h3 := Lib.hid h3
          by_cases h0 : bAt xs k = 0
          · have hrz := Lib.hid (rest_zero xs k hkl.out h0)
            have hzi := Lib.hid (zeros_drop_iff xs k)
            rw [h0] at h3'
            clear h0
            go_wp2
            go_loop [4] (fun i => ∃ j : Nat, i = .int .i64 j ∧ k ≤ j ∧ j ≤ n ∧ Hid (∀ t, k ≤ t → t < j → bAt xs t = 0)) (fun i => n - (intOf i).toNat)
            case atStart => exact ⟨k, rfl, by omega, by omega, fun t h1 h2 => by omega⟩
            case round =>
              obtain ⟨j, rfl, hkj, hj, hz⟩ := hrel
              by_cases hjl : j < n
              · have h3j := h3.out j hjl
                cases hb : (bAt xs j != 0)
                · have hb' := Lib.hid (show bAt xs j = 0 by simpa using hb)
                  go_wp2
                  go_round
                  case rel => exact ⟨j + 1, by go_num, by omega, by omega, fun t h1 h2 => by by_cases e : t = j; (· subst e; exact hb'.out); (· exact hz.out t h1 (by omega))⟩
                  case measure => simp [intOf]; omega
                · have hb' := Lib.hid (show bAt xs j ≠ 0 by simpa using hb)
                  have hfin := Lib.hid (show validO xs = false by
                    have hz0 : zeros (xs.drop k) = false := by
                      rw [Bool.eq_false_iff]; intro h; exact hb'.out (hzi.out.1 h j hkj (by rw [hl.out]; exact hjl))
                    rw [hv.out, hp.out, hrz.out, hz0]; rfl)
                  go_wp2
                  go_ret
                  exact RB.mk' (by rw [hfin.out]; rfl) (Below.refl _ _)
              · have hfin := Lib.hid (show validO xs = true by
                  have hz0 : zeros (xs.drop k) = true := hzi.out.2 (fun t h1 h2 => hz.out t h1 (by rw [hl.out] at h2; omega))
                  rw [hv.out, hp.out, hrz.out, hz0]; rfl)
                go_wp2
                go_ret
                exact RB.mk' (by rw [hfin.out]; rfl) (Below.refl _ _)
          have h0b : (bAt xs k == 0) = false := by simpa using h0
          by_cases h1 : bAt xs k = 1
          · have hrz := Lib.hid (rest_one xs k hkl.out h1)
            rw [h1] at h3'
            clear h0 h1 h0b
            go_wp2
            go_round
            case rel => exact ⟨k + 1, by go_num, by omega, by unfold Hid; rw [hp.out, hrz.out]; simp⟩
            case measure => simp [intOf]; omega
          have h1b : (bAt xs k == 1) = false := by simpa using h1
          by_cases hk1 : k + 1 < n
          · have hrl := Lib.hid (rest_long xs k)
            have hrb := Lib.hid (rest_bad xs k (by rw [hl.out]; exact hk1) h0 h1)
            have hrg2 := bytesR_get hr (k + 1)
            have hlt1 : (k : Int) + 1 < n := by omega
            have h01 := Lib.hid (And.intro h0 h1)
            have h3j := h3.out (k + 1) hk1
            clear h0 h1
            obtain ⟨hN0, hN1⟩ := hrg2
            by_cases hbad : bAt xs (k + 1) < 2 ∨ bAt xs (k + 1) > (n : Int) - k
            · have hfin := Lib.hid (show validO xs = false by rw [hv.out, hp.out, hrb.out (by rw [hl.out]; exact hbad)]; rfl)
              by_cases hN2 : bAt xs (k + 1) < 2
              · clear hbad
                go_wp2
                go_ret
                exact RB.mk' (by rw [hfin.out]; rfl) (Below.refl _ _)
              · have hN3 : (n : Int) < k + bAt xs (k + 1) := by omega
                have hN4 : 2 ≤ bAt xs (k + 1) := by omega
                clear hbad hN2
                go_wp2
                go_ret
                exact RB.mk' (by rw [hfin.out]; rfl) (Below.refl _ _)
            · have hN2 : 2 ≤ bAt xs (k + 1) := by omega
              have hN3 : k + bAt xs (k + 1) ≤ (n : Int) := by omega
              clear hbad hrb
              obtain ⟨j, hj⟩ : ∃ j : Nat, bAt xs (k + 1) = j := ⟨(bAt xs (k + 1)).toNat, by omega⟩
              have hj2 : 2 ≤ j := by omega
              have hj3 : k + j ≤ n := by omega
              have hj4 : (j : Int) ≤ 255 := by omega
              have hfin := Lib.hid (show (parseO xs).isSome = (restO xs (k + j)).isSome by
                have := hrl.out j (by rw [hl.out]; exact hk1) h01.out.1 h01.out.2 hj hj2 (by rw [hl.out]; exact hj3)
                rw [hp.out, this]; simp)
              rw [hj] at h3j
              clear hj hrl hN0 hN1 hN2 hN3
              go_wp2
              go_round
              case rel => exact ⟨k + j, by go_num, by omega, hfin⟩
              case measure => simp [intOf]; omega
          · have hfin := Lib.hid (show validO xs = false by rw [hv.out, hp.out, rest_last xs k (by rw [hl.out]; omega) h0 h1]; rfl)
            have hge : (n : Int) ≤ k + 1 := by omega
            clear h0 h1
            go_wp2
            go_ret
            exact RB.mk' (by rw [hfin.out]; rfl) (Below.refl _ _)
        · have hfin : validO xs = true := by rw [hv.out, hp.out, rest_end xs k (by rw [hl.out]; omega)]; rfl
          replace hfin := Lib.hid hfin
          go_wp2
          go_ret
          exact RB.mk' (by rw [hfin.out]; rfl) (Below.refl _ _)
    · have hv : validO xs = false := by simp [validO, hl.out, h40]
      have hd : (40 : Int) < n := by omega
      rw [hv]
      clear hv h4 h40 hne
      go_enter Tryd.func81, Tryd.ntmps81
      go_wp2
      go_ret
      exact RB.mk' rfl (Below.refl _ _)
  · have hv := hne (by omega)
    have h4b : ((n : Int) % 4 != 0) = true := by simp; omega
    rw [hv]
    clear hv hne h4
    go_enter Tryd.func81, Tryd.ntmps81
    go_wp2
    go_ret
    exact RB.mk' rfl (Below.refl _ _)
end Go.Proofs.YtleokgmflelkcaaDoor
