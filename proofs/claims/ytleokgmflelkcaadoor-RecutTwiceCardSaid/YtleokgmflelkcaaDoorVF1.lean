/- mosaicref04: zeros, first. mosaicref04: Parse, Valid. -/
import Derived.Test.YtleokgmflelkcaaDoorVE3
import Derived.Test.YtleokgmflelkcaaDoorVE1
set_option linter.unusedSimpArgs false
set_option linter.unusedVariables false
namespace Go.Proofs.YtleokgmflelkcaaDoor
open Go Go.RowKit

theorem Bs.byte {w : World} {a : Option Addr} {n c : Nat} {xs : List Int} (h : Bs w ⟨a, n, c⟩ xs) (hn : 0 < n) : ∃ b o, a = some ⟨b, o, none⟩ ∧ ∀ W, Below w.heap.size w W → ∀ i, i < n → W.cell? ⟨b, o + i, none⟩ = some (.int .u8 (bAt xs i)) := by
  rcases h.at_ with ⟨h0, _⟩ | ⟨b, o, h1, h2, h3⟩
  · simp only at h0; omega
  · exact ⟨b, o, h1, fun W hb i hi => (hb.cell (p := ⟨b, o + i, none⟩) h2).trans (h3 i hi)⟩
theorem bAt_drop (xs : List Int) (k i : Nat) : bAt (xs.drop k) i = bAt xs (k + i) := by
  unfold bAt; simp [List.getD_eq_getElem?_getD, List.getElem?_drop]
theorem zeros_at {xs : List Int} {n : Nat} (hn : xs.length = n) : (zeros xs = true ↔ ∀ j, j < n → bAt xs j = 0) := by
  subst hn; exact zeros_iff xs

set_option maxRecDepth 100000 in
theorem zeros_any (s : Sl) (xs : List Int) (w : World) (hs : Bs w s xs) (hm : s.n ≤ 140737488351232) : Calls Tryd.prog 101 #[.slice s.a s.n s.c] w (RB (.bool (zeros xs)) w) := by
  obtain ⟨a, n, c⟩ := s
  simp only at hm ⊢
  have hz := zeros_at (n := n) hs.len
  have hyes := Lib.hid (fun h => hz.2 h)
  have hno : ∀ j, j < n → bAt xs j ≠ 0 → zeros xs = false := fun j hj h => by
    cases hq : zeros xs
    · rfl
    · exact absurd (hz.1 hq j hj) h
  replace hno := Lib.hid hno
  clear hz
  generalize zeros xs = X at *
  have hby := Lib.hid (fun (h : 0 < n) => hs.byte h)
  clear hs
  go_enter Tryd.func101, Tryd.ntmps101
  go_wp2
  go_loop [3] (fun i => ∃ k : Nat, k ≤ n ∧ i = .int .i64 k ∧ Hid (∀ j, j < k → bAt xs j = 0)) (fun i => n - (intOf i).toNat)
  case atStart => exact ⟨0, by omega, rfl, fun j hj => by omega⟩
  case round =>
    obtain ⟨k, hk, rfl, hz⟩ := hrel
    by_cases hlt : k < n
    · obtain ⟨b, o, rfl, h3⟩ := hby.out (by omega)
      have h4 := h3 w (Below.refl _ _) k hlt
      clear h3
      by_cases he : bAt xs k = 0
      · have heb : (bAt xs k != 0) = false := by simpa using he
        replace he := Lib.hid he
        go_wp2
        go_round
        case rel => exact ⟨k + 1, by omega, by go_num, fun j hj => by by_cases e : j = k; (· subst e; exact he.out); (· exact hz.out j (by omega))⟩
        case measure => simp [intOf]; omega
      · have heb : (bAt xs k != 0) = true := by simpa using he
        replace he := Lib.hid he
        go_wp2
        go_ret
        exact RB.mk' (by rw [hno.out k hlt he.out]; rfl) (Below.refl _ _)
    · go_wp2
      go_ret
      exact RB.mk' (by rw [hyes.out (fun j hj => hz.out j (by omega))]; rfl) (Below.refl _ _)

/-- How many bytes the first option has; 0: none; -1: it may not be. -/
def firstO (xs : List Int) : Int := match xs with
  | [] => 0
  | x :: r => if x = 0 then (if zeros (x :: r) then 0 else -1) else if x = 1 then 1 else match r with
    | [] => -1
    | n :: d => if n < 2 ∨ n > d.length + 2 then -1 else n
theorem first_nil {xs : List Int} (h : xs.length = 0) : firstO xs = 0 := by rw [List.eq_nil_of_length_eq_zero h]; rfl
theorem first_zero {xs : List Int} (h : 0 < xs.length) (h0 : bAt xs 0 = 0) : firstO xs = if zeros xs then 0 else -1 := by
  cases xs with
  | nil => simp at h
  | cons x r => have : x = 0 := h0; subst this; rfl
theorem first_one {xs : List Int} (h : 0 < xs.length) (h0 : bAt xs 0 = 1) : firstO xs = 1 := by
  cases xs with
  | nil => simp at h
  | cons x r => have : x = 1 := h0; subst this; rfl
theorem first_short {xs : List Int} (h : xs.length = 1) (h0 : bAt xs 0 ≠ 0) (h1 : bAt xs 0 ≠ 1) : firstO xs = -1 := by
  cases xs with
  | nil => simp at h
  | cons x r =>
    have hr : r = [] := List.eq_nil_of_length_eq_zero (by simpa using h)
    subst hr
    have e0 : ¬ x = 0 := h0
    have e1 : ¬ x = 1 := h1
    unfold firstO; simp [e0, e1]
theorem first_bad {xs : List Int} (h : 1 < xs.length) (h0 : bAt xs 0 ≠ 0) (h1 : bAt xs 0 ≠ 1) (h2 : bAt xs 1 < 2 ∨ bAt xs 1 > xs.length) : firstO xs = -1 := by
  match xs, h with
  | x :: n :: d, _ =>
    have e0 : ¬ x = 0 := h0
    have e1 : ¬ x = 1 := h1
    have e2 : n < 2 ∨ n > ((d.length + 2 : Nat) : Int) := h2
    unfold firstO; simp only [if_neg e0, if_neg e1]
    rw [if_pos (by omega)]
theorem first_long {xs : List Int} (h : 1 < xs.length) (h0 : bAt xs 0 ≠ 0) (h1 : bAt xs 0 ≠ 1) (h2 : 2 ≤ bAt xs 1) (h3 : bAt xs 1 ≤ xs.length) : firstO xs = bAt xs 1 := by
  match xs, h with
  | x :: n :: d, _ =>
    have e0 : ¬ x = 0 := h0
    have e1 : ¬ x = 1 := h1
    have e2 : 2 ≤ n := h2
    have e3 : n ≤ ((d.length + 2 : Nat) : Int) := h3
    unfold firstO; simp only [if_neg e0, if_neg e1]
    rw [if_neg (by omega)]; rfl

set_option maxRecDepth 100000 in
set_option maxHeartbeats 1000000 in
theorem first_any (s : Sl) (xs : List Int) (w : World) (hs : Bs w s xs) (hm : s.n ≤ 140737488351232) : Calls Tryd.prog 84 #[.slice s.a s.n s.c] w (RB (.int .i64 (firstO xs)) w) := by
  have hz := Lib.hid (fun V (hb : Below w.heap.size w V) => zeros_any s xs V (hs.below hb) hm)
  obtain ⟨a, n, c⟩ := s
  simp only at hm hz ⊢
  have hl := Lib.hid (show xs.length = n from hs.len)
  have hr := hs.rng
  by_cases hn : n = 0
  · rw [first_nil (by rw [hl.out]; exact hn)]
    subst hn
    go_enter Tryd.func84, Tryd.ntmps84
    go_wp2
    go_ret
    exact RB.mk' rfl (Below.refl _ _)
  have hn0 : 0 < n := by omega
  have hnb : ((n : Int) == 0) = false := beq_eq_false_iff_ne.2 (by omega)
  obtain ⟨b, o, rfl, h3⟩ := hs.byte hn0
  have h4 := h3 w (Below.refl _ _) 0 hn0
  rw [Nat.add_zero] at h4
  have hrg := bytesR_get hr 0
  replace h3 := Lib.hid h3
  clear hn hs
  by_cases h0 : bAt xs 0 = 0
  · have hf := Lib.hid (first_zero (by rw [hl.out]; exact hn0) h0)
    rw [h0] at h4 hrg
    cases hzz : zeros xs
    · rw [hzz] at hz hf
      clear h0 hzz
      go_enter Tryd.func84, Tryd.ntmps84
      go_wp2_with (go_at_call 101; (with_reducible refine (hz.out _ (Below.refl _ _)).mono ?_); rintro e w1 ⟨rfl, hb⟩)
      go_ret
      exact RB.mk' (by rw [hf.out]; rfl) hb
    · rw [hzz] at hz hf
      clear h0 hzz
      go_enter Tryd.func84, Tryd.ntmps84
      go_wp2_with (go_at_call 101; (with_reducible refine (hz.out _ (Below.refl _ _)).mono ?_); rintro e w1 ⟨rfl, hb⟩)
      go_ret
      exact RB.mk' (by rw [hf.out]; rfl) hb
  by_cases h1 : bAt xs 0 = 1
  · have hf := Lib.hid (first_one (by rw [hl.out]; exact hn0) h1)
    rw [h1] at h4 hrg
    clear h0 h1
    go_enter Tryd.func84, Tryd.ntmps84
    go_wp2
    go_ret
    exact RB.mk' (by rw [hf.out]; rfl) (Below.refl _ _)
  have h0b : (bAt xs 0 == 0) = false := by simpa using h0
  have h1b : (bAt xs 0 == 1) = false := by simpa using h1
  by_cases hn1 : n = 1
  · have hf := Lib.hid (first_short (by rw [hl.out]; exact hn1) h0 h1)
    subst hn1
    generalize bAt xs 0 = X at *
    clear h0 h1
    go_enter Tryd.func84, Tryd.ntmps84
    go_wp2
    go_ret
    exact RB.mk' (by rw [hf.out]; rfl) (Below.refl _ _)
  have hn2 : 1 < n := by omega
  have hnb2 : decide ((n : Int) < 2) = false := by simp; omega
  have h5 := h3.out w (Below.refl _ _) 1 hn2
  have hrg2 := bytesR_get hr 1
  have hfb := Lib.hid (first_bad (by rw [hl.out]; exact hn2) h0 h1)
  have hfl := Lib.hid (first_long (by rw [hl.out]; exact hn2) h0 h1)
  generalize bAt xs 0 = X at *
  generalize bAt xs 1 = Y at *
  clear h0 h1 hn1
  by_cases hY : Y < 2
  · have hf := Lib.hid (hfb.out (.inl hY))
    go_enter Tryd.func84, Tryd.ntmps84
    go_wp2
    go_ret
    exact RB.mk' (by rw [hf.out]; rfl) (Below.refl _ _)
  have hY2 : 2 ≤ Y := by omega
  have hYb : decide (Y < 2) = false := by simp; omega
  clear hY
  by_cases hY3 : Y > n
  · have hf := Lib.hid (hfb.out (.inr (by rw [hl.out]; exact hY3)))
    go_enter Tryd.func84, Tryd.ntmps84
    go_wp2
    go_ret
    exact RB.mk' (by rw [hf.out]; rfl) (Below.refl _ _)
  · have hf := Lib.hid (hfl.out hY2 (by rw [hl.out]; omega))
    have hY3' : Y ≤ n := by omega
    clear hY3
    go_enter Tryd.func84, Tryd.ntmps84
    go_wp2
    go_ret
    exact RB.mk' (by rw [hf.out]; rfl) (Below.refl _ _)
end Go.Proofs.YtleokgmflelkcaaDoor
namespace Go.Proofs.YtleokgmflelkcaaDoor
open Go Go.RowKit

theorem first_cases (ys : List Int) (hr : bytesR ys) : (firstO ys = -1 ∧ parseO ys = none) ∨ (firstO ys = 0 ∧ parseO ys = some []) ∨
    ∃ j : Nat, 1 ≤ j ∧ j ≤ ys.length ∧ j ≤ 255 ∧ firstO ys = j ∧ parseO ys = (parseO (ys.drop j)).map ((bAt ys 0, (ys.drop 2).take (j - 2)) :: ·) := by
  match ys, hr with
  | [], _ => exact .inr (.inl ⟨rfl, parse_nil⟩)
  | x :: r, hr =>
    have hx := hr x (by simp)
    by_cases h0 : x = 0
    · rw [first_zero (xs := x :: r) (by simp) h0, parse_cons, if_pos h0]
      cases hz : zeros (x :: r)
      · exact .inl ⟨rfl, rfl⟩
      · exact .inr (.inl ⟨rfl, rfl⟩)
    by_cases h1 : x = 1
    · refine .inr (.inr ⟨1, by omega, by simp, by omega, first_one (xs := x :: r) (by simp) h1, ?_⟩)
      rw [parse_cons, if_neg h0, if_pos h1]
      subst h1
      rfl
    match r, hr with
    | [], _ => exact .inl ⟨first_short (xs := [x]) rfl h0 h1, by rw [parse_cons, if_neg h0, if_neg h1]⟩
    | n :: d, hr =>
      have hn := hr n (by simp)
      by_cases hb : n < 2 ∨ n > d.length + 2
      · exact .inl ⟨first_bad (xs := x :: n :: d) (by simp) h0 h1 (by rcases hb with hb | hb; exact .inl hb; exact .inr (by simp only [List.length_cons]; show n > _; omega)), by rw [parse_cons, if_neg h0, if_neg h1]; simp only; rw [if_pos hb]⟩
      · refine .inr (.inr ⟨n.toNat, by omega, by simp only [List.length_cons]; omega, by omega, ?_, ?_⟩)
        · rw [first_long (xs := x :: n :: d) (by simp) h0 h1 (by show 2 ≤ n; omega) (by show n ≤ _; simp only [List.length_cons]; omega)]
          show n = _; omega
        · rw [parse_cons, if_neg h0, if_neg h1]
          simp only
          rw [if_neg hb]
          have e : (x :: n :: d).drop n.toNat = d.drop (n.toNat - 2) := by
            obtain ⟨m, hm⟩ : ∃ m, n.toNat = m + 2 := ⟨n.toNat - 2, by omega⟩
            rw [hm]; rfl
          rw [e]
          rfl

def PsRel (xs : List Int) (w : World) (b out : Value) (wr : World) : Prop :=
  ∃ (m : Nat) (s : Sl) (ys : List Int) (l : List OptL) (v : Sl), b = .slice s.a s.n s.c ∧ out = .slice v.a v.n v.c ∧ Bs w s ys ∧ m + ys.length ≤ xs.length ∧ OptRow w.heap.size wr (.slice v.a v.n v.c) m l ∧ parseO xs = (parseO ys).map (l ++ ·) ∧ Below w.heap.size w wr
theorem OptRow.form {B : Nat} {w : World} {v : Value} {n : Nat} {l : List OptL} (h : OptRow B w v n l) : ∃ s : Sl, v = .slice s.a s.n s.c := by
  obtain ⟨ss, h1, h2, h3, _⟩ := h
  rcases h3.2 with ⟨rfl, _⟩ | ⟨g, cap, cur, rfl, _⟩
  · exact ⟨⟨none, 0, 0⟩, rfl⟩
  · exact ⟨⟨_, n, cap⟩, rfl⟩
theorem heap_two (w : World) (A B : Obj) : ((w.alloc A).alloc B).heap[w.heap.size + 1]? = some B := by
  have := heap_alloc_new (w.alloc A) B
  rwa [World.size_alloc] at this
/-- A cut of a byte slice that reads in whatever world. -/
theorem wpList_slice_lw {ops : Array Oper} {rest : List Oper} {o : Oper} {a : Act} {W V : World} {Q : Exit → Act → World → Prop} (hgd : o.guard = none) (x lo : Operand) (ho : o.op = .slice 26 x (some lo) none none) (s : Sl) (xs : List Int) (l : Int) (hx : a.eval x = .slice s.a s.n s.c) (hlo : a.eval lo = .int .i64 l)
    (hb : Bs V s xs) (h0 : 0 ≤ l) (h1 : l ≤ s.n)
    (h : ∀ s' : Sl, s'.n = s.n - l.toNat → Bs V s' (xs.drop l.toNat) → wpList Tryd.prog ops Q rest (a.put o.dst (.slice s'.a s'.n s'.c)) W) : wpList Tryd.prog ops Q (o :: rest) a W := by
  obtain ⟨s', e1, e2, e3⟩ := sliced_bs hb l.toNat s.n (by omega) (Nat.le_refl _)
  rw [List.take_of_length_le (by simp [hb.len])] at e3
  have hle := hb.le
  refine wpList_plain hgd fun K hK => ?_
  have hrun := run_slice_l (P := Tryd.prog) W 26 s.a s.n s.c (by kernel_rfl) .i64 l h0 h1
  have hel : Tryd.prog.elem 26 = 5 := by kernel_rfl
  have hsz : (sizeOf 5).run Tryd.prog W = .ok 1 W := by kernel_rfl
  rw [hel, hsz, Result.andThen_ok, e1] at hrun
  have hat : (Instr.sliceAt 26 (.slice s.a s.n s.c) (some (.int .i64 l)) none none).run Tryd.prog W = .ok (.slice s'.a s'.n s'.c) W := by
    rw [run_sliceAt_slice W 26 _ _ _ _ (by kernel_rfl)]; exact hrun
  unfold Oper.wp execOp
  simp only [ho, hx, Option.map_some, Option.map_none, hlo, hat, Sem.run_bind, Result.andThen_ok]
  exact hK _ _ (h s' e2 e3)
def lenS : Value → Nat
  | .slice _ n _ => n
  | _ => 0

set_option maxRecDepth 100000 in
set_option maxHeartbeats 1000000 in
theorem rparse_any (s : Sl) (xs : List Int) (w : World) (hs : Bs w s xs) (hm : s.n ≤ 40) : Calls Tryd.prog 66 #[.slice s.a s.n s.c] w (RP (parseO xs) w) := by
  have hxl := Lib.hid (show xs.length ≤ 40 by rw [hs.len]; exact hm)
  replace hs := Lib.hid hs
  go_enter Tryd.func66, Tryd.ntmps66
  go_wp2
  go_loopw [0, 4] (fun b out wr => PsRel xs w b out wr) (fun b _ _ => lenS b)
  case atStart => exact ⟨0, s, xs, [], ⟨none, 0, 0⟩, rfl, rfl, hs.out, by omega, OptRow.nil _ _, by cases parseO xs <;> rfl, Below.refl _ _⟩
  case round =>
    obtain ⟨m, sy, ys, l, v, rfl, rfl, hb, hmy, hrow, hp, hB⟩ := hrel
    replace hp := Lib.hid hp
    have hyl := hb.len
    have hfst := Lib.hid (fun (V : World) (hB : Below w.heap.size w V) => first_any sy ys V (hb.below hB) (by have := hxl.out; omega))
    rcases first_cases ys hb.rng with ⟨hf, hpar⟩ | ⟨hf, hpar⟩ | ⟨j, hj1, hj2, hj3, hf, hpar⟩
    · rw [hf] at hfst
      have hfin := Lib.hid (show parseO xs = none by rw [hp.out, hpar]; rfl)
      clear hf hpar
      replace hyl := Lib.hid hyl
      go_wp2_with (go_at_call 84; (with_reducible refine (hfst.out _ hB).mono ?_); rintro e w1 ⟨rfl, hb1⟩; have hB := hB.trans (hb1.mono hB.size); clear hb1)
      go_ret2
      rw [hfin.out]
      exact ⟨_, 0, rfl, (fun l' hl' => by cases hl'), hB⟩
    · rw [hf] at hfst
      have hfin := Lib.hid (show parseO xs = some l by rw [hp.out, hpar]; simp)
      clear hf hpar
      replace hyl := Lib.hid hyl
      go_wp2_with (go_at_call 84; (with_reducible refine (hfst.out _ hB).mono ?_); rintro e w1 ⟨rfl, hb1⟩; have hB := hB.trans (hb1.mono hB.size); have hrow := hrow.below hb1; clear hb1)
      go_ret2
      rw [hfin.out]
      exact ⟨_, m, rfl, fun l' hl' => by cases hl'; exact hrow, hB⟩
    · rw [hf] at hfst
      have hfin := Lib.hid (show parseO xs = (parseO (ys.drop j)).map ((l ++ [(bAt ys 0, (ys.drop 2).take (j - 2))]) ++ ·) by rw [hp.out, hpar, Option.map_map]; congr 1; funext z; simp)
      have hn0 : 0 < sy.n := by omega
      have hjn : j ≤ sy.n := by omega
      have hjb : decide ((j : Int) < 0) = false := by simp
      have hjb2 : ((j : Int) == 0) = false := beq_eq_false_iff_ne.2 (by omega)
      have hbc := Lib.hid hb
      have hm40 := hxl.out
      have hm1 : m ≤ 1000 := by omega
      obtain ⟨a, n, c⟩ := sy
      obtain ⟨b, o, hab, h3⟩ := hb.byte hn0
      simp only at hn0 hjn hab hyl
      subst hab
      have hnc : n ≤ c := hb.le
      have hrg := bytesR_get hb.rng 0
      have hk0 := Lib.hid (rfl : bAt ys 0 = bAt ys 0)
      have h3' := Lib.hid (fun (W : World) (hB : Below w.heap.size w W) => (by have := h3 W hB 0 hn0; rwa [Nat.add_zero] at this : W.cell? ⟨b, o, none⟩ = some (.int .u8 (bAt ys 0))))
      have hmj := Lib.hid (show m + 1 + (ys.drop j).length ≤ xs.length by rw [List.length_drop]; omega)
      have hnj := Lib.hid (show (⟨some ⟨b, o, none⟩, n, c⟩ : Sl).n = n from rfl)
      clear h3 hf hpar hb
      replace hyl := Lib.hid hyl
      generalize hK : bAt ys 0 = K at *
      replace hK := Lib.hid hK
      by_cases hj : j ≤ 2
      · have hjb3 : decide ((j : Int) > 2) = false := by simp; omega
        have htk := Lib.hid (show (ys.drop 2).take (j - 2) = [] by rw [show j - 2 = 0 by omega, List.take_zero])
        go_wp2_with (first | (go_at_call 84; (with_reducible refine (hfst.out _ hB).mono ?_); rintro e w1 ⟨rfl, hb1⟩; have hB := hB.trans (hb1.mono hB.size); have hrow := hrow.below hb1; have h4 := h3'.out _ hB; have hX := Below.box hB #[.int .i64 K, .slice none 0 0] 75; have hl7 := loadN_at (P := Tryd.prog) (n := 2) (at_of_heap hX.h0) rfl; clear hb1) | (at_builtin; refine wpList_append_opt rfl _ _ rfl w.heap.size _ m l rfl ((hrow.alloc _).alloc _) (K, []) ⟨none, 0, 0⟩ _ rfl (heap_two w1 _ _) (own_nil _ _) hm1 (size_le_alloc (size_le_alloc hB.size _) _) ?_; intro v' w2 hrow2 hb2; obtain ⟨v2, rfl⟩ := hrow2.form; have hB := ((hB.alloc hB.size _).alloc (size_le_alloc hB.size _) _).trans hb2; clear hb2) | (refine wpList_slice_lw rfl (.tmp 32) (.tmp 33) rfl ⟨some ⟨b, o, none⟩, n, c⟩ ys (j : Int) rfl rfl hbc.out (by omega) (by simp only; omega) ?_; intro s' hs'n hs'; replace hs'n := Lib.hid hs'n; replace hs' := Lib.hid hs'))
        go_roundw
        case rel =>
          refine ⟨m + 1, s', ys.drop j, l ++ [(K, (ys.drop 2).take (j - 2))], v2, rfl, rfl, ?_, hmj.out, ?_, ?_, hB⟩
          · have := hs'.out; rwa [Int.toNat_natCast] at this
          · rw [htk.out]; exact hrow2
          · rw [hfin.out]
        case measure =>
          have h1 := hs'n.out
          simp only at h1
          simp [lenS]; omega
      · have hj3' : 2 < j := by omega
        have hjb3 : decide ((j : Int) > 2) = true := by simp; omega
        have hc2 : ¬ c = 2 := by omega
        have hc2' : (2 : Int) ≤ (c : Int) := by omega
        have hjc : (j : Int) ≤ (c : Int) := by omega
        have hj2i : (2 : Int) ≤ (j : Int) := by omega
        have hsub := Lib.hid (show Bs w ⟨some ⟨b, o + 2, none⟩, j - 2, c - 2⟩ ((ys.drop 2).take (j - 2)) from (hbc.out.drop 2 (by omega)).take (j - 2) (by omega))
        have h47 := Lib.hid (show (⟨none, 0, 0⟩ : Sl).n + (⟨some ⟨b, o + 2, none⟩, j - 2, c - 2⟩ : Sl).n ≤ 140737488355328 by simp only; omega)
        go_upto_region 9 with (first | (go_at_call 84; (with_reducible refine (hfst.out _ hB).mono ?_); rintro e w1 ⟨rfl, hb1⟩; have hB := hB.trans (hb1.mono hB.size); have hrow := hrow.below hb1; have h4 := h3'.out _ hB; have hX := Below.box hB #[.int .i64 K, .slice none 0 0] 75; have hl7 := loadN_at (P := Tryd.prog) (n := 2) (at_of_heap hX.h0) rfl; clear hb1))
        obtain ⟨hc0, hc1⟩ := two_at hX.h0
        have hfz := fz_at hX.h0
        have hsubd := Lib.hid (hsub.out.below ((hB.trans (hX.bel.mono hB.size)).drew))
        go_region_law ((refine step_append_sl (by rfl) (.tmp 22) (.tmp 25) (by rfl) _ ⟨none, 0, 0⟩ [] (by rfl) (own_nil _ _) ⟨some ⟨b, o + 2, none⟩, j - 2, c - 2⟩ ((ys.drop 2).take (j - 2)) (by rfl) hsubd.out h47.out (Nat.le_refl _) ?_; intro s2 W4 hs2 hn2 hb4; replace hn2 := Lib.hid hn2; have hX4 := hX.drew.call hb4; have hfz4 := fz_at hX4.h0; obtain ⟨hd0, hd1⟩ := two_at hX4.h0; clear hb4))
        all_goals
          obtain ⟨hY, hg⟩ := Bx.cell (bs := []) hX4 1 (.slice s2.a s2.n s2.c) #[.int .i64 K, .slice s2.a s2.n s2.c] rfl
          have hs2 := (hs2.mono (show w.heap.size ≤ _ from Nat.le_trans hB.size hX.bel.size)).box hX4.h0 (by decide) hg
          clear hg hfz4 hd0 hd1
          generalize World.setCell _ _ _ = W5 at hY hs2 ⊢
          have hY : Bx w1 W5 [(w1.heap.size, 75, #[.int .i64 K, .slice s2.a s2.n s2.c])] := hY
          have hl8 : loadN Tryd.prog W5 ⟨w1.heap.size, 0, none⟩ 2 = .ok #[.int .i64 K, .slice s2.a s2.n s2.c] W5 := loadN_at (P := Tryd.prog) (n := 2) (at_of_heap hY.h0) rfl
          have hrow5 := hrow.below hY.bel
          have hB5 := hB.trans (hY.bel.mono hB.size)
          clear hX hX4 hfz hc0 hc1 hl7
          go_wp2_with (first | (at_builtin; refine wpList_append_opt rfl _ _ rfl w.heap.size _ m l rfl (hrow5.alloc _) (K, (ys.drop 2).take (j - 2)) s2 _ rfl (heap_alloc_new _ _) (hs2.alloc _) hm1 (size_le_alloc hB5.size _) ?_; intro v' w2 hrow2 hb2; obtain ⟨v2, rfl⟩ := hrow2.form; have hB := (hB5.alloc hB5.size _).trans hb2; clear hb2) | (refine wpList_slice_lw rfl (.tmp 32) (.tmp 33) rfl ⟨some ⟨b, o, none⟩, n, c⟩ ys (j : Int) rfl rfl hbc.out (by omega) (by simp only; omega) ?_; intro s' hs'n hs'; replace hs'n := Lib.hid hs'n; replace hs' := Lib.hid hs'))
          go_roundw
          case rel =>
            refine ⟨m + 1, s', ys.drop j, l ++ [(K, (ys.drop 2).take (j - 2))], v2, rfl, rfl, ?_, hmj.out, ?_, ?_, hB⟩
            · have := hs'.out; rwa [Int.toNat_natCast] at this
            · exact hrow2
            · rw [hfin.out]
          case measure =>
            have h1 := hs'n.out
            simp only at h1
            simp [lenS]; omega

set_option maxRecDepth 100000 in
theorem rvalid_any (s : Sl) (xs : List Int) (w : World) (hs : Bs w s xs) (hm : s.n ≤ 140737488351232) : Calls Tryd.prog 65 #[.slice s.a s.n s.c] w (RB (.bool (validO xs)) w) := by
  have hB : Below w.heap.size w w := Below.refl _ _
  have hl := Lib.hid hs.len
  by_cases h40 : s.n > 40
  · have hv := Lib.hid (show validO xs = false by simp [validO, hl.out]; omega)
    have hd : decide ((s.n : Int) > 40) = true := by simp; omega
    go_enter Tryd.func65, Tryd.ntmps65
    go_wp2
    go_ret
    exact RB.mk' (by rw [hv.out]; rfl) hB
  have hd : decide ((s.n : Int) > 40) = false := by simp; omega
  by_cases h4 : s.n % 4 = 0
  · have hv := Lib.hid (show validO xs = (parseO xs).isSome by simp [validO, hl.out, h4]; omega)
    have h4b : (((s.n : Int) % 4) != 0) = false := by simp; omega
    have hp := Lib.hid (fun V (hb : Below w.heap.size w V) => rparse_any s xs V (hs.below hb) (by omega))
    cases hq : parseO xs with
    | none =>
      rw [hq] at hp hv
      clear hq
      go_enter Tryd.func65, Tryd.ntmps65
      go_wp2_with (first | go_big_skip | (go_at_call 66; (with_reducible refine (hp.out _ hB).mono ?_); rintro e w1 ⟨v, m, rfl, hrow, hb⟩; have hB := hB.trans (hb.mono hB.size); clear hb hrow))
      go_ret
      exact RB.mk' (by rw [hv.out]; rfl) hB
    | some l =>
      rw [hq] at hp hv
      clear hq
      go_enter Tryd.func65, Tryd.ntmps65
      go_wp2_with (first | go_big_skip | (go_at_call 66; (with_reducible refine (hp.out _ hB).mono ?_); rintro e w1 ⟨v, m, rfl, hrow, hb⟩; have hB := hB.trans (hb.mono hB.size); clear hb hrow))
      go_ret
      exact RB.mk' (by rw [hv.out]; rfl) hB
  · have hv := Lib.hid (show validO xs = false by simp [validO, hl.out, h4])
    have h4b : (((s.n : Int) % 4) != 0) = true := by simp; omega
    go_enter Tryd.func65, Tryd.ntmps65
    go_wp2
    go_ret
    exact RB.mk' (by rw [hv.out]; rfl) hB
end Go.Proofs.YtleokgmflelkcaaDoor
