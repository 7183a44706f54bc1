/- recut.Join, walked. -/
import Derived.Test.YtleokgmflelkcaaDoorVA15
import Derived.Test.YtleokgmflelkcaaDoorVB3
import Derived.BigGuard
set_option linter.unusedSimpArgs false
set_option linter.unusedVariables false
namespace Go.Proofs.YtleokgmflelkcaaDoor
open Go Go.RowKit

theorem results_cell2 {fn : Func} {q t : Tmp} {ty : TypeId} (h : fn.results = #[.cell q ty, .tmp t]) (tmps : Array Value) (W : World) (b : Nat) (tt : TypeId) (cs : Array Value) (v : Value)
    (hp : tmps.getD q undef = .pointer (some ⟨b, 0, none⟩)) (hv : tmps.getD t undef = v) (hb : W.heap[b]? = some (.cells cs tt (0, 0))) (hagg : (isAgg ty).run Tryd.prog W = .ok true W) (hi : (Tryd.prog.info? ty).map (·.size) = some cs.size) :
    (results fn tmps).run Tryd.prog W = .ok (.tuple #[.agg cs, v]) W := by
  have hl := loadN_at (P := Tryd.prog) (at_of_heap hb) rfl
  unfold loadN at hl
  cases hq : Tryd.prog.info? ty with
  | none => simp [hq] at hi
  | some i =>
    have hs : i.size = cs.size := by simpa [hq] using hi
    have hp' : tmps[q]?.getD undef = .pointer (some ⟨b, 0, none⟩) := by simpa using hp
    have hv' : tmps[t]?.getD undef = v := by simpa using hv
    have hlv : (loadVar ty ⟨b, 0, none⟩).run Tryd.prog W = .ok (.agg cs) W := by
      simp [loadVar, Sem.run_bind, hagg, sizeOf, typeInfo, hq, hs, hl]
    simp [results, h, hp', hv', asAddr, hlv]

/-- end's answer, its parts apart. -/
def RE2 (a : Int) (b : Bool) (w : World) (e : Ending) (w' : World) : Prop := e = .returned (.tuple #[.int .i64 a, .bool b]) ∧ Below w.heap.size w w'
theorem RE.two {f : FuncId} {args : Array Value} {r : Option Int} {a : Int} {b : Bool} {w : World} (h1 : r.getD 0 = a) (h2 : r.isSome = b) (h : Calls Tryd.prog f args w (RE r w)) : Calls Tryd.prog f args w (RE2 a b w) := by
  subst h1; subst h2; exact h

theorem joinChk_go {tt last : Int} {k : Nat} {x : Fp} {l : List Fp} (h : (k : Int) = last ∨ (x.p.off < tt ∧ endsF x ≤ tt)) : joinChk tt last k (x :: l) = joinChk tt last (k + 1) l := by
  rw [joinChk, if_neg (by omega)]
theorem joinChk_no {tt last : Int} {k : Nat} {x : Fp} {l : List Fp} (h : (k : Int) ≠ last) (h2 : tt ≤ x.p.off ∨ tt < endsF x) : joinChk tt last k (x :: l) = false := by
  rw [joinChk, if_pos ⟨h, h2⟩]
theorem joinGo_no {a : Int} {g : Bool} {x : Fp} {l : List Fp} (h : x.p.off < a) : joinGo a g (x :: l) = none := by rw [joinGo, if_pos h]
theorem joinGo_go {a : Int} {g : Bool} {x : Fp} {l : List Fp} (h : a ≤ x.p.off) : joinGo a g (x :: l) = joinGo (endsF x) (g || decide (a < x.p.off)) l := by rw [joinGo, if_neg (by omega)]
theorem drop_cons {α : Type} {l : List α} {k : Nat} {x : α} (h : l[k]? = some x) : l.drop k = x :: l.drop (k + 1) := by
  have hk := (List.getElem?_eq_some_iff.1 h).1
  rw [List.drop_eq_getElem_cons hk]
  congr 1
  rw [List.getElem?_eq_getElem hk] at h
  exact Option.some.inj h
theorem take_snoc' {α : Type} {l : List α} {k : Nat} {x : α} (h : l[k]? = some x) : l.take (k + 1) = l.take k ++ [x] := by
  rw [List.take_add_one, h]; rfl

theorem PkS.lens {w : World} {s : Sl} {l : List Fp} (h : PkS w s l) : ∀ x ∈ l, x.ds.length = x.p.d.n ∧ x.os.length = x.p.o.n ∧ x.p.d.n ≤ 140737488351232 := fun x hx => ⟨(h.pk x hx).d.len, (h.pk x hx).o.len, (h.pk x hx).dm⟩
theorem owns_form {B : Nat} {w : World} {e : TypeId} {size : Nat} {v : Value} {n : Nat} {xs : List Value} (h : w.ownsRow B e size v n xs) : ∃ s : Sl, v = .slice s.a s.n s.c ∧ s.n = n ∧ s.n ≤ s.c := by
  rcases h.2 with ⟨rfl, rfl⟩ | ⟨g, cap, cur, rfl, _, _, hc, _⟩
  · exact ⟨⟨none, 0, 0⟩, rfl, rfl, Nat.le_refl _⟩
  · exact ⟨⟨_, n, cap⟩, rfl, rfl, hc⟩
theorem zPk_own : zPk = { zPk with o := ⟨none, 0, 0⟩, d := ⟨none, 0, 0⟩ } := rfl
/-- An error's answer. -/
theorem RJ.err {l σ : List Fp} {e : Int} {w W : World} (hp : σ.Perm l) (hs : SortedO σ) (h : joinR l σ = joinE e) (hb : Below w.heap.size w W) : RJ l w (.returned (.tuple #[.agg (pkA zPk), .int .i64 e])) W := by
  refine ⟨σ, ⟨none, 0, 0⟩, ⟨none, 0, 0⟩, hp, hs, ?_, ?_, ?_, hb⟩ <;> rw [h]
  · rfl
  · exact own_nil _ _
  · exact own_nil _ _

set_option maxRecDepth 100000 in
set_option maxHeartbeats 1000000 in
theorem join_none (s : Sl) (l σ : List Fp) (w : World) (hs : PkS w s l) (hm : s.n ≤ 925904528626) (hS : Sh w) (hE : endR l = none) (hp : σ.Perm l) (ho : SortedO σ) : Calls Tryd.prog 19 #[.slice s.a s.n s.c] w (RJ l w) := by
  have hX := (Bx.start w).alloc (pkA zPk) 28
  have hend := Lib.hid (fun (V : World) (hb : Below w.heap.size w V) => RE.two (r := endR l) (a := 0) (b := false) (by rw [hE]; rfl) (by rw [hE]; rfl) (end_any s l V (hs.below hb) hm (hS.below hb)))
  have hfin := Lib.hid (show joinR l σ = joinE 1 by unfold joinR; rw [hE])
  clear hE
  go_enter Tryd.func19, Tryd.ntmps19
  go_wp2_with (first | (go_at_call 42; (with_reducible refine (hend.out _ hX.bel).mono ?_); rintro e w1 ⟨rfl, hb⟩; have hX := hX.call hb; clear hb) | (refine wpList_build_to rfl 28 #[] rfl (pkA zPk) (by kernel_rfl) ?_) | (refine wpList_storeA_bx rfl 28 (.tmp 2) (.tmp 24) rfl _ _ rfl rfl (bs := []) hX (by rw [pkA_size]; exact i28) ((pkA_size _).trans (pkA_size _).symm) (pkA_one _) ?_; intro W2 hX hg; have hX : Bx w W2 [_] := hX))
  exact bodyPost_ret (results_cell2 (q := 2) (t := 3) rfl _ _ _ _ _ (.int .i64 1) rfl rfl hX.h0 (g28 _) (by rw [pkA_size]; exact i28)) rfl (RJ.err hp ho hfin.out hX.bel)

theorem below_drewN (w : World) (n : Nat) : Below w.heap.size w (w.drewN n) := ⟨rfl, rfl, rfl, Nat.le_refl _, fun _ _ => rfl⟩
theorem PkS.cells {w : World} {b o n c : Nat} {l : List Fp} (h : PkS w ⟨some ⟨b, o, none⟩, n, c⟩ l) {i : Nat} {x : Fp} (hx : l[i]? = some x) {W : World} (hb : Below w.heap.size w W) :
    W.cell? ⟨b, o + i * 46 + 43, none⟩ = some (.int .i64 x.p.off) ∧ W.cell? ⟨b, o + i * 46 + 45, none⟩ = some (.slice x.p.d.a x.p.d.n x.p.d.c) := by
  rcases h.at_ with ⟨h0, _⟩ | ⟨b', o', h1, h2, h3⟩
  · cases h0
  · cases h1
    have h4 := (h3 i x hx).below hb h2
    exact ⟨by rw [h4 43 (by rw [pkA_size]; decide), pkA_43], by rw [h4 45 (by rw [pkA_size]; decide), pkA_45]⟩
def leO (x y : Fp) : Bool := decide (x.p.off ≤ y.p.off)
theorem sorted_merge (l : List Fp) : SortedO (l.mergeSort leO) := by
  have h := List.pairwise_mergeSort (le := leO) (by intro a b c; simp only [leO, decide_eq_true_eq]; omega) (by intro a b; simp only [leO, Bool.or_eq_true, decide_eq_true_eq]; omega) l
  rw [List.pairwise_iff_getElem] at h
  intro i j x y hij hi hj
  obtain ⟨hi1, hi2⟩ := List.getElem?_eq_some_iff.1 hi
  obtain ⟨hj1, hj2⟩ := List.getElem?_eq_some_iff.1 hj
  have := h i j hi1 hj1 hij
  rw [hi2, hj2] at this
  simpa [leO] using this
theorem joinR_chk {l σ : List Fp} {last : Int} (h : endR l = some last) (hc : joinChk (joinTo l last) last 0 l = false) : joinR l σ = joinE 1 := by
  unfold joinR; rw [h]; simp only [hc, if_true]

theorem below_grown {w3 W W' : World} {b : Nat} (h : Below w3.heap.size w3 W) (hg : W.grownBy W' (some b)) (hb : w3.heap.size ≤ b) : Below w3.heap.size w3 W' := h.grown hg h.size (by intro k hk; injection hk with hk; omega)
theorem pks_sorted {w w3 : World} {s so : Sl} {l σ : List Fp} (hs : PkS w s l) (hb : Below w.heap.size w w3) (hσ : σ.Perm l) (hn : so.n = l.length) (hc : so.n ≤ so.c)
    (hat : (so.a = none ∧ so.n = 0 ∧ so.c = 0) ∨ ∃ g, so.a = some ⟨g, 0, none⟩ ∧ g < w3.heap.size ∧ ∀ (i : Nat) (x : Fp), σ[i]? = some x → At w3 g (0 + i * 46) (pkA x.p)) : PkS w3 so σ :=
  ⟨by rw [hσ.length_eq, hn], hc, fun x hx => (hs.pk x (hσ.mem_iff.1 hx)).below hb, hat.elim .inl (fun ⟨g, h1, h2, h3⟩ => .inr ⟨g, 0, h1, h2, h3⟩)⟩
theorem joinR_over {l σ : List Fp} {last : Int} (h : endR l = some last) (hc : joinChk (joinTo l last) last 0 l = true) (hg : joinGo 0 (decide (last < 0)) σ = none) : joinR l σ = joinE 1 := by
  unfold joinR; rw [h]; simp only [hc, Bool.true_eq_false, if_false, hg]
theorem joinR_gap {l σ : List Fp} {last a : Int} {g : Bool} (h : endR l = some last) (hc : joinChk (joinTo l last) last 0 l = true) (hg : joinGo 0 (decide (last < 0)) σ = some (a, g)) (hh : g = true ∨ a ≠ joinTo l last) : joinR l σ = joinE 110 := by
  unfold joinR; rw [h]; simp only [hc, Bool.true_eq_false, if_false, hg, if_pos hh]
theorem joinW_o (p : Pk) : (joinW p).o = p.o := by unfold joinW; split <;> rfl
theorem joinR_ok {l σ σ' : List Fp} {last : Int} {x : Fp} (h : endR l = some last) (hc : joinChk (joinTo l last) last 0 l = true) (hg : joinGo 0 (decide (last < 0)) σ = some (joinTo l last, false)) (hx : σ = x :: σ') (s1 sd : Sl) (h1 : s1.n = x.p.o.n) (h2 : sd.n = (σ.flatMap Fp.ds).length) :
    joinR l σ = if headF { joinW x.p with o := s1, d := sd } x.os = 0 then joinE 1 else ⟨0, joinW x.p, x.os, σ.flatMap Fp.ds⟩ := by
  have hh : headF { joinW x.p with o := s1, d := sd } x.os = headF { joinW x.p with d := ⟨none, (σ.flatMap Fp.ds).length, 0⟩ } x.os := by
    have := headF_sizes (joinW x.p) x.os s1 sd (joinW x.p).o ⟨none, (σ.flatMap Fp.ds).length, 0⟩ (by rw [h1, joinW_o]) h2
    exact this
  rw [hh]
  subst hx
  unfold joinR; rw [h]; simp only [hc, Bool.true_eq_false, if_false, hg, ne_eq, not_true_eq_false, Bool.false_eq_true, or_self, List.flatMap_cons]
theorem Own.under {B0 B : Nat} {W W' : World} {s : Sl} {xs : List Int} (h : Own B0 W s xs) (hb : Below B W W') (hlt : ∀ k, (Value.slice s.a s.n s.c).ownBlock = some k → k < B) : Own B0 W' s xs := by
  obtain ⟨⟨h1, h2⟩, hr⟩ := h
  refine ⟨⟨h1, ?_⟩, hr⟩
  rcases h2 with h2 | ⟨g, cap, cur, hv, hg, hh, hc⟩
  · exact .inl h2
  · exact .inr ⟨g, cap, cur, hv, hg, by rw [hb.block g (hlt g (by rw [hv]; rfl))]; exact hh, hc⟩
theorem RJ.ok {l σ : List Fp} {w W : World} {q0 q : Pk} {os ds : List Int} {s1 sd : Sl} (hp : σ.Perm l) (hs : SortedO σ) (h : joinR l σ = ⟨0, q0, os, ds⟩) (hq : { q0 with o := s1, d := sd } = q) (h1 : Own w.heap.size W s1 os) (h2 : Own w.heap.size W sd ds) (hb : Below w.heap.size w W) :
    RJ l w (.returned (.tuple #[.agg (pkA q), .int .i64 0])) W := by
  refine ⟨σ, s1, sd, hp, hs, ?_, ?_, ?_, hb⟩ <;> rw [h]
  · rw [hq]
  · exact h1
  · exact h2
theorem size25 (w : World) : (sizeOf 25).run Tryd.prog w = .ok 1 w := by kernel_rfl

/-- The loops' states. -/
def JRel1 (l : List Fp) (tt last : Int) (n : Nat) (w : World) (i : Value) (wr : World) : Prop :=
  ∃ k : Nat, i = .int .i64 k ∧ k ≤ n ∧ joinChk tt last 0 l = joinChk tt last k (l.drop k) ∧ Bx w wr [(w.heap.size, 28, pkA zPk)]
def JRel2 (σ : List Fp) (g0 : Bool) (n : Nat) (w w3 : World) (a g i : Value) (wr : World) : Prop :=
  ∃ (k : Nat) (at_ : Int) (gp : Bool), i = .int .i64 k ∧ a = .int .i64 at_ ∧ g = .bool gp ∧ k ≤ n ∧ 0 ≤ at_ ∧ at_ ≤ 65535 ∧ joinGo 0 g0 σ = joinGo at_ gp (σ.drop k) ∧ Bx w wr [(w.heap.size, 28, pkA zPk)] ∧ Below w3.heap.size w3 wr
def JRel3 (σ : List Fp) (p : Pk) (os : List Int) (s1 : Sl) (n b B : Nat) (w w3 : World) (i : Value) (wr : World) : Prop :=
  ∃ (k : Nat) (sd : Sl), i = .int .i64 k ∧ k ≤ n ∧ Bx w wr [(b, 28, pkA { p with o := s1, d := sd }), (w.heap.size, 28, pkA zPk)] ∧ Own B wr sd ((σ.take k).flatMap Fp.ds) ∧ Own w.heap.size wr s1 os ∧ Below w3.heap.size w3 wr ∧ B ≤ wr.heap.size
set_option maxRecDepth 100000 in
set_option maxHeartbeats 1000000 in
theorem join_a (s : Sl) (l : List Fp) (m : Nat) (w : World) (hs : PkS w s l) (hm : s.n ≤ 925904528626) (hS : Sh w) (hE : endR l = some (m : Int)) : Calls Tryd.prog 19 #[.slice s.a s.n s.c] w (RJ l w) := by
  have hX := (Bx.start w).alloc (pkA zPk) 28
  have hend := Lib.hid (fun (V : World) (hb : Below w.heap.size w V) => RE.two (r := endR l) (a := (m : Int)) (b := true) (by rw [hE]; rfl) (by rw [hE]; rfl) (end_any s l V (hs.below hb) hm (hS.below hb)))
  obtain ⟨hright, hlo, hhi⟩ := endR_right hE
  replace hright := Lib.hid (fun x (hx : x ∈ l) => right_nums (hright x hx))
  have hlens := Lib.hid hs.lens
  have hln := Lib.hid hs.len
  replace hs := Lib.hid hs
  replace hE := Lib.hid hE
  have hmn : m < s.n := by have := hln.out; omega
  obtain ⟨xl, hxl⟩ : ∃ x, l[m]? = some x := ⟨_, List.getElem?_eq_getElem (by rw [hln.out]; exact hmn)⟩
  have hml := List.mem_of_getElem? hxl
  have hrx := hright.out xl hml
  obtain ⟨htt0, htt1, -⟩ := hrx
  have htt := Lib.hid (show joinTo l (m : Int) = (xl.p.off + (xl.p.d.n : Int)) by unfold joinTo endsF; rw [if_pos (by omega), List.getD_eq_getElem?_getD]; simp only [Int.toNat_natCast, hxl, Option.getD_some, (hlens.out xl hml).1])
  obtain ⟨bl, ol, hsa⟩ : ∃ b o, s.a = some ⟨b, o, none⟩ := by
    rcases hs.out.at_ with ⟨_, h0, _⟩ | ⟨b, o, h1, _⟩
    · omega
    · exact ⟨b, o, h1⟩
  obtain ⟨sa, n, c⟩ := s
  simp only at hsa hm hmn hln hend
  subst hsa
  have hcl := Lib.hid (fun (V : World) (hb : Below w.heap.size w V) => (hs.out.cells hxl hb))
  clear hlo hhi
  replace hxl := Lib.hid hxl
  go_enter Tryd.func19, Tryd.ntmps19
  go_wp2_with (first | (go_at_call 42; (with_reducible refine (hend.out _ hX.bel).mono ?_); rintro e w1 ⟨rfl, hb⟩; have hX := hX.call hb; clear hb))
  obtain ⟨hc43, hc45⟩ := hcl.out _ hX.bel
  go_quiet (fail)
  go_wp2
  have hX := hX.call (below_drewN _ nq)
  go_loopw [41] (fun i wr => JRel1 l (xl.p.off + (xl.p.d.n : Int)) (m : Int) n w i wr) (fun i _ => n - (intOf i).toNat)
  case atStart => exact ⟨0, rfl, Nat.zero_le _, rfl, hX⟩
  case round =>
    clear hX hc43 hc45
    obtain ⟨k, rfl, hk, hchk, hX⟩ := hrel
    replace hchk := Lib.hid hchk
    rename_i wr
    by_cases hlt : k < n
    · obtain ⟨x, hx⟩ : ∃ x, l[k]? = some x := ⟨_, List.getElem?_eq_getElem (by rw [hln.out]; exact hlt)⟩
      have hmem := List.mem_of_getElem? hx
      obtain ⟨hr0, hr1, -⟩ := hright.out x hmem
      have hdrop := Lib.hid (drop_cons hx)
      have hxe := Lib.hid (show endsF x = x.p.off + (x.p.d.n : Int) by unfold endsF; rw [(hlens.out x hmem).1])
      have hld := hs.out.load hx hX.bel
      replace hx := Lib.hid hx
      by_cases hkm : k = m
      · subst hkm
        go_wp2_with (first | go_big_skip | (refine wpList_storeA_bx rfl 28 (.tmp 8) (.tmp 45) rfl _ _ rfl rfl (bs := []) (hX.alloc (pkA zPk) 28) (by rw [pkA_size]; exact i28) ((pkA_size _).trans (pkA_size _).symm) (pkA_one _) ?_; intro W1 hX1 hg; have hX1 : Bx w W1 [_, _] := hX1; obtain ⟨hr, hl, _, _⟩ := pk_at hX1.h0; clear hg; dsimp only [Act.put]) | (refine wpList_build_to rfl 28 #[] rfl (pkA zPk) (by kernel_rfl) ?_) | (refine wpList_storeA_bx rfl 28 (.tmp 2) (.tmp 65) rfl _ _ rfl rfl (bs := [_]) hX1 (by rw [pkA_size]; exact i28) ((pkA_size _).trans (pkA_size _).symm) (pkA_one _) ?_; intro W9 hX9 hg9))
        go_roundw
        case rel => exact ⟨k + 1, by go_num, by omega, by rw [hchk.out, hdrop.out]; exact joinChk_go (.inl rfl), hX1.tail⟩
        case measure => simp [intOf]; omega
      have hkb : ((k : Int) != (m : Int)) = true := by simp; omega
      have hkb2 : (k != m) = true := by simp; omega
      have hkm2 := Lib.hid (show (k : Int) ≠ (m : Int) by omega)
      by_cases hc1 : (xl.p.off + (xl.p.d.n : Int)) ≤ x.p.off
      · skip
        go_wp2_with (first | go_big_skip | (refine wpList_storeA_bx rfl 28 (.tmp 8) (.tmp 45) rfl _ _ rfl rfl (bs := []) (hX.alloc (pkA zPk) 28) (by rw [pkA_size]; exact i28) ((pkA_size _).trans (pkA_size _).symm) (pkA_one _) ?_; intro W1 hX1 hg; have hX1 : Bx w W1 [_, _] := hX1; obtain ⟨hr, hl, _, _⟩ := pk_at hX1.h0; clear hg; dsimp only [Act.put]) | (refine wpList_build_to rfl 28 #[] rfl (pkA zPk) (by kernel_rfl) ?_) | (refine wpList_storeA_bx rfl 28 (.tmp 2) (.tmp 65) rfl _ _ rfl rfl (bs := [_]) hX1 (by rw [pkA_size]; exact i28) ((pkA_size _).trans (pkA_size _).symm) (pkA_one _) ?_; intro W9 hX9 hg9))
        have hX9 : Bx w W9 [_, _] := hX9
        refine bodyPost_ret (results_cell2 (q := 2) (t := 3) rfl _ _ _ _ _ (.int .i64 1) rfl rfl hX9.h1 (g28 _) (by rw [pkA_size]; exact i28)) rfl (RJ.err (List.mergeSort_perm l leO) (sorted_merge l) ?_ hX9.bel)
        have hc : joinChk (joinTo l (m : Int)) (m : Int) 0 l = false := by rw [htt.out, hchk.out, hdrop.out]; exact joinChk_no hkm2.out (.inl hc1)
        exact joinR_chk hE.out hc
      have hc1' : x.p.off < (xl.p.off + (xl.p.d.n : Int)) := by omega
      by_cases hc2 : (xl.p.off + (xl.p.d.n : Int)) < x.p.off + (x.p.d.n : Int)
      · skip
        go_wp2_with (first | go_big_skip | (refine wpList_storeA_bx rfl 28 (.tmp 8) (.tmp 45) rfl _ _ rfl rfl (bs := []) (hX.alloc (pkA zPk) 28) (by rw [pkA_size]; exact i28) ((pkA_size _).trans (pkA_size _).symm) (pkA_one _) ?_; intro W1 hX1 hg; have hX1 : Bx w W1 [_, _] := hX1; obtain ⟨hr, hl, _, _⟩ := pk_at hX1.h0; clear hg; dsimp only [Act.put]) | (refine wpList_build_to rfl 28 #[] rfl (pkA zPk) (by kernel_rfl) ?_) | (refine wpList_storeA_bx rfl 28 (.tmp 2) (.tmp 65) rfl _ _ rfl rfl (bs := [_]) hX1 (by rw [pkA_size]; exact i28) ((pkA_size _).trans (pkA_size _).symm) (pkA_one _) ?_; intro W9 hX9 hg9))
        have hX9 : Bx w W9 [_, _] := hX9
        refine bodyPost_ret (results_cell2 (q := 2) (t := 3) rfl _ _ _ _ _ (.int .i64 1) rfl rfl hX9.h1 (g28 _) (by rw [pkA_size]; exact i28)) rfl (RJ.err (List.mergeSort_perm l leO) (sorted_merge l) ?_ hX9.bel)
        have hc : joinChk (joinTo l (m : Int)) (m : Int) 0 l = false := by rw [htt.out, hchk.out, hdrop.out]; exact joinChk_no hkm2.out (.inr (by rw [hxe.out]; exact hc2))
        exact joinR_chk hE.out hc
      have hc2' : x.p.off + (x.p.d.n : Int) ≤ (xl.p.off + (xl.p.d.n : Int)) := by omega
      clear hc1 hc2
      go_wp2_with (first | go_big_skip | (refine wpList_storeA_bx rfl 28 (.tmp 8) (.tmp 45) rfl _ _ rfl rfl (bs := []) (hX.alloc (pkA zPk) 28) (by rw [pkA_size]; exact i28) ((pkA_size _).trans (pkA_size _).symm) (pkA_one _) ?_; intro W1 hX1 hg; have hX1 : Bx w W1 [_, _] := hX1; obtain ⟨hr, hl, _, _⟩ := pk_at hX1.h0; clear hg; dsimp only [Act.put]) | (refine wpList_build_to rfl 28 #[] rfl (pkA zPk) (by kernel_rfl) ?_) | (refine wpList_storeA_bx rfl 28 (.tmp 2) (.tmp 65) rfl _ _ rfl rfl (bs := [_]) hX1 (by rw [pkA_size]; exact i28) ((pkA_size _).trans (pkA_size _).symm) (pkA_one _) ?_; intro W9 hX9 hg9))
      go_roundw
      case rel => exact ⟨k + 1, by go_num, by omega, by rw [hchk.out, hdrop.out]; exact joinChk_go (.inr ⟨hc1', by rw [hxe.out]; exact hc2'⟩), hX1.tail⟩
      case measure => simp [intOf]; omega
    · obtain rfl : k = n := by omega
      have hchkT := Lib.hid (show joinChk (joinTo l (m : Int)) (m : Int) 0 l = true by rw [htt.out, hchk.out, List.drop_eq_nil_of_le (by rw [hln.out]; exact Nat.le_refl _)]; rfl)
      have hlt0 : w.heap.size < wr.heap.size := hX.lt (w.heap.size, 28, pkA zPk) (by simp)
      have hcl43 := Lib.hid (fun (V : World) (hb : Below w.heap.size w V) => (show Calls Tryd.prog 43 #[.slice (some ⟨bl, ol, none⟩) k c] V (RQ (l.map Fp.p) V) from clonePk_any ⟨some ⟨bl, ol, none⟩, k, c⟩ l V (hs.out.below hb) hm))
      have hs44 := Lib.hid (fun (sa : Option Addr) (sn sc : Nat) (V : World) (B : Nat) (h1 : sn = (l.map Fp.p).length) (h3 : V.ownsRow B 28 46 (.slice sa sn sc) (l.map Fp.p).length (pkCells (l.map Fp.p))) => (show Calls Tryd.prog 44 #[.slice sa sn sc, .func (.func 45) #[] #[]] V (RSort ⟨sa, sn, sc⟩ l B V) from sortPk_any ⟨sa, sn, sc⟩ l B V (by rw [h1, List.length_map]) (by rw [h1, List.length_map, hln.out]; exact hm) (h1 ▸ h3)))
      go_wp2_with (first | (go_at_call 43; ((with_reducible refine (hcl43.out _ hX.bel).mono ?_); rintro e w2 ⟨v, rfl, hown, hb⟩; obtain ⟨⟨sa, sn, sc⟩, rfl, hso1, hso2⟩ := owns_form hown; replace hso1 := Lib.hid hso1; have hX := hX.call hb; clear hb)) | (go_at_call 44; ((with_reducible refine (hs44.out sa sn sc _ _ hso1.out hown).mono ?_); rintro e w3 ⟨rfl, hb, σ, hσ, hsort, hat⟩; have hX := hX.call' hb (Nat.le_of_lt hlt0) (by intro x hx; simp only [List.mem_cons, List.not_mem_nil, or_false] at hx; subst hx; exact hlt0); clear hb)))
      have hps := Lib.hid (pks_sorted (so := ⟨sa, sn, sc⟩) hs.out hX.bel hσ (hso1.out.trans (List.length_map _)) hso2 hat)
      have hsn : sn = k := by rw [← hln.out, ← List.length_map (f := Fp.p)]; exact hso1.out
      subst hsn
      have hσl := Lib.hid (show σ.length = sn by rw [hσ.length_eq, hln.out])
      clear hown hso1 hso2 hat
      replace hσ := Lib.hid hσ
      replace hsort := Lib.hid hsort
      have hg0 := Lib.hid (show decide ((m : Int) < (0 : Int)) = false by simp)
      go_loopw [10, 11, 75] (fun x g i wr => JRel2 σ false sn w w3 x g i wr) (fun _ _ i _ => sn - (intOf i).toNat)
      case atStart => exact ⟨0, 0, false, rfl, rfl, rfl, Nat.zero_le _, by omega, by omega, rfl, hX, Below.refl _ _⟩
      case round =>
        clear hX
        obtain ⟨k, at_, gp, rfl, rfl, rfl, hk, hat0, hat1, hgo, hX, hB3⟩ := hrel
        replace hgo := Lib.hid hgo
        by_cases hlt : k < sn
        · obtain ⟨y, hy⟩ : ∃ y, σ[k]? = some y := ⟨_, List.getElem?_eq_getElem (by rw [hσl.out]; exact hlt)⟩
          have hmem := hσ.out.mem_iff.1 (List.mem_of_getElem? hy)
          obtain ⟨hr0, hr1, -⟩ := hright.out y hmem
          have hdrop := Lib.hid (drop_cons hy)
          have hye := Lib.hid (show endsF y = y.p.off + (y.p.d.n : Int) by unfold endsF; rw [(hlens.out y hmem).1])
          obtain ⟨bg, og, hsa⟩ : ∃ b o, sa = some ⟨b, o, none⟩ := by
            rcases hps.out.at_ with ⟨_, h0, _⟩ | ⟨b, o, h1, _⟩
            · simp only at h0; omega
            · exact ⟨b, o, h1⟩
          subst hsa
          have hld := hps.out.load hy hB3
          replace hy := Lib.hid hy
          by_cases hc1 : y.p.off < at_
          · skip
            go_wp2_with (first | go_big_skip | (refine wpList_storeA_bx rfl 28 (.tmp 13) (.tmp 78) rfl _ _ rfl rfl (bs := []) (hX.alloc (pkA zPk) 28) (by rw [pkA_size]; exact i28) ((pkA_size _).trans (pkA_size _).symm) (pkA_one _) ?_; intro W1 hX1 hg; have hX1 : Bx w W1 [_, _] := hX1; have hB3 := below_grown (hB3.trans ((Below.refl _ _).alloc hB3.size _)) hg hB3.size; obtain ⟨hr, hl, _, _⟩ := pk_at hX1.h0; clear hg; dsimp only [Act.put]) | (refine wpList_build_to rfl 28 #[] rfl (pkA zPk) (by kernel_rfl) ?_) | (refine wpList_storeA_bx rfl 28 (.tmp 2) (.tmp 83) rfl _ _ rfl rfl (bs := [_]) hX1 (by rw [pkA_size]; exact i28) ((pkA_size _).trans (pkA_size _).symm) (pkA_one _) ?_; intro W9 hX9 hg9))
            have hX9 : Bx w W9 [_, _] := hX9
            refine bodyPost_ret (results_cell2 (q := 2) (t := 3) rfl _ _ _ _ _ (.int .i64 1) rfl rfl hX9.h1 (g28 _) (by rw [pkA_size]; exact i28)) rfl (RJ.err hσ.out hsort.out ?_ hX9.bel)
            exact joinR_over hE.out hchkT.out (by rw [hg0.out, hgo.out, hdrop.out]; exact joinGo_no hc1)
          have hc1' : at_ ≤ y.p.off := by omega
          replace hc1 := Lib.hid hc1
          cases gp
          · skip
            go_wp2_with (first | go_big_skip | (refine wpList_storeA_bx rfl 28 (.tmp 13) (.tmp 78) rfl _ _ rfl rfl (bs := []) (hX.alloc (pkA zPk) 28) (by rw [pkA_size]; exact i28) ((pkA_size _).trans (pkA_size _).symm) (pkA_one _) ?_; intro W1 hX1 hg; have hX1 : Bx w W1 [_, _] := hX1; have hB3 := below_grown (hB3.trans ((Below.refl _ _).alloc hB3.size _)) hg hB3.size; obtain ⟨hr, hl, _, _⟩ := pk_at hX1.h0; clear hg; dsimp only [Act.put]) | (refine wpList_build_to rfl 28 #[] rfl (pkA zPk) (by kernel_rfl) ?_) | (refine wpList_storeA_bx rfl 28 (.tmp 2) (.tmp 83) rfl _ _ rfl rfl (bs := [_]) hX1 (by rw [pkA_size]; exact i28) ((pkA_size _).trans (pkA_size _).symm) (pkA_one _) ?_; intro W9 hX9 hg9))
            go_roundw
            case rel => exact ⟨k + 1, _, _, by go_num, rfl, rfl, by omega, by omega, by omega, by rw [hgo.out, hdrop.out, joinGo_go hc1', hye.out]; rfl, hX1.tail, hB3⟩
            case measure => simp [intOf]; omega
          · skip
            go_wp2_with (first | go_big_skip | (refine wpList_storeA_bx rfl 28 (.tmp 13) (.tmp 78) rfl _ _ rfl rfl (bs := []) (hX.alloc (pkA zPk) 28) (by rw [pkA_size]; exact i28) ((pkA_size _).trans (pkA_size _).symm) (pkA_one _) ?_; intro W1 hX1 hg; have hX1 : Bx w W1 [_, _] := hX1; have hB3 := below_grown (hB3.trans ((Below.refl _ _).alloc hB3.size _)) hg hB3.size; obtain ⟨hr, hl, _, _⟩ := pk_at hX1.h0; clear hg; dsimp only [Act.put]) | (refine wpList_build_to rfl 28 #[] rfl (pkA zPk) (by kernel_rfl) ?_) | (refine wpList_storeA_bx rfl 28 (.tmp 2) (.tmp 83) rfl _ _ rfl rfl (bs := [_]) hX1 (by rw [pkA_size]; exact i28) ((pkA_size _).trans (pkA_size _).symm) (pkA_one _) ?_; intro W9 hX9 hg9))
            go_roundw
            case rel => exact ⟨k + 1, _, _, by go_num, rfl, rfl, by omega, by omega, by omega, by rw [hgo.out, hdrop.out, joinGo_go hc1', hye.out]; rfl, hX1.tail, hB3⟩
            case measure => simp [intOf]; omega
        · obtain rfl : k = sn := by omega
          replace hgo := Lib.hid (show joinGo 0 false σ = some (at_, gp) by rw [hgo.out, List.drop_eq_nil_of_le (by rw [hσl.out]; exact Nat.le_refl _), joinGo])
          cases gp
          case true =>
            go_wp2_with (first | go_big_skip | (refine wpList_build_to rfl 28 #[] rfl (pkA zPk) (by kernel_rfl) ?_) | (refine wpList_storeA_bx rfl 28 (.tmp 2) (.tmp 104) rfl _ _ rfl rfl (bs := []) hX (by rw [pkA_size]; exact i28) ((pkA_size _).trans (pkA_size _).symm) (pkA_one _) ?_; intro W9 hX9 hg9))
            have hX9 : Bx w W9 [_] := hX9
            refine bodyPost_ret (results_cell2 (q := 2) (t := 3) rfl _ _ _ _ _ (.int .i64 110) rfl rfl hX9.h0 (g28 _) (by rw [pkA_size]; exact i28)) rfl (RJ.err hσ.out hsort.out ?_ hX9.bel)
            exact joinR_gap hE.out hchkT.out (by rw [hg0.out]; exact hgo.out) (.inl rfl)
          by_cases hat : at_ = (xl.p.off + (xl.p.d.n : Int))
          case neg =>
            have hatb : (at_ != (xl.p.off + (xl.p.d.n : Int))) = true := by simpa using hat
            have hat2 := Lib.hid hat
            clear hat
            go_wp2_with (first | go_big_skip | (refine wpList_build_to rfl 28 #[] rfl (pkA zPk) (by kernel_rfl) ?_) | (refine wpList_storeA_bx rfl 28 (.tmp 2) (.tmp 104) rfl _ _ rfl rfl (bs := []) hX (by rw [pkA_size]; exact i28) ((pkA_size _).trans (pkA_size _).symm) (pkA_one _) ?_; intro W9 hX9 hg9))
            have hX9 : Bx w W9 [_] := hX9
            refine bodyPost_ret (results_cell2 (q := 2) (t := 3) rfl _ _ _ _ _ (.int .i64 110) rfl rfl hX9.h0 (g28 _) (by rw [pkA_size]; exact i28)) rfl (RJ.err hσ.out hsort.out ?_ hX9.bel)
            exact joinR_gap hE.out hchkT.out (by rw [hg0.out]; exact hgo.out) (.inr (by rw [htt.out]; exact hat2.out))
          subst hat
          have hgo2 := Lib.hid (show joinGo 0 (decide ((m : Int) < (0 : Int))) σ = some (joinTo l (m : Int), false) by rw [hg0.out, htt.out]; exact hgo.out)
          have hsum := Lib.hid (joinGo_sum _ _ _ _ hgo.out).2
          obtain ⟨x0, σ1, hx0⟩ : ∃ x0 σ1, σ = x0 :: σ1 := by
            cases hσc : σ with
            | nil =>
              have h1 := hgo2.out
              rw [hσc, joinGo] at h1
              have h2 : l = [] := by have := hσ.out; rw [hσc] at this; exact this.symm.eq_nil
              rw [h2] at hml; cases hml
            | cons a l => exact ⟨a, l, rfl⟩
          have hy0 : σ[0]? = some x0 := by rw [hx0]; rfl
          have hmem0 := hσ.out.mem_iff.1 (List.mem_of_getElem? hy0)
          have hpx0 := Lib.hid (hs.out.pk x0 hmem0)
          have h0k : 0 < k := by rw [← hσl.out, hx0]; simp
          replace hx0 := Lib.hid hx0
          obtain ⟨bg, og, hsa⟩ : ∃ b o, sa = some ⟨b, o, none⟩ := by
            rcases hps.out.at_ with ⟨_, h0, _⟩ | ⟨b, o, h1, _⟩
            · simp only at h0; omega
            · exact ⟨b, o, h1⟩
          subst hsa
          have hld : loadN Tryd.prog wr ⟨bg, og, none⟩ 46 = .ok (pkA x0.p) wr := by simpa using hps.out.load hy0 hB3
          replace hy0 := Lib.hid hy0
          go_wp2_with (first | (go_at_call 32; ((with_reducible refine (recutown_any x0.p x0.os x0.ds _ (hpx0.out.below hX.bel)).mono ?_); rintro e w4 ⟨s1, s2, rfl, hs1, hs2, hb⟩; have hs1 := hs1.mono (show w.heap.size ≤ _ from hX.bel.size); have hX := hX.call hb; have hB3 := hB3.trans (hb.mono hB3.size); clear hb)) | (refine wpList_storeA_bx rfl 28 (.tmp 14) (.tmp 108) rfl _ _ rfl rfl (bs := []) (hX.alloc (pkA zPk) 28) (by rw [pkA_size]; exact i28) ((pkA_size _).trans (pkA_size _).symm) (pkA_one _) ?_; intro W5 hX5 hg; have hX5 : Bx w W5 [_, _] := hX5; have hs1 := (hs1.alloc _).box (heap_alloc_new _ _) (by decide) hg; have h14 := hB3.size; have hB3 := below_grown (hB3.trans ((Below.refl _ _).alloc hB3.size _)) hg hB3.size; clear hg hX; dsimp only [Act.put]) | (refine wpList_store_bx rfl 26 (.tmp 109) (.const _) rfl _ 45 _ rfl rfl (bs := []) hX5 (size26 _) rfl rfl (by rw [pkA_size]; decide) _ (pkA_set_d _ none 0 0) ?_; intro W6 hX6 hg; have hX6 : Bx w W6 [_, _] := hX6; have hs1 := hs1.box hX5.h0 (by decide) hg; have hB3 := below_grown hB3 hg h14; clear hg hX5; dsimp only [Act.put]))
          generalize hb14 : w4.heap.size = b14 at *
          have hBB := Nat.le_refl W6.heap.size
          have hlt14 : b14 < W6.heap.size := hX6.lt _ (List.mem_cons_self ..)
          have hlt2 : w.heap.size < W6.heap.size := hX6.lt (w.heap.size, 28, pkA zPk) (by simp)
          have h1B := Lib.hid (ownsRow_lt hs1.1)
          have hB3b := hB3.size
          generalize hB6 : W6.heap.size = B at *
          go_loopw [112] (fun i wr => JRel3 σ x0.p x0.os s1 k b14 B w w3 i wr) (fun i _ => k - (intOf i).toNat)
          case atStart => exact ⟨0, ⟨none, 0, 0⟩, rfl, Nat.zero_le _, hX6, own_nil _ _, hs1, hB3, Nat.le_of_eq hB6.symm⟩
          case round =>
            clear hX6 hs1 hB3 hB6
            obtain ⟨j, sd, rfl, hj, hX, hsd, hs1, hB3, hBw⟩ := hrel
            by_cases hjl : j < k
            · obtain ⟨y, hy⟩ : ∃ y, σ[j]? = some y := ⟨_, List.getElem?_eq_getElem (by rw [hσl.out]; exact hjl)⟩
              have hmem := hσ.out.mem_iff.1 (List.mem_of_getElem? hy)
              have hpy := Lib.hid (hs.out.pk y hmem)
              have htk := Lib.hid (take_snoc' hy)
              have hld := hps.out.load hy hB3
              replace hy := Lib.hid hy
              have h47 := Lib.hid (show sd.n + y.p.d.n ≤ 140737488355328 by
                have e1 := hsd.bs.len
                have e2 := hsum.out
                have e3 : ((σ.take j).flatMap Fp.ds).length ≤ (σ.flatMap Fp.ds).length := by
                  have : σ.flatMap Fp.ds = (σ.take j).flatMap Fp.ds ++ (σ.drop j).flatMap Fp.ds := by rw [← List.flatMap_append, List.take_append_drop]
                  rw [this, List.length_append]; omega
                have e4 := (hright.out y hmem).2.1
                have e5 := (hright.out y hmem).1
                omega)
              obtain ⟨hr0, hl0, _, _⟩ := pk_at hX.h0
              rename_i wr3
              have hX0 := hX
              clear hr0 hl0
              go_wp2_with (first | go_big_skip | (refine wpList_storeA_bx rfl 28 (.tmp 16) (.tmp 115) rfl _ _ rfl rfl (bs := []) (hX.alloc (pkA zPk) 28) (by rw [pkA_size]; exact i28) ((pkA_size _).trans (pkA_size _).symm) (pkA_one _) ?_; intro W7 hX7 hg; have hX7 : Bx w W7 [_, _, _] := hX7; have hs1 := (hs1.alloc _).box (heap_alloc_new _ _) (by decide) hg; have hsd := (hsd.alloc _).box (heap_alloc_new _ _) (by decide) hg; have hBw := Nat.le_trans (size_le_alloc hBw _) hg.size; have hB3 := below_grown (hB3.trans ((Below.refl _ _).alloc hB3.size _)) hg hB3.size; obtain ⟨hr, hl, _, _⟩ := pk_at hX7.h0; obtain ⟨hr14, hl14, _, _⟩ := pk_at hX7.h1; clear hg; dsimp only [Act.put]) | (at_builtin; refine wpList_append_sl rfl (.tmp 117) (.tmp 119) rfl B sd _ rfl hsd y.p.d y.ds rfl (hpy.out.d.below hX7.bel) h47.out hBw ?_; intro s5 W8 hs5 hn5 hb5; replace hn5 := Lib.hid hn5; have hX8 := hX7.tail.call' hb5 (Nat.le_of_lt hlt2) (by intro x hx; simp only [List.mem_cons, List.not_mem_nil, or_false] at hx; rcases hx with rfl | rfl; (· exact hlt14); (· exact hlt2)); have hs1 := hs1.under hb5 h1B.out; have hB3 := hB3.trans (hb5.mono hB3b); have hBw := Nat.le_trans hBw hb5.size; obtain ⟨hr14, hl14, _, _⟩ := pk_at hX8.h0; clear hb5 hX7; dsimp only [Act.put]) | (refine wpList_store_bx rfl 26 (.tmp 121) (.tmp 120) rfl _ 45 _ rfl rfl (bs := []) hX8 (size26 _) rfl rfl (by rw [pkA_size]; decide) _ (pkA_set_d _ _ _ _) ?_; intro W9 hX9 hg; have hX9 : Bx w W9 [_, _] := hX9; have hs1 := hs1.box hX8.h0 (by decide) hg; have hs5 := hs5.box hX8.h0 (by decide) hg; have hB3 := below_grown hB3 hg h14; have hBw := Nat.le_trans hBw hg.size; clear hg; dsimp only [Act.put]))
              go_roundw
              case rel => exact ⟨j + 1, s5, by go_num, by omega, hX9, by rw [htk.out, List.flatMap_append]; simpa using hs5, hs1, hB3, hBw⟩
              case measure => simp [intOf]; omega
            · obtain rfl : j = k := by omega
              rw [List.take_of_length_le (by rw [hσl.out]; exact Nat.le_refl _)] at hsd
              have hn1 : s1.n ≤ 140737488351232 := by have := hs1.bs.len; have := hpx0.out.om; have := hpx0.out.o.len; omega
              have hn2 : sd.n ≤ 140737488351232 := by have := hsd.bs.len; have := hsum.out; omega
              have hl1 := Lib.hid (show s1.n = x0.p.o.n by rw [← hs1.bs.len]; exact hpx0.out.o.len)
              have hl2 := Lib.hid hsd.bs.len.symm
              obtain ⟨hr, hl, _, _⟩ := pk_at hX.h0
              by_cases hv6 : x0.p.v = 6
              · have hvb : (x0.p.v == 6) = true := by simpa using hv6
                have hq := Lib.hid (show ({ joinW x0.p with o := s1, d := sd } : Pk) = { x0.p with o := s1, d := sd, more := false, frag := false, id := 0 } by unfold joinW; rw [if_pos hv6])
                have hJ := Lib.hid (joinR_ok hE.out hchkT.out hgo2.out hx0.out s1 sd hl1.out hl2.out)
                rw [hq.out] at hJ
                have hhd := Lib.hid (fun (V : World) (hb : Below w.heap.size w V) (h1 : Bs V s1 x0.os) (h2 : Bs V sd (σ.flatMap Fp.ds)) => head_any { x0.p with o := s1, d := sd, more := false, frag := false, id := 0 } x0.os (σ.flatMap Fp.ds) V ⟨h1, h2, hn1, hn2⟩ (hS.below hb))
                generalize headF { x0.p with o := s1, d := sd, more := false, frag := false, id := 0 } x0.os = H at hJ hhd
                clear hv6
                by_cases hh : H = 0
                · have hhb : (H == 0) = true := by simpa using hh
                  rw [if_pos hh] at hJ
                  replace hh := Lib.hid hh
                  go_wp2_with (first | go_big_skip | (refine wpList_store_bx rfl 4 (.tmp 123) (.const _) rfl _ 41 _ rfl rfl (bs := []) hX (size4 _) rfl rfl (by rw [pkA_size]; decide) _ (pkA_set_more _ _) ?_; intro W4 hX4 hg; have hX4 : Bx w W4 [_, _] := hX4; have hs1 := hs1.box hX.h0 (by decide) hg; have hsd := hsd.box hX.h0 (by decide) hg; obtain ⟨hr, hl, _, _⟩ := pk_at hX4.h0; clear hg hX; dsimp only [Act.put]) | (refine wpList_store_bx rfl 4 (.tmp 127) (.const _) rfl _ 42 _ rfl rfl (bs := []) hX4 (size4 _) rfl rfl (by rw [pkA_size]; decide) _ (pkA_set_frag _ _) ?_; intro W5 hX5 hg; have hX5 : Bx w W5 [_, _] := hX5; have hs1 := hs1.box hX4.h0 (by decide) hg; have hsd := hsd.box hX4.h0 (by decide) hg; obtain ⟨hr, hl, _, _⟩ := pk_at hX5.h0; clear hg hX4; dsimp only [Act.put]) | (refine wpList_store_bx rfl 25 (.tmp 128) (.const _) rfl _ 39 _ rfl rfl (bs := []) hX5 (size25 _) rfl rfl (by rw [pkA_size]; decide) _ (pkA_set_id _ _) ?_; intro W6 hX6 hg; have hX6 : Bx w W6 [_, _] := hX6; have hs1 := hs1.box hX5.h0 (by decide) hg; have hsd := hsd.box hX5.h0 (by decide) hg; obtain ⟨hr, hl, _, _⟩ := pk_at hX6.h0; clear hg hX5; dsimp only [Act.put]) | (go_at_call 31; ((with_reducible refine (hhd.out _ hX6.bel hs1.bs hsd.bs).mono ?_); rintro e w7 ⟨rfl, hb⟩; have hX7 := hX6.call hb; have hs1 := hs1.below hb; have hsd := hsd.below hb; obtain ⟨hr, hl, _, _⟩ := pk_at hX7.h0; clear hb hX6)) | (refine wpList_build_to rfl 28 #[] rfl (pkA zPk) (by kernel_rfl) ?_) | (refine wpList_storeA_bx rfl 28 (.tmp 2) (.tmp 132) rfl _ _ rfl rfl (bs := [_]) hX7 (by rw [pkA_size]; exact i28) ((pkA_size _).trans (pkA_size _).symm) (pkA_one _) ?_; intro W9 hX9 hg9))
                  have hX9 : Bx w W9 [_, _] := hX9
                  exact bodyPost_ret (results_cell2 (q := 2) (t := 3) rfl _ _ _ _ _ (.int .i64 1) rfl rfl hX9.h1 (g28 _) (by rw [pkA_size]; exact i28)) rfl (RJ.err hσ.out hsort.out hJ.out hX9.bel)
                · have hhb : (H == 0) = false := by simpa using hh
                  rw [if_neg hh] at hJ
                  replace hh := Lib.hid hh
                  go_wp2_with (first | go_big_skip | (refine wpList_store_bx rfl 4 (.tmp 123) (.const _) rfl _ 41 _ rfl rfl (bs := []) hX (size4 _) rfl rfl (by rw [pkA_size]; decide) _ (pkA_set_more _ _) ?_; intro W4 hX4 hg; have hX4 : Bx w W4 [_, _] := hX4; have hs1 := hs1.box hX.h0 (by decide) hg; have hsd := hsd.box hX.h0 (by decide) hg; obtain ⟨hr, hl, _, _⟩ := pk_at hX4.h0; clear hg hX; dsimp only [Act.put]) | (refine wpList_store_bx rfl 4 (.tmp 127) (.const _) rfl _ 42 _ rfl rfl (bs := []) hX4 (size4 _) rfl rfl (by rw [pkA_size]; decide) _ (pkA_set_frag _ _) ?_; intro W5 hX5 hg; have hX5 : Bx w W5 [_, _] := hX5; have hs1 := hs1.box hX4.h0 (by decide) hg; have hsd := hsd.box hX4.h0 (by decide) hg; obtain ⟨hr, hl, _, _⟩ := pk_at hX5.h0; clear hg hX4; dsimp only [Act.put]) | (refine wpList_store_bx rfl 25 (.tmp 128) (.const _) rfl _ 39 _ rfl rfl (bs := []) hX5 (size25 _) rfl rfl (by rw [pkA_size]; decide) _ (pkA_set_id _ _) ?_; intro W6 hX6 hg; have hX6 : Bx w W6 [_, _] := hX6; have hs1 := hs1.box hX5.h0 (by decide) hg; have hsd := hsd.box hX5.h0 (by decide) hg; obtain ⟨hr, hl, _, _⟩ := pk_at hX6.h0; clear hg hX5; dsimp only [Act.put]) | (go_at_call 31; ((with_reducible refine (hhd.out _ hX6.bel hs1.bs hsd.bs).mono ?_); rintro e w7 ⟨rfl, hb⟩; have hX7 := hX6.call hb; have hs1 := hs1.below hb; have hsd := hsd.below hb; obtain ⟨hr, hl, _, _⟩ := pk_at hX7.h0; clear hb hX6)) | (refine wpList_storeA_bx rfl 28 (.tmp 2) (.tmp 133) rfl _ _ rfl rfl (bs := [_]) hX7 (by rw [pkA_size]; exact i28) ((pkA_size _).trans (pkA_size _).symm) (pkA_one _) ?_; intro W9 hX9 hg9; have hs1 := hs1.box hX7.h1 (by decide) hg9; have hsd := hsd.box hX7.h1 (by decide) hg9))
                  have hX9 : Bx w W9 [_, _] := hX9
                  exact bodyPost_ret (results_cell2 (q := 2) (t := 3) rfl _ _ _ _ _ (.int .i64 0) rfl rfl hX9.h1 (g28 _) (by rw [pkA_size]; exact i28)) rfl (RJ.ok hσ.out hsort.out hJ.out hq.out hs1 (hsd.mono (Nat.le_of_lt hlt2)) hX9.bel)
              · have hvb : (x0.p.v == 6) = false := by simpa using hv6
                have hq := Lib.hid (show ({ joinW x0.p with o := s1, d := sd } : Pk) = { x0.p with o := s1, d := sd, more := false } by unfold joinW; rw [if_neg hv6])
                have hJ := Lib.hid (joinR_ok hE.out hchkT.out hgo2.out hx0.out s1 sd hl1.out hl2.out)
                rw [hq.out] at hJ
                have hhd := Lib.hid (fun (V : World) (hb : Below w.heap.size w V) (h1 : Bs V s1 x0.os) (h2 : Bs V sd (σ.flatMap Fp.ds)) => head_any { x0.p with o := s1, d := sd, more := false } x0.os (σ.flatMap Fp.ds) V ⟨h1, h2, hn1, hn2⟩ (hS.below hb))
                generalize headF { x0.p with o := s1, d := sd, more := false } x0.os = H at hJ hhd
                clear hv6
                by_cases hh : H = 0
                · have hhb : (H == 0) = true := by simpa using hh
                  rw [if_pos hh] at hJ
                  replace hh := Lib.hid hh
                  go_wp2_with (first | go_big_skip | (refine wpList_store_bx rfl 4 (.tmp 123) (.const _) rfl _ 41 _ rfl rfl (bs := []) hX (size4 _) rfl rfl (by rw [pkA_size]; decide) _ (pkA_set_more _ _) ?_; intro W4 hX4 hg; have hX4 : Bx w W4 [_, _] := hX4; have hs1 := hs1.box hX.h0 (by decide) hg; have hsd := hsd.box hX.h0 (by decide) hg; obtain ⟨hr, hl, _, _⟩ := pk_at hX4.h0; clear hg hX; dsimp only [Act.put]) | (go_at_call 31; ((with_reducible refine (hhd.out _ hX4.bel hs1.bs hsd.bs).mono ?_); rintro e w7 ⟨rfl, hb⟩; have hX7 := hX4.call hb; have hs1 := hs1.below hb; have hsd := hsd.below hb; obtain ⟨hr, hl, _, _⟩ := pk_at hX7.h0; clear hb hX4)) | (refine wpList_build_to rfl 28 #[] rfl (pkA zPk) (by kernel_rfl) ?_) | (refine wpList_storeA_bx rfl 28 (.tmp 2) (.tmp 132) rfl _ _ rfl rfl (bs := [_]) hX7 (by rw [pkA_size]; exact i28) ((pkA_size _).trans (pkA_size _).symm) (pkA_one _) ?_; intro W9 hX9 hg9))
                  have hX9 : Bx w W9 [_, _] := hX9
                  exact bodyPost_ret (results_cell2 (q := 2) (t := 3) rfl _ _ _ _ _ (.int .i64 1) rfl rfl hX9.h1 (g28 _) (by rw [pkA_size]; exact i28)) rfl (RJ.err hσ.out hsort.out hJ.out hX9.bel)
                · have hhb : (H == 0) = false := by simpa using hh
                  rw [if_neg hh] at hJ
                  replace hh := Lib.hid hh
                  go_wp2_with (first | go_big_skip | (refine wpList_store_bx rfl 4 (.tmp 123) (.const _) rfl _ 41 _ rfl rfl (bs := []) hX (size4 _) rfl rfl (by rw [pkA_size]; decide) _ (pkA_set_more _ _) ?_; intro W4 hX4 hg; have hX4 : Bx w W4 [_, _] := hX4; have hs1 := hs1.box hX.h0 (by decide) hg; have hsd := hsd.box hX.h0 (by decide) hg; obtain ⟨hr, hl, _, _⟩ := pk_at hX4.h0; clear hg hX; dsimp only [Act.put]) | (go_at_call 31; ((with_reducible refine (hhd.out _ hX4.bel hs1.bs hsd.bs).mono ?_); rintro e w7 ⟨rfl, hb⟩; have hX7 := hX4.call hb; have hs1 := hs1.below hb; have hsd := hsd.below hb; obtain ⟨hr, hl, _, _⟩ := pk_at hX7.h0; clear hb hX4)) | (refine wpList_storeA_bx rfl 28 (.tmp 2) (.tmp 133) rfl _ _ rfl rfl (bs := [_]) hX7 (by rw [pkA_size]; exact i28) ((pkA_size _).trans (pkA_size _).symm) (pkA_one _) ?_; intro W9 hX9 hg9; have hs1 := hs1.box hX7.h1 (by decide) hg9; have hsd := hsd.box hX7.h1 (by decide) hg9))
                  have hX9 : Bx w W9 [_, _] := hX9
                  exact bodyPost_ret (results_cell2 (q := 2) (t := 3) rfl _ _ _ _ _ (.int .i64 0) rfl rfl hX9.h1 (g28 _) (by rw [pkA_size]; exact i28)) rfl (RJ.ok hσ.out hsort.out hJ.out hq.out hs1 (hsd.mono (Nat.le_of_lt hlt2)) hX9.bel)
set_option maxRecDepth 100000 in
set_option maxHeartbeats 1000000 in
theorem join_b (s : Sl) (l : List Fp) (w : World) (hs : PkS w s l) (hm : s.n ≤ 925904528626) (hS : Sh w) (hE : endR l = some (-1)) : Calls Tryd.prog 19 #[.slice s.a s.n s.c] w (RJ l w) := by
  have hX := (Bx.start w).alloc (pkA zPk) 28
  have hend := Lib.hid (fun (V : World) (hb : Below w.heap.size w V) => RE.two (r := endR l) (a := (-1)) (b := true) (by rw [hE]; rfl) (by rw [hE]; rfl) (end_any s l V (hs.below hb) hm (hS.below hb)))
  obtain ⟨hright, hlo, hhi⟩ := endR_right hE
  replace hright := Lib.hid (fun x (hx : x ∈ l) => right_nums (hright x hx))
  have hlens := Lib.hid hs.lens
  have hln := Lib.hid hs.len
  replace hs := Lib.hid hs
  replace hE := Lib.hid hE
  have htt := Lib.hid (show joinTo l (-1) = 65536 by unfold joinTo; rw [if_neg (by omega)])
  obtain ⟨sa, n, c⟩ := s
  simp only at hm hln hend
  clear hlo hhi
  go_enter Tryd.func19, Tryd.ntmps19
  go_wp2_with (first | (go_at_call 42; (with_reducible refine (hend.out _ hX.bel).mono ?_); rintro e w1 ⟨rfl, hb⟩; have hX := hX.call hb; clear hb))
  go_loopw [41] (fun i wr => JRel1 l 65536 (-1) n w i wr) (fun i _ => n - (intOf i).toNat)
  case atStart => exact ⟨0, rfl, Nat.zero_le _, rfl, hX⟩
  case round =>
    clear hX
    obtain ⟨k, rfl, hk, hchk, hX⟩ := hrel
    replace hchk := Lib.hid hchk
    rename_i wr
    by_cases hlt : k < n
    · obtain ⟨x, hx⟩ : ∃ x, l[k]? = some x := ⟨_, List.getElem?_eq_getElem (by rw [hln.out]; exact hlt)⟩
      have hmem := List.mem_of_getElem? hx
      obtain ⟨hr0, hr1, -⟩ := hright.out x hmem
      have hdrop := Lib.hid (drop_cons hx)
      have hxe := Lib.hid (show endsF x = x.p.off + (x.p.d.n : Int) by unfold endsF; rw [(hlens.out x hmem).1])
      obtain ⟨bl, ol, hsa⟩ : ∃ b o, sa = some ⟨b, o, none⟩ := by
        rcases hs.out.at_ with ⟨_, h0, _⟩ | ⟨b, o, h1, _⟩
        · simp only at h0; omega
        · exact ⟨b, o, h1⟩
      subst hsa
      have hld := hs.out.load hx hX.bel
      replace hx := Lib.hid hx
      have hkb : ((k : Int) != (-1)) = true := by simp
      have hkm2 := Lib.hid (show (k : Int) ≠ (-1) by omega)
      have hc1' : x.p.off < 65536 := by omega
      have hc2' : x.p.off + (x.p.d.n : Int) ≤ 65536 := by omega
      go_wp2_with (first | go_big_skip | (refine wpList_storeA_bx rfl 28 (.tmp 8) (.tmp 45) rfl _ _ rfl rfl (bs := []) (hX.alloc (pkA zPk) 28) (by rw [pkA_size]; exact i28) ((pkA_size _).trans (pkA_size _).symm) (pkA_one _) ?_; intro W1 hX1 hg; have hX1 : Bx w W1 [_, _] := hX1; obtain ⟨hr, hl, _, _⟩ := pk_at hX1.h0; clear hg; dsimp only [Act.put]) | (refine wpList_build_to rfl 28 #[] rfl (pkA zPk) (by kernel_rfl) ?_) | (refine wpList_storeA_bx rfl 28 (.tmp 2) (.tmp 65) rfl _ _ rfl rfl (bs := [_]) hX1 (by rw [pkA_size]; exact i28) ((pkA_size _).trans (pkA_size _).symm) (pkA_one _) ?_; intro W9 hX9 hg9))
      go_roundw
      case rel => exact ⟨k + 1, by go_num, by omega, by rw [hchk.out, hdrop.out]; exact joinChk_go (.inr ⟨hc1', by rw [hxe.out]; exact hc2'⟩), hX1.tail⟩
      case measure => simp [intOf]; omega
    · obtain rfl : k = n := by omega
      have hchkT := Lib.hid (show joinChk (joinTo l (-1)) (-1) 0 l = true by rw [htt.out, hchk.out, List.drop_eq_nil_of_le (by rw [hln.out]; exact Nat.le_refl _)]; rfl)
      have hlt0 : w.heap.size < wr.heap.size := hX.lt (w.heap.size, 28, pkA zPk) (by simp)
      have hcl43 := Lib.hid (fun (V : World) (hb : Below w.heap.size w V) => (show Calls Tryd.prog 43 #[.slice (sa) k c] V (RQ (l.map Fp.p) V) from clonePk_any ⟨sa, k, c⟩ l V (hs.out.below hb) hm))
      have hs44 := Lib.hid (fun (sa : Option Addr) (sn sc : Nat) (V : World) (B : Nat) (h1 : sn = (l.map Fp.p).length) (h3 : V.ownsRow B 28 46 (.slice sa sn sc) (l.map Fp.p).length (pkCells (l.map Fp.p))) => (show Calls Tryd.prog 44 #[.slice sa sn sc, .func (.func 45) #[] #[]] V (RSort ⟨sa, sn, sc⟩ l B V) from sortPk_any ⟨sa, sn, sc⟩ l B V (by rw [h1, List.length_map]) (by rw [h1, List.length_map, hln.out]; exact hm) (h1 ▸ h3)))
      go_wp2_with (first | (go_at_call 43; ((with_reducible refine (hcl43.out _ hX.bel).mono ?_); rintro e w2 ⟨v, rfl, hown, hb⟩; obtain ⟨⟨sa2, sn, sc⟩, rfl, hso1, hso2⟩ := owns_form hown; replace hso1 := Lib.hid hso1; have hX := hX.call hb; clear hb)) | (go_at_call 44; ((with_reducible refine (hs44.out sa2 sn sc _ _ hso1.out hown).mono ?_); rintro e w3 ⟨rfl, hb, σ, hσ, hsort, hat⟩; have hX := hX.call' hb (Nat.le_of_lt hlt0) (by intro x hx; simp only [List.mem_cons, List.not_mem_nil, or_false] at hx; subst hx; exact hlt0); clear hb)))
      have hps := Lib.hid (pks_sorted (so := ⟨sa2, sn, sc⟩) hs.out hX.bel hσ (hso1.out.trans (List.length_map _)) hso2 hat)
      have hsn : sn = k := by rw [← hln.out, ← List.length_map (f := Fp.p)]; exact hso1.out
      subst hsn
      have hσl := Lib.hid (show σ.length = sn by rw [hσ.length_eq, hln.out])
      clear hown hso1 hso2 hat
      replace hσ := Lib.hid hσ
      replace hsort := Lib.hid hsort
      have hg0 := Lib.hid (show decide ((-1) < (0 : Int)) = true by simp)
      go_loopw [10, 11, 75] (fun x g i wr => JRel2 σ true sn w w3 x g i wr) (fun _ _ i _ => sn - (intOf i).toNat)
      case atStart => exact ⟨0, 0, true, rfl, rfl, rfl, Nat.zero_le _, by omega, by omega, rfl, hX, Below.refl _ _⟩
      case round =>
        clear hX
        obtain ⟨k, at_, gp, rfl, rfl, rfl, hk, hat0, hat1, hgo, hX, hB3⟩ := hrel
        replace hgo := Lib.hid hgo
        by_cases hlt : k < sn
        · obtain ⟨y, hy⟩ : ∃ y, σ[k]? = some y := ⟨_, List.getElem?_eq_getElem (by rw [hσl.out]; exact hlt)⟩
          have hmem := hσ.out.mem_iff.1 (List.mem_of_getElem? hy)
          obtain ⟨hr0, hr1, -⟩ := hright.out y hmem
          have hdrop := Lib.hid (drop_cons hy)
          have hye := Lib.hid (show endsF y = y.p.off + (y.p.d.n : Int) by unfold endsF; rw [(hlens.out y hmem).1])
          obtain ⟨bg, og, hsa⟩ : ∃ b o, sa2 = some ⟨b, o, none⟩ := by
            rcases hps.out.at_ with ⟨_, h0, _⟩ | ⟨b, o, h1, _⟩
            · simp only at h0; omega
            · exact ⟨b, o, h1⟩
          subst hsa
          have hld := hps.out.load hy hB3
          replace hy := Lib.hid hy
          by_cases hc1 : y.p.off < at_
          · skip
            go_wp2_with (first | go_big_skip | (refine wpList_storeA_bx rfl 28 (.tmp 13) (.tmp 78) rfl _ _ rfl rfl (bs := []) (hX.alloc (pkA zPk) 28) (by rw [pkA_size]; exact i28) ((pkA_size _).trans (pkA_size _).symm) (pkA_one _) ?_; intro W1 hX1 hg; have hX1 : Bx w W1 [_, _] := hX1; have hB3 := below_grown (hB3.trans ((Below.refl _ _).alloc hB3.size _)) hg hB3.size; obtain ⟨hr, hl, _, _⟩ := pk_at hX1.h0; clear hg; dsimp only [Act.put]) | (refine wpList_build_to rfl 28 #[] rfl (pkA zPk) (by kernel_rfl) ?_) | (refine wpList_storeA_bx rfl 28 (.tmp 2) (.tmp 83) rfl _ _ rfl rfl (bs := [_]) hX1 (by rw [pkA_size]; exact i28) ((pkA_size _).trans (pkA_size _).symm) (pkA_one _) ?_; intro W9 hX9 hg9))
            have hX9 : Bx w W9 [_, _] := hX9
            refine bodyPost_ret (results_cell2 (q := 2) (t := 3) rfl _ _ _ _ _ (.int .i64 1) rfl rfl hX9.h1 (g28 _) (by rw [pkA_size]; exact i28)) rfl (RJ.err hσ.out hsort.out ?_ hX9.bel)
            exact joinR_over hE.out hchkT.out (by rw [hg0.out, hgo.out, hdrop.out]; exact joinGo_no hc1)
          have hc1' : at_ ≤ y.p.off := by omega
          replace hc1 := Lib.hid hc1
          cases gp
          · skip
            go_wp2_with (first | go_big_skip | (refine wpList_storeA_bx rfl 28 (.tmp 13) (.tmp 78) rfl _ _ rfl rfl (bs := []) (hX.alloc (pkA zPk) 28) (by rw [pkA_size]; exact i28) ((pkA_size _).trans (pkA_size _).symm) (pkA_one _) ?_; intro W1 hX1 hg; have hX1 : Bx w W1 [_, _] := hX1; have hB3 := below_grown (hB3.trans ((Below.refl _ _).alloc hB3.size _)) hg hB3.size; obtain ⟨hr, hl, _, _⟩ := pk_at hX1.h0; clear hg; dsimp only [Act.put]) | (refine wpList_build_to rfl 28 #[] rfl (pkA zPk) (by kernel_rfl) ?_) | (refine wpList_storeA_bx rfl 28 (.tmp 2) (.tmp 83) rfl _ _ rfl rfl (bs := [_]) hX1 (by rw [pkA_size]; exact i28) ((pkA_size _).trans (pkA_size _).symm) (pkA_one _) ?_; intro W9 hX9 hg9))
            go_roundw
            case rel => exact ⟨k + 1, _, _, by go_num, rfl, rfl, by omega, by omega, by omega, by rw [hgo.out, hdrop.out, joinGo_go hc1', hye.out]; rfl, hX1.tail, hB3⟩
            case measure => simp [intOf]; omega
          · skip
            go_wp2_with (first | go_big_skip | (refine wpList_storeA_bx rfl 28 (.tmp 13) (.tmp 78) rfl _ _ rfl rfl (bs := []) (hX.alloc (pkA zPk) 28) (by rw [pkA_size]; exact i28) ((pkA_size _).trans (pkA_size _).symm) (pkA_one _) ?_; intro W1 hX1 hg; have hX1 : Bx w W1 [_, _] := hX1; have hB3 := below_grown (hB3.trans ((Below.refl _ _).alloc hB3.size _)) hg hB3.size; obtain ⟨hr, hl, _, _⟩ := pk_at hX1.h0; clear hg; dsimp only [Act.put]) | (refine wpList_build_to rfl 28 #[] rfl (pkA zPk) (by kernel_rfl) ?_) | (refine wpList_storeA_bx rfl 28 (.tmp 2) (.tmp 83) rfl _ _ rfl rfl (bs := [_]) hX1 (by rw [pkA_size]; exact i28) ((pkA_size _).trans (pkA_size _).symm) (pkA_one _) ?_; intro W9 hX9 hg9))
            go_roundw
            case rel => exact ⟨k + 1, _, _, by go_num, rfl, rfl, by omega, by omega, by omega, by rw [hgo.out, hdrop.out, joinGo_go hc1', hye.out]; rfl, hX1.tail, hB3⟩
            case measure => simp [intOf]; omega
        · obtain rfl : k = sn := by omega
          replace hgo := Lib.hid (show joinGo 0 true σ = some (at_, gp) by rw [hgo.out, List.drop_eq_nil_of_le (by rw [hσl.out]; exact Nat.le_refl _), joinGo])
          cases gp
          case true =>
            go_wp2_with (first | go_big_skip | (refine wpList_build_to rfl 28 #[] rfl (pkA zPk) (by kernel_rfl) ?_) | (refine wpList_storeA_bx rfl 28 (.tmp 2) (.tmp 104) rfl _ _ rfl rfl (bs := []) hX (by rw [pkA_size]; exact i28) ((pkA_size _).trans (pkA_size _).symm) (pkA_one _) ?_; intro W9 hX9 hg9))
            have hX9 : Bx w W9 [_] := hX9
            refine bodyPost_ret (results_cell2 (q := 2) (t := 3) rfl _ _ _ _ _ (.int .i64 110) rfl rfl hX9.h0 (g28 _) (by rw [pkA_size]; exact i28)) rfl (RJ.err hσ.out hsort.out ?_ hX9.bel)
            exact joinR_gap hE.out hchkT.out (by rw [hg0.out]; exact hgo.out) (.inl rfl)
          exact absurd (joinGo_sum _ _ _ _ hgo.out).1 (by decide)

/-- Join of any list. -/
theorem join_any (s : Sl) (l : List Fp) (w : World) (hs : PkS w s l) (hm : s.n ≤ 925904528626) (hS : Sh w) : Calls Tryd.prog 19 #[.slice s.a s.n s.c] w (RJ l w) := by
  cases hE : endR l with
  | none => exact join_none s l _ w hs hm hS hE (List.mergeSort_perm l leO) (sorted_merge l)
  | some last =>
    have h := (endR_right hE).2
    by_cases h0 : last = -1
    · subst h0; exact join_b s l w hs hm hS hE
    · obtain ⟨m, rfl⟩ : ∃ m : Nat, last = m := ⟨last.toNat, by omega⟩
      exact join_a s l m w hs hm hS hE
end Go.Proofs.YtleokgmflelkcaaDoor
