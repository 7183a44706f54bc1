/- opts.Build of options that are carried. opts.Carry. -/
import Derived.Test.YtleokgmflelkcaaDoorVE1
import Derived.Test.YtleokgmflelkcaaDoorVC0
import Derived.BigGuard
set_option linter.unusedSimpArgs false
set_option linter.unusedVariables false
namespace Go.Proofs.YtleokgmflelkcaaDoor
open Go Go.RowKit

/-- Options that are carried, as they lie at the begin of a row. -/
structure CarO (w : World) (g : Nat) (cur : Array Value) (ps : List OS) : Prop where
  heap : w.heap[g]? = some (.cells cur 75 (0, 0))
  row : RowAt cur ps
  kinds : ∀ p ∈ ps, 128 ≤ p.1.1 ∧ p.1.1 ≤ 255
  bs : ∀ p ∈ ps, Bs w p.2 p.1.2
  lay : (layO (ps.map (·.1))).length ≤ 40
theorem CarO.lt {w : World} {g : Nat} {cur : Array Value} {ps : List OS} (h : CarO w g cur ps) : g < w.heap.size := (Array.getElem?_eq_some_iff.1 h.heap).1
theorem CarO.cells {w W : World} {g : Nat} {cur : Array Value} {ps : List OS} (h : CarO w g cur ps) (hb : Below w.heap.size w W) {i : Nat} {p : OS} (hp : ps[i]? = some p) :
    loadN Tryd.prog W ⟨g, i * 2, none⟩ 2 = .ok #[.int .i64 p.1.1, .slice p.2.a p.2.n p.2.c] W := by
  obtain ⟨h1, h2⟩ := h.row i p hp
  refine load2 ?_ ?_
  · rw [hb.cell (p := ⟨g, i * 2, none⟩) h.lt, cell_of_row w g _ cur 75 (0, 0) h.heap]; exact h1
  · rw [hb.cell (p := ⟨g, i * 2 + 1, none⟩) h.lt, cell_of_row w g _ cur 75 (0, 0) h.heap]; exact h2
theorem lay_take (l : List OptL) (k : Nat) : (layO (l.take k)).length ≤ (layO l).length := by
  have : layO l = layO (l.take k) ++ layO (l.drop k) := by unfold layO; rw [← List.flatMap_append, List.take_append_drop]
  rw [this, List.length_append]; omega

theorem two_at {W : World} {b : Nat} {v0 v1 : Value} (h : W.heap[b]? = some (.cells #[v0, v1] 75 (0, 0))) : W.cell? ⟨b, 0, none⟩ = some v0 ∧ W.cell? ⟨b, 1, none⟩ = some v1 :=
  ⟨cell_of_row W b 0 _ 75 (0, 0) h, cell_of_row W b 1 _ 75 (0, 0) h⟩
theorem Below.box {B : Nat} {w W : World} (h : Below B w W) (cs : Array Value) (t : TypeId) : Bx W (W.alloc (.cells cs t)) [(W.heap.size, t, cs)] := (Bx.start W).alloc cs t
/-- Blocks that hold no bytes are as they were. -/
def KeepB (W W' : World) : Prop := ∀ (b : Nat) (t : TypeId) (c : Array Value), t ≠ 5 → W.heap[b]? = some (.cells c t (0, 0)) → W'.heap[b]? = some (.cells c t (0, 0))
theorem append_keep {B : Nat} {W W' : World} {s : Sl} {xs : List Int} (h : Own B W s xs) (hg : W.grownBy W' (Value.slice s.a s.n s.c).ownBlock) : KeepB W W' := by
  intro b t c ht hb
  have hlt := (Array.getElem?_eq_some_iff.1 hb).1
  by_cases he : (some b) = (Value.slice s.a s.n s.c).ownBlock
  · exfalso
    obtain ⟨⟨_, h2⟩, _⟩ := h
    rcases h2 with ⟨hv, _⟩ | ⟨g, cap, cur, hv, _, hh, _⟩
    · rw [hv] at he; cases he
    · rw [hv] at he
      simp only [Value.ownBlock, Option.some.injEq] at he
      subst he
      rw [hh] at hb
      simp only [Option.some.injEq, Obj.cells.injEq] at hb
      exact ht hb.2.1.symm
  · rw [hg.block b hlt he]; exact hb
theorem Own.form {B : Nat} {W : World} {v : Value} {n : Nat} {xs : List Int} (h : W.ownsRow B 5 1 v n (xs.map (Value.int .u8))) (hr : bytesR xs) : ∃ s : Sl, v = .slice s.a s.n s.c ∧ s.n = n ∧ Own B W s xs := by
  have h0 := h
  rcases h.2 with ⟨hv, hn⟩ | ⟨g, cap, cur, hv, _⟩
  · subst hv; subst hn
    exact ⟨⟨none, 0, 0⟩, rfl, rfl, h0, hr⟩
  · subst hv
    exact ⟨⟨some ⟨g, 0, none⟩, n, cap⟩, rfl, rfl, h0, hr⟩
/-- 'append(s0, s...)' of bytes: what holds no bytes is as it was. -/
theorem wpList_append_sk {ops : Array Oper} {rest : List Oper} {o : Oper} {a : Act} {W : World} {Q : Exit → Act → World → Prop} (hgd : o.guard = none) (sx x : Operand) (ho : o.op = .call { callee := .builtin .append, args := #[sx, x], argTypes := #[26, 26] }) (B : Nat) (s0 : Sl) (xs : List Int) (hs : a.eval sx = .slice s0.a s0.n s0.c)
    (hown : Own B W s0 xs) (s : Sl) (ys : List Int) (hx : a.eval x = .slice s.a s.n s.c) (hb : Bs W s ys) (h47 : s0.n + s.n ≤ 140737488355328) (hB : B ≤ W.heap.size)
    (h : ∀ s' W', Own B W' s' (xs ++ ys) → s'.n = s0.n + s.n → Below B W W' → KeepB W W' → wpList Tryd.prog ops Q rest (a.put o.dst (.slice s'.a s'.n s'.c)) W') : wpList Tryd.prog ops Q (o :: rest) a W := by
  refine wpList_append_bs hgd sx x ho B _ s0.n xs hs hown.1 s ys hx hb h47 hB fun v' W' h1 h2 => ?_
  have hr : bytesR (xs ++ ys) := fun z hz => by
    rcases List.mem_append.1 hz with hz | hz
    · exact hown.2 z hz
    · exact hb.rng z hz
  obtain ⟨s', rfl, e, ho'⟩ := Own.form h1 hr
  exact h s' W' ho' e ((Below.refl _ _).grown h2 hB (ownBlock_ge hown.1)) (append_keep hown h2)
theorem step_append_sk {ops : Array Oper} {o : Oper} {a : Act} {W : World} {K : Act → World → Prop} {Q : Exit → Act → World → Prop} {E : Prop} (hg : o.guard = none) (sx x : Operand) (ho : o.op = .call { callee := .builtin .append, args := #[sx, x], argTypes := #[26, 26] }) (B : Nat) (s0 : Sl) (xs : List Int) (hs : a.eval sx = .slice s0.a s0.n s0.c)
    (hown : Own B W s0 xs) (s : Sl) (ys : List Int) (hx : a.eval x = .slice s.a s.n s.c) (hb : Bs W s ys) (h47 : s0.n + s.n ≤ 140737488355328) (hB : B ≤ W.heap.size)
    (h : ∀ s' W', Own B W' s' (xs ++ ys) → s'.n = s0.n + s.n → Below B W W' → KeepB W W' → K (a.put o.dst (.slice s'.a s'.n s'.c)) W') : if Region.wanted o (yielded ops a.tmps) = true then Oper.wp Tryd.prog o a W K Q else E := by
  have hw : Region.wanted o (yielded ops a.tmps) = true := by simp [Region.wanted, hg]
  rw [if_pos hw]
  have hr : bytesR (xs ++ ys) := fun z hz => by
    rcases List.mem_append.1 hz with hz | hz
    · exact hown.2 z hz
    · exact hb.rng z hz
  have fin : ∀ v' W', W'.ownsRow B 5 1 v' (s0.n + s.n) ((xs ++ ys).map (Value.int .u8)) → W.grownBy W' (Value.slice s0.a s0.n s0.c).ownBlock → K (a.put o.dst v') W' := by
    intro v' W' h1 h2
    obtain ⟨s', rfl, e, ho'⟩ := Own.form h1 hr
    exact h s' W' ho' e ((Below.refl _ _).grown h2 hB (ownBlock_ge hown.1)) (append_keep hown h2)
  obtain ⟨i0, hi, hz0, hz1, hz2⟩ := info_parts info5
  obtain ⟨hl, hle, hr2, hat⟩ := hb
  have go : ∀ ad : Addr, s.a = some ad → (∀ j u, (ys.map (Value.int .u8))[j]? = some u → W.cell? (ad.add j) = some u) → Oper.wp Tryd.prog o a W K Q := fun ad h1 hn => by
    rw [h1] at hx
    exact wp_append_own W sx x 26 ho B 5 i0 (.int .u8 0) 1 1 Tryd.underlying26 hi hz0 hz1 hz2 rfl (by decide) _ s0.n _ hs hown.1 ad s.n s.c (ys.map (Value.int .u8)) hx (by rw [List.length_map, hl, Nat.mul_one])
      hn (one_of_bytes ys) (by unfold maxLen; omega) (by omega) hB (fun v' w' h4 h5 _ => fin v' w' (by rwa [List.map_append]) h5)
  rcases hat with ⟨h2, h3⟩ | ⟨b, off, h1, h2, h3⟩
  · have hy : ys = [] := List.eq_nil_of_length_eq_zero (by omega)
    cases h1 : s.a with
    | some ad => exact go ad h1 (fun j u hu => by rw [hy] at hu; simp at hu)
    | none =>
    have hrun := run_append_owned_none (P := Tryd.prog) W B 26 o.type 5 i0 1 Tryd.underlying26 hi _ s0.n _ hown.1
    rw [h1, h2, h3] at hx
    unfold Oper.wp
    simp [execOp, ho, resolve, invoke, builtin, hs, hx, hrun, Result.andThen]
    exact fin _ _ (by rw [h2, hy]; simpa using hown.1) (World.grownBy.refl _ _)
  · exact go _ h1 (cells_of_bs hl h3)
def B1Rel (n : Nat) (w : World) (i : Value) (wr : World) : Prop := ∃ k : Nat, i = .int .i64 k ∧ k ≤ n ∧ Below w.heap.size w wr
def B2Rel (ps : List OS) (n : Nat) (w : World) (lo b i : Value) (wr : World) : Prop :=
  ∃ (k : Nat) (s : Sl), i = .int .i64 k ∧ k ≤ n ∧ lo = .int .i64 (s.n : Int) ∧ b = .slice s.a s.n s.c ∧ Own w.heap.size wr s (layO ((ps.take k).map (·.1))) ∧ Below w.heap.size w wr
def B3Rel (xs : List Int) (w : World) (b : Value) (wr : World) : Prop :=
  ∃ (m : Nat) (s : Sl), b = .slice s.a s.n s.c ∧ m ≤ (4 - xs.length % 4) % 4 ∧ Own w.heap.size wr s (xs ++ List.replicate m 0) ∧ Below w.heap.size w wr
def lenV : Value → Nat
  | .slice _ n _ => n
  | _ => 0
/-- Bytes out of the call's own memory, and no error. -/
def RB2 (xs : List Int) (w : World) (e : Ending) (w' : World) : Prop := ∃ s : Sl, e = .returned (.tuple #[.slice s.a s.n s.c, .int .i64 0]) ∧ Own w.heap.size w' s xs ∧ Below w.heap.size w w'

set_option maxRecDepth 100000 in
set_option maxHeartbeats 2000000 in
theorem build58 (g n c : Nat) (cur : Array Value) (ps : List OS) (w : World) (h : CarO w g cur ps) (hS : Sh w) (hl : ps.length = n) (hn : n ≤ 1000) : Calls Tryd.prog 58 #[.slice (some ⟨g, 0, none⟩) n c] w (RB2 (padO (layO (ps.map (·.1)))) w) := by
  replace hl := Lib.hid hl
  replace h := Lib.hid h
  go_enter Tryd.func58, Tryd.ntmps58
  go_wp2
  go_loopw [13] (fun i wr => B1Rel n w i wr) (fun i _ => n - (intOf i).toNat)
  case atStart => exact ⟨0, rfl, by omega, Below.refl _ _⟩
  case round =>
    obtain ⟨k, rfl, hk, hB⟩ := hrel
    rename_i wr
    by_cases hlt : k < n
    · obtain ⟨x, hx⟩ : ∃ x, ps[k]? = some x := ⟨_, List.getElem?_eq_getElem (by rw [hl.out]; exact hlt)⟩
      have hld := h.out.cells hB hx
      obtain ⟨hk1, hk2⟩ := h.out.kinds x (List.mem_of_getElem? hx)
      have hxl := (h.out.bs x (List.mem_of_getElem? hx)).len
      have hx38 : x.2.n ≤ 38 := by
        have h1 := h.out.lay
        have h2 := lay_take (ps.map (·.1)) (k + 1)
        rw [← List.map_take, takeL hx, List.map_append, List.map_singleton, layO_snoc] at h2
        simp only [List.length_append, List.length_cons] at h2
        omega
      replace hxl := Lib.hid hxl
      have hsh := Lib.hid (fun (V : World) (hb : Below w.heap.size w V) => (by have := shape_any x.1.1 (by omega) V (hS.below hb); rwa [show shapeF x.1.1 = 0 by unfold shapeF; rw [if_neg (by omega), if_neg (by omega)]] at this : Calls Tryd.prog 75 #[.int .i64 x.1.1] V (RB (.int .i64 0) V)))
      replace hx := Lib.hid hx
      have c1 : decide (x.1.1 < 1) = false := by simp; omega
      have c2 : decide (x.1.1 > 255) = false := by simp; omega
      have c3 : decide ((x.2.n : Int) > 38) = false := by simp; omega
      have hX1 := Below.box hB #[.int .i64 x.1.1, .slice x.2.a x.2.n x.2.c] 75
      go_wp2_with (first | go_big_skip | (go_at_call 75; (with_reducible refine (hsh.out _ (hB.trans (hX1.bel.mono hB.size))).mono ?_); rintro e w2 ⟨rfl, hb⟩; have hX2 := hX1.call hb; clear hb))
      go_roundw
      case rel => exact ⟨k + 1, by go_num, by omega, hB.trans (hX2.bel.mono hB.size)⟩
      case measure => simp [intOf]; omega
    · go_wp2
      go_loopw [4, 7, 46] (fun lo b i wr => B2Rel ps n w lo b i wr) (fun _ _ i _ => n - (intOf i).toNat)
      case atStart => exact ⟨0, ⟨none, 0, 0⟩, rfl, by omega, rfl, rfl, own_nil _ _, hB⟩
      case round =>
        clear hB hlt hk
        obtain ⟨k, s, rfl, hk, rfl, rfl, hs, hB⟩ := hrel
        have hsn := hs.bs.len
        by_cases hlt : k < n
        · obtain ⟨x, hx⟩ : ∃ x, ps[k]? = some x := ⟨_, List.getElem?_eq_getElem (by rw [hl.out]; exact hlt)⟩
          have hld := h.out.cells hB hx
          obtain ⟨hk1, hk2⟩ := h.out.kinds x (List.mem_of_getElem? hx)
          have hxb := h.out.bs x (List.mem_of_getElem? hx)
          have hsnoc := Lib.hid (show layO ((ps.take (k + 1)).map (·.1)) = layO ((ps.take k).map (·.1)) ++ (x.1.1 :: ((2 + x.1.2.length : Nat) : Int) :: x.1.2) by rw [takeL hx, List.map_append, List.map_singleton, layO_snoc])
          have h40 : s.n + (2 + x.2.n) ≤ 40 := by
            have h1 := h.out.lay
            have h2 := lay_take (ps.map (·.1)) (k + 1)
            rw [← List.map_take, hsnoc.out] at h2
            simp only [List.length_append, List.length_cons] at h2
            have := hxb.len
            omega
          have hxl := Lib.hid hxb.len
          replace hxb := Lib.hid hxb
          have hsh := Lib.hid (fun (V : World) (hb : Below w.heap.size w V) => (by have := shape_any x.1.1 (by omega) V (hS.below hb); rwa [show shapeF x.1.1 = 0 by unfold shapeF; rw [if_neg (by omega), if_neg (by omega)]] at this : Calls Tryd.prog 75 #[.int .i64 x.1.1] V (RB (.int .i64 0) V)))
          replace hx := Lib.hid hx
          replace hsn := Lib.hid hsn
          have c3 : decide ((s.n : Int) + (2 + (x.2.n : Int)) > 40) = false := by simp; omega
          have c4 : decide ((2 : Int) + (x.2.n : Int) > 1) = true := by simp; omega
          have h47 := Lib.hid (show s.n + (⟨some ⟨0, 0, none⟩, 1, 1⟩ : Sl).n ≤ 140737488355328 by simp only; omega)
          have hX1 := Below.box hB #[.int .i64 x.1.1, .slice x.2.a x.2.n x.2.c] 75
          have hs0 := hs.alloc (.cells #[.int .i64 x.1.1, .slice x.2.a x.2.n x.2.c] 75)
          go_upto_region 22 with (first | go_big_skip | (go_at_call 75; (with_reducible refine (hsh.out _ (hB.trans (hX1.bel.mono hB.size))).mono ?_); rintro e w2 ⟨rfl, hb⟩; have hX2 := hX1.call hb; have hs0 := hs0.below hb; obtain ⟨hc0, hc1⟩ := two_at hX2.h0; clear hb) | (at_builtin; refine wpList_append_sk rfl (.tmp 63) (.tmp 67) rfl w.heap.size s _ rfl (hs0.alloc _) ⟨some ⟨_, 0, none⟩, 1, 1⟩ [x.1.1] rfl (one_bs _ _ ⟨by omega, by omega⟩) h47.out (size_le_alloc (Nat.le_trans hB.size hX2.bel.size) _) ?_; intro s1 W3 hs1 hn1 hb3 hk3; replace hn1 := Lib.hid hn1; replace hn1 := Lib.hid hn1.out))
          have hbox := hk3 _ 75 _ (by decide) (((Bx.junk hX2 (.cells #[.int .u8 x.1.1] 5)).h0))
          obtain ⟨hc0', hc1'⟩ := two_at hbox
          have hB3 : Below w.heap.size w W3 := (hB.trans ((hX2.bel.alloc hX2.bel.size _).mono hB.size)).trans hb3
          have hs1n := Lib.hid (show s1.n = s.n + 1 from hn1.out)
          have hlt9 := (Array.getElem?_eq_some_iff.1 hbox).1
          clear hc0 hc1 hn1 hb3 hk3 hX1 hs0
          generalize hb9 : wr.heap.size = b9 at *
          have hw1 : IntKind.u8.wrap (2 + (x.2.n : Int)) = 2 + (x.2.n : Int) := by unfold IntKind.wrap; simp [IntKind.bits, IntKind.signed]; omega
          have hownA := Lib.hid ((hs1.alloc (.cells #[.int .u8 (2 + (x.2.n : Int))] 5)).below (Below.refl _ _).drew)
          have honeA := Lib.hid ((one_bs W3 (2 + (x.2.n : Int)) ⟨by omega, by omega⟩).below (Below.refl _ _).drew)
          have hszA := Lib.hid (show w.heap.size ≤ (W3.alloc (.cells #[.int .u8 (2 + (x.2.n : Int))] 5)).drew.heap.size by have := hB3.size; simp; omega)
          have hbelA := Lib.hid ((Below.refl W3.heap.size W3).alloc (Nat.le_refl _) (.cells #[.int .u8 (2 + (x.2.n : Int))] 5)).drew
          have hboxA := Lib.hid (show (W3.alloc (.cells #[.int .u8 (2 + (x.2.n : Int))] 5)).drew.heap[b9]? = some (.cells #[.int .i64 x.1.1, .slice x.2.a x.2.n x.2.c] 75 (0, 0)) by rw [hbelA.out.block b9 hlt9]; exact hbox)
          have h47A := Lib.hid (show s1.n + (⟨some ⟨W3.heap.size, 0, none⟩, 1, 1⟩ : Sl).n ≤ 140737488355328 by have := hs1n.out; simp only; omega)
          go_region_law (first | (refine step_append_sk (by rfl) (.tmp 71) (.tmp 74) (by rfl) w.heap.size s1 _ (by rfl) hownA.out ⟨some ⟨W3.heap.size, 0, none⟩, 1, 1⟩ [2 + (x.2.n : Int)] (by rfl) honeA.out h47A.out hszA.out ?_; intro s2 W5 hs2 hn2 hb5 hk5; replace hn2 := Lib.hid hn2; have hbox2 := hk5 b9 75 _ (by decide) hboxA.out; obtain ⟨hd0, hd1⟩ := two_at hbox2; have hB5 : Below w.heap.size w W5 := (hB3.trans (hbelA.out.mono hB3.size)).trans hb5; clear hb5 hk5) | (refine step_append_sk (by rfl) (.tmp 75) (.tmp 77) (by rfl) w.heap.size s2 _ (by rfl) hs2 x.2 x.1.2 (by rfl) (hxb.out.below hB5) (by have h1 := hn2.out; have h2 := hs1n.out; simp only at h1; omega) hB5.size ?_; intro s3 W6 hs3 hn3 hb6 hk6; replace hn3 := Lib.hid hn3))
          all_goals
            go_wp2
            go_roundw
            case rel =>
              refine ⟨k + 1, s3, by go_num, by omega, ?_, rfl, ?_, hB5.trans hb6⟩
              · have h1 := hn2.out
                have h2 := hn3.out
                have h3 := hs1n.out
                simp only at h1
                congr 1
                omega
              · rw [hsnoc.out]
                have e : ((2 + x.1.2.length : Nat) : Int) = 2 + (x.2.n : Int) := by rw [hxl.out]; push_cast; rfl
                rw [e]
                simpa using hs3
            case measure => simp [intOf]; omega
        · have hkn : k = n := by omega
          subst hkn
          rw [List.take_of_length_le (by rw [hl.out]; exact Nat.le_refl _)] at hs
          have hxs40 := h.out.lay
          generalize hxs : layO (ps.map (·.1)) = xs at *
          replace hxs := Lib.hid hxs
          have hxl := Lib.hid hs.bs.len
          replace hsn := Lib.hid hsn
          go_wp2
          go_loopw [7] (fun b wr => B3Rel xs w b wr) (fun b _ => 100 - lenV b)
          case atStart => exact ⟨0, s, rfl, Nat.zero_le _, by simpa using hs, hB⟩
          case round =>
            clear hB hs
            obtain ⟨m, s, rfl, hm, hs, hB⟩ := hrel
            have hlen := hs.bs.len
            rw [List.length_append, List.length_replicate] at hlen
            by_cases h4 : s.n % 4 = 0
            · have hm0 : m = (4 - xs.length % 4) % 4 := by omega
              have h4' : (((s.n : Int) % 4) != 0) = false := by simp; omega
              replace hlen := Lib.hid hlen
              replace hm0 := Lib.hid hm0
              go_wp2
              go_ret2
              refine ⟨s, rfl, ?_, hB⟩
              rw [hxs.out]
              unfold padO
              rw [← hm0.out]
              exact hs
            · have h4' : (((s.n : Int) % 4) != 0) = true := by simp; omega
              have hm0 : m + 1 ≤ (4 - xs.length % 4) % 4 := by omega
              have h47 := Lib.hid (show s.n + (⟨some ⟨0, 0, none⟩, 1, 1⟩ : Sl).n ≤ 140737488355328 by simp only; omega)
              have hsn50 : s.n ≤ 50 := by omega
              replace hlen := Lib.hid hlen
              go_wp2_with (at_builtin; refine wpList_append_sk rfl (.tmp 84) (.tmp 85) rfl w.heap.size s _ rfl (hs.alloc _) ⟨some ⟨_, 0, none⟩, 1, 1⟩ [0] rfl (one_bs _ _ ⟨by omega, by omega⟩) h47.out (size_le_alloc hB.size _) ?_; intro s1 W3 hs1 hn1 hb3 hk3; replace hn1 := Lib.hid hn1)
              go_roundw
              case rel => exact ⟨m + 1, s1, rfl, hm0, by rw [List.replicate_succ', ← List.append_assoc]; exact hs1, (hB.alloc hB.size _).trans hb3⟩
              case measure =>
                have h1 := hn1.out
                simp only at h1
                simp [lenV]; omega
theorem CarO.nil58 (a : Option Addr) (c : Nat) (w : World) : Calls Tryd.prog 58 #[.slice a 0 c] w (RB2 [] w) :=
  (buildOpt0 a c w).mono fun e w' ⟨he, hb⟩ => ⟨⟨none, 0, 0⟩, he, own_nil _ _, hb⟩
end Go.Proofs.YtleokgmflelkcaaDoor
namespace Go.Proofs.YtleokgmflelkcaaDoor
open Go Go.RowKit

theorem optCells_len : ∀ (l : List OptL) (ss : List Sl), ss.length = l.length → (optCells l ss).length = l.length * 2
  | [], [], _ => rfl
  | o :: l, s :: ss, h => by
    rw [optCells, List.length_append, optCells_len l ss (by simpa using h)]
    simp [optCell]; omega
theorem optCells_get : ∀ (l : List OptL) (ss : List Sl), ss.length = l.length → ∀ (q : Nat) (p : OS), (l.zip ss)[q]? = some p → (optCells l ss)[q * 2]? = some (.int .i64 p.1.1) ∧ (optCells l ss)[q * 2 + 1]? = some (.slice p.2.a p.2.n p.2.c)
  | [], [], _, q, p, hp => by simp at hp
  | o :: l, s :: ss, h, 0, p, hp => by
    simp only [List.zip_cons_cons, List.getElem?_cons_zero, Option.some.injEq] at hp
    subst hp
    exact ⟨rfl, rfl⟩
  | o :: l, s :: ss, h, q + 1, p, hp => by
    simp only [List.zip_cons_cons, List.getElem?_cons_succ] at hp
    obtain ⟨h1, h2⟩ := optCells_get l ss (by simpa using h) q p hp
    have e : ∀ i, (optCells (o :: l) (s :: ss))[2 + i]? = (optCells l ss)[i]? := fun i => by
      rw [optCells, List.getElem?_append_right (by simp [optCell])]
      congr 1
      simp [optCell]
    rw [show (q + 1) * 2 = 2 + q * 2 by omega, show 2 + q * 2 + 1 = 2 + (q * 2 + 1) by omega, e, e]
    exact ⟨h1, h2⟩
theorem zip_keep : ∀ (l : List OptL) (ss : List Sl), ss.length = l.length → ((l.zip ss).filter kpP).map (·.1) = keepO l
  | [], [], _ => rfl
  | o :: l, s :: ss, h => by
    have ih := zip_keep l ss (by simpa using h)
    unfold keepO at ih ⊢
    rw [List.zip_cons_cons, List.filter_cons, List.filter_cons]
    by_cases hk : 128 ≤ o.1
    · rw [if_pos (by simpa [kpP] using hk), if_pos (by simpa using hk), List.map_cons, ih]
    · rw [if_neg (by simpa [kpP] using hk), if_neg (by simpa using hk), ih]

/-- Options that Parse has laid into a row. -/
theorem OptRow.open {B : Nat} {w : World} {v : Value} {n : Nat} {l : List OptL} (h : OptRow B w v n l) (hl : l ≠ []) :
    ∃ (g c : Nat) (cur : Array Value) (ss : List Sl), v = .slice (some ⟨g, 0, none⟩) n c ∧ B ≤ g ∧ w.heap[g]? = some (.cells cur 75 (0, 0)) ∧ cur.size = c * 2 ∧ n ≤ c ∧ c ≤ maxLen ∧ ss.length = l.length ∧ n = l.length ∧ RowAt cur (l.zip ss) ∧ ∀ p ∈ l.zip ss, Own B w p.2 p.1.2 := by
  obtain ⟨ss, h1, h2, h3, h4⟩ := h
  rcases h3.2 with ⟨hv, hn⟩ | ⟨g, cap, cur, hv, hg, hh, hc, hm, hs, ht⟩
  · exact absurd (List.eq_nil_of_length_eq_zero (by omega)) hl
  · refine ⟨g, cap, cur, ss, hv, hg, hh, hs, hc, hm, h1, h2, fun q p hp => ?_, fun p hp => ?_⟩
    · obtain ⟨e1, e2⟩ := optCells_get l ss h1 q p hp
      have hq : q < l.length := by
        have := (List.getElem?_eq_some_iff.1 hp).1
        rw [List.length_zip, h1] at this; omega
      rw [← ht, List.getElem?_take, if_pos (by omega)] at e1 e2
      exact ⟨by simpa using e1, by simpa using e2⟩
    · obtain ⟨i, hi⟩ := List.getElem?_of_mem hp
      rw [List.getElem?_zip_eq_some] at hi
      exact h4 i p.2 p.1 hi.2 hi.1

theorem carry_no (s : Sl) (os : List Int) (w : World) (hs : Bs w s os) (hm : s.n ≤ 140737488351232) (hS : Sh w) (hv : validO os = false) : Calls Tryd.prog 27 #[.slice s.a s.n s.c] w (RS (carryF os) w) := by
  have hB : Below w.heap.size w w := Below.refl _ _
  have hval := Lib.hid (fun (V : World) (hb : Below w.heap.size w V) => hv ▸ valid_any s os V (hs.below hb) hm (hS.below hb))
  have hc := Lib.hid (show carryF os = [] by unfold carryF; rw [hv]; rfl)
  clear hv
  go_enter Tryd.func27, Tryd.ntmps27
  go_wp2_with (first | (go_at_call 51; (with_reducible refine (hval.out _ hB).mono ?_); rintro e w1 ⟨rfl, hb⟩; have hB := hB.trans (hb.mono hB.size); clear hb))
  go_ret
  exact ⟨⟨none, 0, 0⟩, rfl, by rw [hc.out]; exact own_nil _ _, hB⟩

theorem carry_nil (s : Sl) (os : List Int) (w : World) (hs : Bs w s os) (hm : s.n ≤ 40) (hS : Sh w) (hv : validO os = true) (hp : parseO os = some []) : Calls Tryd.prog 27 #[.slice s.a s.n s.c] w (RS (carryF os) w) := by
  have hB : Below w.heap.size w w := Below.refl _ _
  have hval := Lib.hid (fun (V : World) (hb : Below w.heap.size w V) => hv ▸ valid_any s os V (hs.below hb) (by omega) (hS.below hb))
  have hpar := Lib.hid (fun (V : World) (hb : Below w.heap.size w V) => hp ▸ parse_any s os V (hs.below hb) hm (hS.below hb))
  have hc := Lib.hid (show carryF os = [] by unfold carryF; rw [hv, hp]; rfl)
  clear hv hp
  go_enter Tryd.func27, Tryd.ntmps27
  go_wp2_with (first | (go_at_call 51; (with_reducible refine (hval.out _ hB).mono ?_); rintro e w1 ⟨rfl, hb⟩; have hB := hB.trans (hb.mono hB.size); clear hb) | (go_at_call 55; (with_reducible refine (hpar.out _ hB).mono ?_); rintro e w2 ⟨v, m, rfl, hrow, hb⟩; obtain ⟨a, c, rfl⟩ := (hrow [] rfl).form0; have hB := hB.trans (hb.mono hB.size); clear hb hrow) | (go_at_call 56; (with_reducible refine (deleteOpt0 _ _ _).mono ?_); rintro e w3 ⟨rfl, hb⟩; have hB := hB.trans (hb.mono hB.size); clear hb) | (go_at_call 58; (with_reducible refine (buildOpt0 _ _ _).mono ?_); rintro e w4 ⟨rfl, hb⟩; have hB := hB.trans (hb.mono hB.size); clear hb))
  go_ret
  exact ⟨⟨none, 0, 0⟩, rfl, by rw [hc.out]; exact own_nil _ _, hB⟩

/-- What DeleteFunc leaves may be built. -/
theorem carO_of {B g : Nat} {W W' : World} {l : List OptL} {ss : List Sl} {cur : Array Value} {cur0 : Array Value} (hss : ss.length = l.length) (hg0 : W.heap[g]? = some (.cells cur0 75 (0, 0))) (hown : ∀ p ∈ l.zip ss, Own B W p.2 p.1.2) (hk : ∀ o ∈ l, o.1 ≤ 255) (hlay : (layO (keepO l)).length ≤ 40)
    (hh : W'.heap[g]? = some (.cells cur 75 (0, 0))) (hrow : RowAt cur ((l.zip ss).filter kpP)) (hgr : W.grownBy W' (some g)) : CarO W' g cur ((l.zip ss).filter kpP) := by
  refine ⟨hh, hrow, fun p hp => ?_, fun p hp => ?_, ?_⟩
  · obtain ⟨h1, h2⟩ := List.mem_filter.1 hp
    exact ⟨by simpa [kpP] using h2, hk p.1 (List.of_mem_zip (show (p.1, p.2) ∈ l.zip ss from h1)).1⟩
  · obtain ⟨h1, h2⟩ := List.mem_filter.1 hp
    have ho := hown p h1
    refine (ho.kept hgr ?_).bs
    obtain ⟨⟨_, h3⟩, _⟩ := ho
    rcases h3 with ⟨hv, _⟩ | ⟨g', cap, cur', hv, _, hh', _⟩
    · rw [hv]; exact .inl rfl
    · right
      rw [hv]
      simp only [Value.ownBlock, ne_eq, Option.some.injEq]
      rintro rfl
      rw [hh'] at hg0
      simp at hg0
  · rw [zip_keep l ss hss]; exact hlay

set_option maxRecDepth 100000 in
theorem carry_yes (s : Sl) (os : List Int) (l : List OptL) (w : World) (hs : Bs w s os) (hm : s.n ≤ 40) (hS : Sh w) (hv : validO os = true) (hp : parseO os = some l) (hne : l ≠ []) : Calls Tryd.prog 27 #[.slice s.a s.n s.c] w (RS (carryF os) w) := by
  have hB : Below w.heap.size w w := Below.refl _ _
  have hval := Lib.hid (fun (V : World) (hb : Below w.heap.size w V) => hv ▸ valid_any s os V (hs.below hb) (by omega) (hS.below hb))
  have hpar := Lib.hid (fun (V : World) (hb : Below w.heap.size w V) => hp ▸ parse_any s os V (hs.below hb) hm (hS.below hb))
  have hc := Lib.hid (show carryF os = padO (layO (keepO l)) by unfold carryF; rw [hv, hp]; rfl)
  obtain ⟨hf1, hf2⟩ := parse_facts os.length os (Nat.le_refl _) hs.rng l hp
  have hlay := Lib.hid (show (layO (keepO l)).length ≤ 40 by have := keep_size l; have := hs.len; omega)
  have hlen := Lib.hid (show l.length ≤ 40 by
    have : ∀ l : List OptL, l.length ≤ sizeO l := by
      intro l
      induction l with
      | nil => simp
      | cons o l ih => rw [sizeO_cons, List.length_cons]; split <;> omega
    have := this l
    have := hs.len
    omega)
  replace hf1 := Lib.hid hf1
  replace hne := Lib.hid hne
  have hSV := Lib.hid (fun (V : World) (hb : Below w.heap.size w V) => hS.below hb)
  clear hv hp hf2
  go_enter Tryd.func27, Tryd.ntmps27
  go_wp2_with (first | (go_at_call 51; (with_reducible refine (hval.out _ hB).mono ?_); rintro e w1 ⟨rfl, hb⟩; have hB := hB.trans (hb.mono hB.size); clear hb) | (go_at_call 55; (with_reducible refine (hpar.out _ hB).mono ?_); rintro e w2 ⟨v, m, rfl, hrow, hb⟩; obtain ⟨g, c, cur, ss, rfl, hg, hh, hsz, hmc, hcm, hss, hml, hrw, hown⟩ := (hrow l rfl).open hne.out; have hg0 := Nat.le_trans hB.size hg; have hB := hB.trans (hb.mono hB.size); have hdel := Lib.hid (delete56 g m c cur (l.zip ss) w2 hh hsz hmc hcm (by rw [List.length_zip, hss, hml]; exact Nat.min_self _) hrw (fun p hp => by have := hf1.out p.1 (List.of_mem_zip (show (p.1, p.2) ∈ l.zip ss from hp)).1; omega) (by rw [hml]; have := hlen.out; omega)); replace hml := Lib.hid hml; replace hss := Lib.hid hss; replace hh := Lib.hid hh; replace hsz := Lib.hid hsz; replace hown := Lib.hid hown; replace hrw := Lib.hid hrw; clear hb hrow hcm) | (go_at_call 56; (with_reducible refine hdel.out.mono ?_); rintro e w3 ⟨cur', rfl, hh', hsz', hrw', hgr⟩; have hB3 := hB.grown hgr hB.size (by intro k hk; injection hk with hk; omega); have hcar := Lib.hid (carO_of hss.out hh.out hown.out (fun o ho => (hf1.out o ho).2.1) hlay.out hh' hrw' hgr); have hbld := Lib.hid (build58 g _ c cur' _ w3 hcar.out (hSV.out _ hB3) rfl (by have h1 := List.length_filter_le kpP (l.zip ss); rw [List.length_zip] at h1; have := hlen.out; omega)); rw [zip_keep l ss hss.out] at hbld; replace hh' := Lib.hid hh'; replace hsz' := Lib.hid hsz'; replace hrw' := Lib.hid hrw') | (go_at_call 58; (with_reducible refine hbld.out.mono ?_); rintro e w4 ⟨s4, rfl, ho4, hb⟩; have ho4 := ho4.mono hB3.size; have hB4 := hB3.trans (hb.mono hB3.size); clear hb))
  go_ret
  exact ⟨s4, rfl, by rw [hc.out]; exact ho4, hB4⟩

/-- Carry, of whatever bytes. -/
theorem carry_any (s : Sl) (os : List Int) (w : World) (hs : Bs w s os) (hm : s.n ≤ 140737488351232) (hS : Sh w) : Calls Tryd.prog 27 #[.slice s.a s.n s.c] w (RS (carryF os) w) := by
  cases hv : validO os
  · exact carry_no s os w hs hm hS hv
  · obtain ⟨h1, h2, l, hl⟩ := valid_parts hv
    have := hs.len
    by_cases hne : l = []
    · subst hne
      exact carry_nil s os w hs (by omega) hS hv hl
    · exact carry_yes s os l w hs (by omega) hS hv hl hne
end Go.Proofs.YtleokgmflelkcaaDoor
