/- mosaicref04: Build of options that are carried; Carry. mosaicref04.Carry. -/
import Derived.Test.YtleokgmflelkcaaDoorVF1
import Derived.Test.YtleokgmflelkcaaDoorVE3
set_option linter.unusedSimpArgs false
set_option linter.unusedVariables false
namespace Go.Proofs.YtleokgmflelkcaaDoor
open Go Go.RowKit

theorem KeepB.alloc (W : World) (o : Obj) : KeepB W (W.alloc o) := fun b t c _ hb => by
  rw [Below.heap_alloc _ _ _ (Array.getElem?_eq_some_iff.1 hb).1]; exact hb
theorem KeepB.trans {A B C : World} (h : KeepB A B) (k : KeepB B C) : KeepB A C := fun b t c ht hb => k b t c ht (h b t c ht hb)
theorem KeepB.refl (A : World) : KeepB A A := fun b t c _ hb => hb
theorem one_bs2 (W : World) (A : Obj) (k : Int) (h : 0 ≤ k ∧ k ≤ 255) : Bs ((W.alloc A).alloc (.cells #[.int .u8 k] 5)) ⟨some ⟨W.heap.size + 1, 0, none⟩, 1, 1⟩ [k] := by
  have := one_bs (W.alloc A) k h
  rwa [World.size_alloc] at this
def R2Rel (ps : List OS) (n : Nat) (w : World) (b lo i : Value) (wr : World) : Prop := B2Rel ps n w lo b i wr

set_option maxRecDepth 100000 in
set_option maxHeartbeats 2000000 in
theorem rbuild67 (g n c : Nat) (cur : Array Value) (ps : List OS) (w : World) (h : CarO w g cur ps) (hl : ps.length = n) (hn : n ≤ 1000) : Calls Tryd.prog 67 #[.slice (some ⟨g, 0, none⟩) n c] w (RB2 (padO (layO (ps.map (·.1)))) w) := by
  replace hl := Lib.hid hl
  replace h := Lib.hid h
  go_enter Tryd.func67, Tryd.ntmps67
  go_wp2
  go_loopw [4, 5, 6] (fun b lo i wr => R2Rel ps n w b lo i wr) (fun _ _ i _ => n - (intOf i).toNat)
  case atStart => exact ⟨0, ⟨none, 0, 0⟩, rfl, by omega, rfl, rfl, own_nil _ _, Below.refl _ _⟩
  case round =>
    obtain ⟨k, s, rfl, hk, rfl, rfl, hs, hB⟩ := hrel
    have hsn := hs.bs.len
    by_cases hlt : k < n
    · obtain ⟨x, hx⟩ : ∃ x, ps[k]? = some x := ⟨_, List.getElem?_eq_getElem (by rw [hl.out]; exact hlt)⟩
      have hld := h.out.cells hB hx
      obtain ⟨hk1, hk2⟩ := h.out.kinds x (List.mem_of_getElem? hx)
      have hxb := h.out.bs x (List.mem_of_getElem? hx)
      have hsnoc := Lib.hid (show layO ((ps.take (k + 1)).map (·.1)) = layO ((ps.take k).map (·.1)) ++ (x.1.1 :: ((2 + x.1.2.length : Nat) : Int) :: x.1.2) by rw [takeL hx, List.map_append, List.map_singleton, layO_snoc])
      have h40 : s.n + (2 + x.2.n) ≤ 40 := by
        have h1 := h.out.lay
        have h2 := lay_take (ps.map (·.1)) (k + 1)
        rw [← List.map_take, hsnoc.out] at h2
        simp only [List.length_append, List.length_cons] at h2
        have := hxb.len
        omega
      have hxl := Lib.hid hxb.len
      replace hxb := Lib.hid hxb
      replace hx := Lib.hid hx
      replace hsn := Lib.hid hsn
      have c1 : decide (x.1.1 < 1) = false := by simp; omega
      have c2 : decide (x.1.1 > 255) = false := by simp; omega
      have c3 : (x.1.1 == 1) = false := beq_eq_false_iff_ne.2 (by omega)
      have c4 : decide ((x.2.n : Int) > 38) = false := by simp; omega
      have c5 : decide (x.1.1 > 1) = true := by simp; omega
      have m1 : min ((s.n : Int) + 1) 1000 = (s.n : Int) + 1 := by omega
      have m2 : min ((s.n : Int) + 1 + 1 + (x.2.n : Int)) 1000 = (s.n : Int) + 1 + 1 + (x.2.n : Int) := by omega
      have c6 : decide ((s.n : Int) + 1 + 1 + (x.2.n : Int) > 40) = false := by simp; omega
      have hX := Below.box hB #[.int .i64 x.1.1, .slice x.2.a x.2.n x.2.c] 75
      have hbox := hX.h0
      obtain ⟨hc0, hc1⟩ := two_at hbox
      have hs0 := hs.alloc (.cells #[.int .i64 x.1.1, .slice x.2.a x.2.n x.2.c] 75)
      have hB0 := hB.alloc hB.size (.cells #[.int .i64 x.1.1, .slice x.2.a x.2.n x.2.c] 75)
      have h47a := Lib.hid (show s.n + (⟨some ⟨0, 0, none⟩, 1, 1⟩ : Sl).n ≤ 140737488355328 by simp only; omega)
      clear hX
      go_wp2_with (first | go_big_skip | (at_builtin; refine wpList_append_sk rfl (.tmp 58) (.tmp 62) rfl w.heap.size s _ rfl (hs0.alloc _) ⟨some ⟨_, 0, none⟩, 1, 1⟩ [x.1.1] rfl (one_bs2 _ _ _ ⟨by omega, by omega⟩) h47a.out (size_le_alloc hB0.size _) ?_; intro s1 W1 hs1 hn1 hb1 hk1; have hs1n := Lib.hid (show s1.n = s.n + 1 from hn1); clear hn1; have hbx1 := hk1 _ 75 _ (by decide) (KeepB.alloc _ (.cells #[.int .u8 x.1.1] 5) _ 75 _ (by decide) hbox); obtain ⟨hd0, hd1⟩ := two_at hbx1; have hB1 := (hB0.alloc hB0.size (.cells #[.int .u8 x.1.1] 5)).trans hb1; clear hb1 hk1; have h47b := Lib.hid (show s1.n + (⟨some ⟨0, 0, none⟩, 1, 1⟩ : Sl).n ≤ 140737488355328 by have := hs1n.out; simp only; omega)) | (at_builtin; refine wpList_append_sk rfl (.tmp 67) (.tmp 73) rfl w.heap.size s1 _ rfl (hs1.alloc _) ⟨some ⟨_, 0, none⟩, 1, 1⟩ [2 + (x.2.n : Int)] rfl (one_bs _ _ ⟨by omega, by omega⟩) h47b.out (size_le_alloc hB1.size _) ?_; intro s2 W2 hs2 hn2 hb2 hk2; have hs2n := Lib.hid (show s2.n = s1.n + 1 from hn2); clear hn2; have hbx2 := hk2 _ 75 _ (by decide) (KeepB.alloc _ (.cells #[.int .u8 (2 + (x.2.n : Int))] 5) _ 75 _ (by decide) hbx1); obtain ⟨he0, he1⟩ := two_at hbx2; have hB2 := (hB1.alloc hB1.size (.cells #[.int .u8 (2 + (x.2.n : Int))] 5)).trans hb2; clear hb2 hk2; have h47c := Lib.hid (show s2.n + x.2.n ≤ 140737488355328 by have := hs1n.out; have := hs2n.out; omega)) | (at_builtin; refine wpList_append_sk rfl (.tmp 75) (.tmp 77) rfl w.heap.size s2 _ rfl hs2 x.2 x.1.2 rfl (hxb.out.below hB2) h47c.out hB2.size ?_; intro s3 W3 hs3 hn3 hb3 hk3; have hs3n := Lib.hid hn3; clear hn3; have hB3 := hB2.trans hb3; clear hb3 hk3))
      go_roundw
      case rel =>
        refine ⟨k + 1, s3, by go_num, by omega, ?_, rfl, ?_, hB3⟩
        · have h1 := hs1n.out
          have h2 := hs2n.out
          have h3 := hs3n.out
          congr 1
          omega
        · rw [hsnoc.out]
          have e : ((2 + x.1.2.length : Nat) : Int) = 2 + (x.2.n : Int) := by rw [hxl.out]; push_cast; rfl
          rw [e]
          simpa using hs3
      case measure => simp [intOf]; omega
    · have hkn : k = n := by omega
      subst hkn
      rw [List.take_of_length_le (by rw [hl.out]; exact Nat.le_refl _)] at hs
      have hxs40 := h.out.lay
      generalize hxs : layO (ps.map (·.1)) = xs at *
      replace hxs := Lib.hid hxs
      have hs40 : s.n ≤ 40 := by have := hs.bs.len; omega
      have c6 : decide ((s.n : Int) > 40) = false := by simp; omega
      replace hsn := Lib.hid hsn
      go_wp2
      go_loopw [4] (fun b wr => B3Rel xs w b wr) (fun b _ => 100 - lenV b)
      case atStart => exact ⟨0, s, rfl, Nat.zero_le _, by simpa using hs, hB⟩
      case round =>
        clear hB hs
        obtain ⟨m, s, rfl, hm, hs, hB⟩ := hrel
        have hlen := hs.bs.len
        rw [List.length_append, List.length_replicate] at hlen
        by_cases h4 : s.n % 4 = 0
        · have hm0 : m = (4 - xs.length % 4) % 4 := by omega
          have h4' : (((s.n : Int) % 4) != 0) = false := by simp; omega
          replace hlen := Lib.hid hlen
          replace hm0 := Lib.hid hm0
          go_wp2
          go_ret2
          refine ⟨s, rfl, ?_, hB⟩
          rw [hxs.out]
          unfold padO
          rw [← hm0.out]
          exact hs
        · have h4' : (((s.n : Int) % 4) != 0) = true := by simp; omega
          have hm0 : m + 1 ≤ (4 - xs.length % 4) % 4 := by omega
          have h47 := Lib.hid (show s.n + (⟨some ⟨0, 0, none⟩, 1, 1⟩ : Sl).n ≤ 140737488355328 by simp only; omega)
          have hsn50 : s.n ≤ 50 := by omega
          replace hlen := Lib.hid hlen
          go_wp2_with (at_builtin; refine wpList_append_sk rfl (.tmp 85) (.tmp 86) rfl w.heap.size s _ rfl (hs.alloc _) ⟨some ⟨_, 0, none⟩, 1, 1⟩ [0] rfl (one_bs _ _ ⟨by omega, by omega⟩) h47.out (size_le_alloc hB.size _) ?_; intro s1 W3 hs1 hn1 hb3 hk3; replace hn1 := Lib.hid hn1)
          go_roundw
          case rel => exact ⟨m + 1, s1, rfl, hm0, by rw [List.replicate_succ', ← List.append_assoc]; exact hs1, (hB.alloc hB.size _).trans hb3⟩
          case measure =>
            have h1 := hn1.out
            simp only at h1
            simp [lenV]; omega
end Go.Proofs.YtleokgmflelkcaaDoor
namespace Go.Proofs.YtleokgmflelkcaaDoor
open Go Go.RowKit

def cellsP (ps : List OS) : List Value := ps.flatMap fun p => optCell p.1 p.2
theorem cellsP_snoc (ps : List OS) (p : OS) : cellsP (ps ++ [p]) = cellsP ps ++ optCell p.1 p.2 := by simp [cellsP]
theorem cellsP_get : ∀ (ps : List OS) (q : Nat) (p : OS), ps[q]? = some p → (cellsP ps)[q * 2]? = some (.int .i64 p.1.1) ∧ (cellsP ps)[q * 2 + 1]? = some (.slice p.2.a p.2.n p.2.c)
  | [], q, p, hp => by simp at hp
  | x :: ps, 0, p, hp => by
    simp only [List.getElem?_cons_zero, Option.some.injEq] at hp
    subst hp
    exact ⟨rfl, rfl⟩
  | x :: ps, q + 1, p, hp => by
    simp only [List.getElem?_cons_succ] at hp
    obtain ⟨h1, h2⟩ := cellsP_get ps q p hp
    have e : ∀ i, (cellsP (x :: ps))[2 + i]? = (cellsP ps)[i]? := fun i => by
      have : cellsP (x :: ps) = optCell x.1 x.2 ++ cellsP ps := by simp [cellsP]
      rw [this, List.getElem?_append_right (by simp [optCell])]
      congr 1
      simp [optCell]
    rw [show (q + 1) * 2 = 2 + q * 2 by omega, show 2 + q * 2 + 1 = 2 + (q * 2 + 1) by omega, e, e]
    exact ⟨h1, h2⟩

theorem wpList_append_opc {W : World} {ops : Array Oper} {rest : List Oper} {o : Oper} {a : Act} {Q : Exit → Act → World → Prop} (hgd : o.guard = none) (sx x : Operand)
    (ho : o.op = .call { callee := .builtin .append, args := #[sx, x], argTypes := #[70, 70] }) (B : Nat) (v : Value) (ps : List OS) (hs : a.eval sx = v) (hrow : W.ownsRow B 75 2 v ps.length (cellsP ps))
    (p : OS) (g : Nat) (hx : a.eval x = .slice (some ⟨g, 0, none⟩) 1 1) (hc : W.heap[g]? = some (.cells #[.int .i64 p.1.1, .slice p.2.a p.2.n p.2.c] 75)) (hn : ps.length ≤ 1000) (hB : B ≤ W.heap.size)
    (h : ∀ v' w', w'.ownsRow B 75 2 v' (ps ++ [p]).length (cellsP (ps ++ [p])) → Below B W w' → wpList Tryd.prog ops Q rest (a.put o.dst v') w') : wpList Tryd.prog ops Q (o :: rest) a W := by
  have hinf := info75
  cases hi : Tryd.prog.info? 75 with
  | none => rw [hi] at hinf; cases hinf
  | some i0 =>
    rw [hi] at hinf
    simp only [Option.map_some, Option.some.injEq, Prod.mk.injEq] at hinf
    obtain ⟨hz, hsz, hby⟩ := hinf
    cases hz0 : i0.zero with
    | none => rw [hz0] at hz; cases hz
    | some z =>
      rw [hz0] at hz
      simp only [Option.map_some, Option.some.injEq] at hz
      refine wpList_append_own W hgd sx x 70 ho B 75 i0 z 2 32 Tryd.underlying70 hi hz0 hsz hby hz (by decide) v ps.length _ hs hrow ⟨g, 0, none⟩ 1 1 (optCell p.1 p.2) hx rfl ?_ ?_ (by unfold maxLen; omega) (by omega) hB
        (fun v' w' h5 h6 _ => h v' w' (by rw [cellsP_snoc, List.length_append]; exact h5) ((Below.refl _ _).grown h6 hB (ownBlock_ge hrow)))
      · intro j u hu
        have hj : j < 2 := by have := (List.getElem?_eq_some_iff.1 hu).1; simpa [optCell] using this
        have hadd : (⟨g, 0, none⟩ : Addr).add j = ⟨g, j, none⟩ := by unfold Addr.add; split <;> simp_all
        rw [hadd]
        simp only [World.cell?, hc, Option.isSome_none, Bool.false_eq_true, if_false]
        rw [← hu]; simp [optCell]
      · intro u hu
        simp only [optCell, List.mem_cons, List.not_mem_nil, or_false] at hu
        rcases hu with rfl | rfl <;> rfl

theorem rbuild0 (a : Option Addr) (c : Nat) (w : World) : Calls Tryd.prog 67 #[.slice a 0 c] w (RB2 [] w) := by
  go_enter Tryd.func67, Tryd.ntmps67
  go_wp2
  go_loop [4, 5, 6] (fun b n i => b = .slice none 0 0 ∧ n = .int .i64 0 ∧ i = .int .i64 0) (fun _ _ _ => 0)
  case atStart => exact ⟨rfl, rfl, rfl⟩
  case round =>
    obtain ⟨rfl, rfl, rfl⟩ := hrel
    go_wp2
    go_loop [4] (fun b => b = .slice none 0 0) (fun _ => 0)
    case atStart => rfl
    case round =>
      subst hrel
      go_wp2
      go_ret2
      exact ⟨⟨none, 0, 0⟩, rfl, own_nil _ _, Below.refl _ _⟩
theorem rbuild_row {B : Nat} {V : World} {v : Value} {ps : List OS} (hrow : V.ownsRow B 75 2 v ps.length (cellsP ps)) (hk : ∀ p ∈ ps, 128 ≤ p.1.1 ∧ p.1.1 ≤ 255) (hb : ∀ p ∈ ps, Bs V p.2 p.1.2) (hlay : (layO (ps.map (·.1))).length ≤ 40) (hn : ps.length ≤ 1000) :
    Calls Tryd.prog 67 #[v] V (RB2 (padO (layO (ps.map (·.1)))) V) := by
  rcases hrow.2 with ⟨rfl, h0⟩ | ⟨g, cap, cur, rfl, hg, hh, hc, hm, hs, ht⟩
  · have : ps = [] := List.eq_nil_of_length_eq_zero h0
    subst this
    exact rbuild0 none 0 V
  · refine rbuild67 g ps.length cap cur ps V ⟨hh, fun q p hp => ?_, hk, hb, hlay⟩ rfl hn
    obtain ⟨e1, e2⟩ := cellsP_get ps q p hp
    have hq := (List.getElem?_eq_some_iff.1 hp).1
    rw [← ht, List.getElem?_take, if_pos (by omega)] at e1 e2
    exact ⟨by simpa using e1, by simpa using e2⟩
theorem owns_slice {B : Nat} {w : World} {e : TypeId} {size : Nat} {v : Value} {n : Nat} {xs : List Value} (h : w.ownsRow B e size v n xs) : ∃ s : Sl, v = .slice s.a s.n s.c := by
  rcases h.2 with ⟨rfl, rfl⟩ | ⟨g, cap, cur, rfl, _⟩
  · exact ⟨⟨none, 0, 0⟩, rfl⟩
  · exact ⟨⟨_, n, cap⟩, rfl⟩

theorem rcarry_no (s : Sl) (os : List Int) (w : World) (hs : Bs w s os) (hm : s.n ≤ 140737488351232) (hv : validO os = false) : Calls Tryd.prog 36 #[.slice s.a s.n s.c] w (RS (carryF os) w) := by
  have hB : Below w.heap.size w w := Below.refl _ _
  have hval := Lib.hid (fun (V : World) (hb : Below w.heap.size w V) => hv ▸ rvalid_any s os V (hs.below hb) hm)
  have hc := Lib.hid (show carryF os = [] by unfold carryF; rw [hv]; rfl)
  clear hv
  go_enter Tryd.func36, Tryd.ntmps36
  go_wp2_with (first | (go_at_call 65; (with_reducible refine (hval.out _ hB).mono ?_); rintro e w1 ⟨rfl, hb⟩; have hB := hB.trans (hb.mono hB.size); clear hb))
  go_ret
  exact ⟨⟨none, 0, 0⟩, rfl, by rw [hc.out]; exact own_nil _ _, hB⟩

theorem rcarry_nil (s : Sl) (os : List Int) (w : World) (hs : Bs w s os) (hm : s.n ≤ 40) (hv : validO os = true) (hp : parseO os = some []) : Calls Tryd.prog 36 #[.slice s.a s.n s.c] w (RS (carryF os) w) := by
  have hB : Below w.heap.size w w := Below.refl _ _
  have hval := Lib.hid (fun (V : World) (hb : Below w.heap.size w V) => hv ▸ rvalid_any s os V (hs.below hb) (by omega))
  have hpar := Lib.hid (fun (V : World) (hb : Below w.heap.size w V) => hp ▸ rparse_any s os V (hs.below hb) hm)
  have hc := Lib.hid (show carryF os = [] by unfold carryF; rw [hv, hp]; rfl)
  clear hv hp
  go_enter Tryd.func36, Tryd.ntmps36
  go_wp2_with (first | (go_at_call 65; (with_reducible refine (hval.out _ hB).mono ?_); rintro e w1 ⟨rfl, hb⟩; have hB := hB.trans (hb.mono hB.size); clear hb) | (go_at_call 66; (with_reducible refine (hpar.out _ hB).mono ?_); rintro e w2 ⟨v, m, rfl, hrow, hb⟩; obtain ⟨a, c, rfl⟩ := (hrow [] rfl).form0; have hB := hB.trans (hb.mono hB.size); clear hb hrow))
  go_loopw [5, 6] (fun c i wr => c = .slice none 0 0 ∧ i = .int .i64 0 ∧ wr = w2) (fun _ _ _ => 0)
  case atStart => exact ⟨rfl, rfl, rfl⟩
  case round =>
    obtain ⟨rfl, rfl, rfl⟩ := hrel
    go_wp2_with (go_at_call 67; (with_reducible refine (rbuild0 _ _ _).mono ?_); rintro e w3 ⟨s3, rfl, ho3, hb⟩)
    go_ret
    exact ⟨s3, rfl, by rw [hc.out]; exact ho3.mono hB.size, hB.trans (hb.mono hB.size)⟩

def CrRel (ps : List OS) (n : Nat) (w2 : World) (c i : Value) (wr : World) : Prop :=
  ∃ (k : Nat) (v : Sl), i = .int .i64 k ∧ k ≤ n ∧ c = .slice v.a v.n v.c ∧ wr.ownsRow w2.heap.size 75 2 (.slice v.a v.n v.c) ((ps.take k).filter kpP).length (cellsP ((ps.take k).filter kpP)) ∧ Below w2.heap.size w2 wr

set_option maxRecDepth 100000 in
set_option maxHeartbeats 1000000 in
theorem rcarry_yes (s : Sl) (os : List Int) (l : List OptL) (w : World) (hs : Bs w s os) (hm : s.n ≤ 40) (hv : validO os = true) (hp : parseO os = some l) (hne : l ≠ []) : Calls Tryd.prog 36 #[.slice s.a s.n s.c] w (RS (carryF os) w) := by
  have hB : Below w.heap.size w w := Below.refl _ _
  have hval := Lib.hid (fun (V : World) (hb : Below w.heap.size w V) => hv ▸ rvalid_any s os V (hs.below hb) (by omega))
  have hpar := Lib.hid (fun (V : World) (hb : Below w.heap.size w V) => hp ▸ rparse_any s os V (hs.below hb) hm)
  have hc := Lib.hid (show carryF os = padO (layO (keepO l)) by unfold carryF; rw [hv, hp]; rfl)
  obtain ⟨hf1, hf2⟩ := parse_facts os.length os (Nat.le_refl _) hs.rng l hp
  have hlay := Lib.hid (show (layO (keepO l)).length ≤ 40 by have := keep_size l; have := hs.len; omega)
  have hlen := Lib.hid (show l.length ≤ 40 by
    have : ∀ l : List OptL, l.length ≤ sizeO l := by
      intro l
      induction l with
      | nil => simp
      | cons o l ih => rw [sizeO_cons, List.length_cons]; split <;> omega
    have := this l
    have := hs.len
    omega)
  replace hf1 := Lib.hid hf1
  replace hne := Lib.hid hne
  clear hv hp hf2
  go_enter Tryd.func36, Tryd.ntmps36
  go_wp2_with (first | (go_at_call 65; (with_reducible refine (hval.out _ hB).mono ?_); rintro e w1 ⟨rfl, hb⟩; have hB := hB.trans (hb.mono hB.size); clear hb) | (go_at_call 66; (with_reducible refine (hpar.out _ hB).mono ?_); rintro e w2 ⟨v, m, rfl, hrow, hb⟩; obtain ⟨g, c, cur, ss, rfl, hg, hh, hsz, hmc, hcm, hss, hml, hrw, hown⟩ := (hrow l rfl).open hne.out; have hB := hB.trans (hb.mono hB.size); replace hml := Lib.hid hml; replace hss := Lib.hid hss; replace hh := Lib.hid hh; replace hrw := Lib.hid hrw; replace hown := Lib.hid hown; clear hb hrow hsz hcm))
  have hpl := Lib.hid (show (l.zip ss).length = m by rw [List.length_zip, hss.out, hml.out]; exact Nat.min_self _)
  have hg2 : g < w2.heap.size := (Array.getElem?_eq_some_iff.1 hh.out).1
  have hcells := Lib.hid (fun (W : World) (hb : Below w2.heap.size w2 W) (i : Nat) (p : OS) (hp : (l.zip ss)[i]? = some p) => (⟨(hb.cell (p := ⟨g, i * 2, none⟩) hg2).trans ((cell_of_row w2 g _ cur 75 (0, 0) hh.out).trans (hrw.out i p hp).1), (hb.cell (p := ⟨g, i * 2 + 1, none⟩) hg2).trans ((cell_of_row w2 g _ cur 75 (0, 0) hh.out).trans (hrw.out i p hp).2)⟩ : W.cell? ⟨g, i * 2, none⟩ = some (.int .i64 p.1.1) ∧ W.cell? ⟨g, i * 2 + 1, none⟩ = some (.slice p.2.a p.2.n p.2.c)))
  have hm40 : m ≤ 40 := by have := hlen.out; have := hml.out; omega
  have hkeep := Lib.hid (zip_keep l ss hss.out)
  replace hown := Lib.hid (fun p (hp : p ∈ l.zip ss) => (hown.out p hp).bs)
  replace hf1 := Lib.hid (fun p (hp : p ∈ l.zip ss) => hf1.out p.1 (List.of_mem_zip (show (p.1, p.2) ∈ l.zip ss from hp)).1)
  generalize l.zip ss = ps at *
  go_loopw [5, 6] (fun c i wr => CrRel ps m w2 c i wr) (fun _ i _ => m - (intOf i).toNat)
  case atStart => exact ⟨0, ⟨none, 0, 0⟩, rfl, Nat.zero_le _, rfl, ⟨rfl, .inl ⟨rfl, rfl⟩⟩, Below.refl _ _⟩
  case round =>
    obtain ⟨k, v, rfl, hk, rfl, hrow, hB2⟩ := hrel
    by_cases hlt : k < m
    · obtain ⟨x, hx⟩ : ∃ x, ps[k]? = some x := ⟨_, List.getElem?_eq_getElem (by rw [hpl.out]; exact hlt)⟩
      obtain ⟨h1, h2⟩ := hcells.out _ hB2 k x hx
      have hld := load2 h1 h2
      have hsnoc := Lib.hid (takeL hx)
      have hfl : ((ps.take k).filter kpP).length ≤ 1000 := by
        have := List.length_filter_le kpP (ps.take k)
        rw [List.length_take] at this
        omega
      replace hfl := Lib.hid hfl
      replace hx := Lib.hid hx
      by_cases he : 128 ≤ x.1.1
      · have he' : decide (x.1.1 ≥ 128) = true := by simpa using he
        have hf := Lib.hid (show (ps.take (k + 1)).filter kpP = (ps.take k).filter kpP ++ [x] by rw [hsnoc.out, List.filter_append]; simp [kpP]; exact he)
        replace he := Lib.hid he
        go_wp2_with (at_builtin; refine wpList_append_opc rfl (.tmp 29) (.tmp 34) rfl w2.heap.size _ ((ps.take k).filter kpP) rfl (ownsRow_below hrow ((Below.refl _ _).alloc (Nat.le_refl _) _)) x _ rfl (heap_alloc_new _ _) hfl.out (size_le_alloc hB2.size _) ?_; intro v' w3 hrow3 hb3; obtain ⟨v3, rfl⟩ := owns_slice hrow3; have hB3 := (hB2.alloc hB2.size _).trans hb3; clear hb3)
        go_roundw
        case rel => exact ⟨k + 1, v3, by go_num, by omega, rfl, by rw [hf.out]; exact hrow3, hB3⟩
        case measure => simp [intOf]; omega
      · have he' : decide (x.1.1 ≥ 128) = false := by simpa using he
        have hf := Lib.hid (show (ps.take (k + 1)).filter kpP = (ps.take k).filter kpP by rw [hsnoc.out, List.filter_append]; simp [kpP]; omega)
        replace he := Lib.hid he
        go_wp2
        go_roundw
        case rel => exact ⟨k + 1, v, by go_num, by omega, rfl, by rw [hf.out]; exact hrow, hB2⟩
        case measure => simp [intOf]; omega
    · have hkm : k = m := by omega
      subst hkm
      rw [List.take_of_length_le (by rw [hpl.out]; exact Nat.le_refl _)] at hrow
      have hbld := Lib.hid (rbuild_row hrow (fun p hp => by
        obtain ⟨h1, h2⟩ := List.mem_filter.1 hp
        exact ⟨by simpa [kpP] using h2, (hf1.out p h1).2.1⟩) (fun p hp => (hown.out p (List.mem_filter.1 hp).1).below hB2) (by rw [hkeep.out]; exact hlay.out) (by have := List.length_filter_le kpP ps; rw [hpl.out] at this; omega))
      rw [hkeep.out] at hbld
      replace hrow := Lib.hid hrow
      go_wp2_with (go_at_call 67; (with_reducible refine hbld.out.mono ?_); rintro e w4 ⟨s4, rfl, ho4, hb⟩)
      go_ret
      exact ⟨s4, rfl, by rw [hc.out]; exact ho4.mono (Nat.le_trans hB.size hB2.size), (hB.trans (hB2.mono hB.size)).trans (hb.mono (Nat.le_trans hB.size hB2.size))⟩

/-- The reference's Carry, of whatever bytes. -/
theorem rcarry_any (s : Sl) (os : List Int) (w : World) (hs : Bs w s os) (hm : s.n ≤ 140737488351232) : Calls Tryd.prog 36 #[.slice s.a s.n s.c] w (RS (carryF os) w) := by
  cases hv : validO os
  · exact rcarry_no s os w hs hm hv
  · obtain ⟨h1, h2, l, hl⟩ := valid_parts hv
    have := hs.len
    by_cases hne : l = []
    · subst hne
      exact rcarry_nil s os w hs (by omega) hv hl
    · exact rcarry_yes s os l w hs (by omega) hv hl hne
end Go.Proofs.YtleokgmflelkcaaDoor
