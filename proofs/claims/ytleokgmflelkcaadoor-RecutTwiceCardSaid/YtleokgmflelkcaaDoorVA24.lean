/- The order by offsets; a copy of a list of packets. slices.Clone of packets. -/
import Derived.Test.YtleokgmflelkcaaDoorVA22
set_option linter.unusedSimpArgs false
set_option linter.unusedVariables false
namespace Go.Proofs.YtleokgmflelkcaaDoor
open Go Go.RowKit

theorem isNaN_any (x : Int) (w : World) : Calls Tryd.prog 71 #[.int .i64 x] w (RB (.bool false) w) := by
  go_enter Tryd.func71, Tryd.ntmps71
  go_wp2
  go_ret
  exact RB.mk' (by simp) (Below.refl _ _)

def cmpF (x y : Int) : Int := if x < y then -1 else if x > y then 1 else 0

set_option maxHeartbeats 1000000 in
theorem compare_any (x y : Int) (w : World) : Calls Tryd.prog 46 #[.int .i64 x, .int .i64 y] w (RB (.int .i64 (cmpF x y)) w) := by
  have hB : Below w.heap.size w w := Below.refl _ _
  go_enter Tryd.func46, Tryd.ntmps46
  go_wp2_with (first | (go_at_call 71; (with_reducible refine (isNaN_any _ _).mono ?_); rintro e w1 ⟨rfl, hb⟩; have hB := hB.trans (hb.mono hB.size); clear hb))
  all_goals (go_ret; refine RB.mk' ?_ hB; simp [cmpF]; try omega)

set_option maxRecDepth 100000 in
set_option maxHeartbeats 1000000 in
theorem offs_any (p q : Pk) (w : World) : Calls Tryd.prog 45 #[.agg (pkA p), .agg (pkA q)] w (RB (.int .i64 (cmpF p.off q.off)) w) := by
  have hX := ((Bx.start w).alloc (pkA p) 28).alloc (pkA q) 28
  simp only [World.size_alloc] at hX
  obtain ⟨hr, hl, _, _⟩ := pk_at hX.h0
  obtain ⟨hr', hl', _, _⟩ := pk_at hX.h1
  have hI := hX
  go_enter Tryd.func45, Tryd.ntmps45
  go_wp2_with (first | (go_at_call 46; (with_reducible refine (compare_any _ _ _).mono ?_); rintro e w1 ⟨rfl, hb⟩; have hX := hX.call hb; clear hb))
  go_ret
  exact RB.mk' rfl hX.bel

/-- A row of packets of the call's own, each packet as a value: a copy of a list. -/
theorem wpList_append_pks {W : World} {ops : Array Oper} {rest : List Oper} {o : Oper} {a : Act} {Q : Exit → Act → World → Prop} (hgd : o.guard = none) (sx x : Operand)
    (ho : o.op = .call { callee := .builtin .append, args := #[sx, x], argTypes := #[29, 29] }) (B : Nat) (v : Value) (n : Nat) (ps : List Pk) (hs : a.eval sx = v) (hrow : W.ownsRow B 28 46 v n (pkCells ps))
    (s : Sl) (l : List Fp) (hx : a.eval x = .slice s.a s.n s.c) (hc : PkS W s l) (hn : n + s.n ≤ 925904528626) (hB : B ≤ W.heap.size)
    (h : ∀ v' w', w'.ownsRow B 28 46 v' (n + s.n) (pkCells (ps ++ l.map Fp.p)) → Below B W w' → W.grownBy w' v.ownBlock → wpList Tryd.prog ops Q rest (a.put o.dst v') w') : wpList Tryd.prog ops Q (o :: rest) a W := by
  have hinf := info28
  cases hi : Tryd.prog.info? 28 with
  | none => rw [hi] at hinf; cases hinf
  | some i0 =>
    rw [hi] at hinf
    simp only [Option.map_some, Option.some.injEq, Prod.mk.injEq] at hinf
    obtain ⟨hz, hsz, hby⟩ := hinf
    cases hz0 : i0.zero with
    | none => rw [hz0] at hz; cases hz
    | some z =>
      rw [hz0] at hz
      simp only [Option.map_some, Option.some.injEq] at hz
      have hcat : pkCells (ps ++ l.map Fp.p) = pkCells ps ++ pkCells (l.map Fp.p) := by simp [pkCells]
      have hlen : ∀ qs : List Pk, (pkCells qs).length = qs.length * 46 := by
        intro qs
        induction qs with
        | nil => rfl
        | cons q qs ih =>
          have e : pkCells (q :: qs) = (pkA q).toList ++ pkCells qs := by simp [pkCells]
          rw [e, List.length_append, ih, Array.length_toList, pkA_size, List.length_cons]; omega
      rcases hc.at_ with ⟨ha, hn0, hc0⟩ | ⟨b, o', ha, hb, hat⟩
      · have hl : l = [] := List.eq_nil_of_length_eq_zero (by rw [hc.len, hn0])
        refine wpList_plain hgd fun K hK' => ?_
        have hrun := run_append_owned_none (P := Tryd.prog) W B 29 o.type 28 i0 46 Tryd.underlying29 hi _ n _ hrow
        rw [ha, hn0, hc0] at hx
        unfold Oper.wp
        simp [execOp, ho, resolve, invoke, builtin, hs, hx, hrun, Result.andThen]
        exact hK' _ _ (h v W (by rw [hn0, hl]; simpa using hrow) (Below.refl _ _) (World.grownBy.refl _ _))
      · refine wpList_append_own W hgd sx x 29 ho B 28 i0 z 46 152 Tryd.underlying29 hi hz0 hsz hby hz (by decide) v n _ hs hrow ⟨b, o', none⟩ s.n s.c (pkCells (l.map Fp.p)) (by rw [hx, ha]) (by rw [hlen, List.length_map, hc.len]) ?_ ?_ (by unfold maxLen; omega) (by omega) hB
          (fun v' w' h5 h6 _ => h v' w' (by rw [hcat]; exact h5) ((Below.refl _ _).grown h6 hB (ownBlock_ge hrow)) h6)
        · intro j u hu
          have hj : j < l.length * 46 := by
            have := (List.getElem?_eq_some_iff.1 hu).1
            rw [hlen, List.length_map] at this
            exact this
          have hi2 : j / 46 < l.length := by omega
          have hx2 := List.getElem?_eq_getElem hi2
          have hf := flat_get (l.map Fp.p) (j / 46) l[j / 46].p (by rw [List.getElem?_map, hx2]; rfl) (j % 46) (Nat.mod_lt _ (by decide))
          have hadd : (⟨b, o', none⟩ : Addr).add j = ⟨b, o' + j / 46 * 46 + j % 46, none⟩ := by
            have e : o' + j = o' + j / 46 * 46 + j % 46 := by omega
            unfold Addr.add; split <;> simp_all
          have hm : j % 46 < (pkA l[j / 46].p).size := by rw [pkA_size]; exact Nat.mod_lt _ (by decide)
          have hcell := hat (j / 46) _ hx2 (j % 46) hm
          have e2 : j / 46 * 46 + j % 46 = j := Nat.div_add_mod' j 46
          rw [e2] at hf
          rw [hadd, hcell, ← hf]
          exact hu
        · intro u hu
          simp only [pkCells, List.mem_flatMap] at hu
          obtain ⟨p, _, hp⟩ := hu
          exact (Array.all_eq_true_iff_forall_mem.1 (pkA_one p)) u (by simpa using hp)
end Go.Proofs.YtleokgmflelkcaaDoor
namespace Go.Proofs.YtleokgmflelkcaaDoor
open Go Go.RowKit

/-- A list of packets in a new row: the same packets, each with its lists where they lay. -/
def RQ (ps : List Pk) (w : World) (e : Ending) (w' : World) : Prop := ∃ v, e = .returned v ∧ w'.ownsRow w.heap.size 28 46 v ps.length (pkCells ps) ∧ Below w.heap.size w w'

theorem owns_emptyP (w : World) : (w.alloc (.cells #[] 28)).ownsRow w.heap.size 28 46 (.slice (some ⟨w.heap.size, 0, none⟩) 0 0) 0 (pkCells []) :=
  ⟨rfl, .inr ⟨w.heap.size, 0, #[], rfl, Nat.le_refl _, heap_alloc_new _ _, by omega, by unfold maxLen; omega, rfl, rfl⟩⟩

set_option maxRecDepth 100000 in
theorem clonePk_any (s : Sl) (l : List Fp) (w : World) (h : PkS w s l) (hm : s.n ≤ 925904528626) : Calls Tryd.prog 43 #[.slice s.a s.n s.c] w (RQ (l.map Fp.p) w) := by
  by_cases hz : s.a = none ∧ s.n = 0 ∧ s.c = 0
  · obtain ⟨h1, h2, h3⟩ := hz
    have : l = [] := List.eq_nil_of_length_eq_zero (by rw [h.len, h2])
    subst this
    rw [h1, h2, h3]
    have hq : RQ [] w (.returned (.slice none 0 0)) w := ⟨_, rfl, ⟨rfl, .inl ⟨rfl, rfl⟩⟩, Below.refl _ _⟩
    replace hq := Lib.hid hq
    have ht := fun W => Lib.run_eql_slice_nil (P := Tryd.prog) W 29 28 none 0 0 0 0 Tryd.underlying29
    clear h h1 h2 h3
    go_enter Tryd.func43, Tryd.ntmps43
    go_wp2
    go_ret
    exact hq.out
  · have hs := Lib.hid h
    obtain ⟨hl, _, _, hat⟩ := h
    rcases hat with h0 | ⟨b, o, h1, hb, _⟩
    · exact absurd h0 hz
    clear hz
    obtain ⟨a, n, c⟩ := s
    simp only at h1 hm hl
    subst h1
    have ht := fun W => Lib.run_eql_slice_nil (P := Tryd.prog) W 29 28 (some ⟨b, o, none⟩) n c 0 0 Tryd.underlying29
    have h0 := owns_emptyP w
    have hn := Lib.hid (show 0 + n ≤ 925904528626 by omega)
    replace hl := Lib.hid hl
    go_enter Tryd.func43, Tryd.ntmps43
    go_wp2_with (at_builtin; refine wpList_append_pks rfl _ _ rfl w.heap.size _ 0 [] rfl h0 ⟨some ⟨b, o, none⟩, n, c⟩ l rfl (hs.out.below ((Below.refl _ _).alloc (Nat.le_refl _) _)) hn.out (by simp) ?_; intro v' w1 hown hb1 _)
    go_ret
    rw [List.nil_append, Nat.zero_add] at hown
    exact ⟨_, rfl, by rw [List.length_map, hl.out]; exact hown, ((Below.refl _ _).alloc (Nat.le_refl _) _).trans hb1⟩
end Go.Proofs.YtleokgmflelkcaaDoor
