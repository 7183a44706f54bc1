/- One packet told from another: fields, key, same. Small functions on packets; one packet told from another by the program's own same. -/
import Derived.Test.YtleokgmflelkcaaDoorVA10
set_option linter.unusedSimpArgs false
set_option linter.unusedVariables false
namespace Go.Proofs.YtleokgmflelkcaaDoor
open Go Go.RowKit

theorem wpList_build_to {ops : Array Oper} {rest : List Oper} {o : Oper} {a : Act} {w : World} {Q : Exit → Act → World → Prop} (hg : o.guard = none) (t : TypeId) (parts : Array (Nat × Operand)) (ho : o.op = .build t parts) (cs : Array Value)
    (hf : Tryd.prog.built t (parts.map fun (i, x) => (i, a.eval x)).toList = some cs) (h : wpList Tryd.prog ops Q rest (a.put o.dst (.agg cs)) w) : wpList Tryd.prog ops Q (o :: rest) a w :=
  wpList_build hg t parts ho (by rw [hf]; rfl) (by rw [hf]; exact h)

theorem brA_one (p : Br) : (brA p).all (·.oneCell') = true := by unfold brA; simp [Value.oneCell']
theorem kyA_one (p : Ky) : (kyA p).all (·.oneCell') = true := by unfold kyA; simp [Value.oneCell']


set_option maxRecDepth 100000 in
theorem fields_any (p : Pk) (w : World) : Calls Tryd.prog 39 #[.agg (pkA p)] w (RB (.agg (brA p.bare)) w) := by
  have hX := ((Bx.start w).alloc (pkA p) 28).alloc (brA zBr) 59
  simp only [World.size_alloc] at hX
  obtain ⟨hr, hl, hs, hd⟩ := pk_at hX.h1
  go_enter Tryd.func39, Tryd.ntmps39
  go_wp2_with (first | (refine wpList_build_to rfl 59 _ rfl (brA p.bare) (by kernel_rfl) ?_) | (refine wpList_storeA_bx rfl 59 (.tmp 2) (.tmp 23) rfl _ _ rfl rfl (bs := []) hX (by rw [brA_size]; exact i59) (by rw [brA_size, brA_size]) (brA_one _) ?_; intro W5 hX5 hg5))
  exact bodyPost_ret (results_cell rfl _ _ _ _ _ rfl hX5.h0 (g59 _) (by rw [brA_size]; exact i59)) rfl ⟨rfl, hX5.bel⟩

set_option maxRecDepth 100000 in
theorem key_any (p : Pk) (w : World) : Calls Tryd.prog 68 #[.agg (pkA p)] w (RB (.agg (kyA p.key)) w) := by
  have hX := ((Bx.start w).alloc (pkA p) 28).alloc (kyA zKy) 80
  simp only [World.size_alloc] at hX
  obtain ⟨hr, hl, hs, hd⟩ := pk_at hX.h1
  go_enter Tryd.func68, Tryd.ntmps68
  go_wp2_with (first | (refine wpList_build_to rfl 80 _ rfl (kyA p.key) (by kernel_rfl) ?_) | (refine wpList_storeA_bx rfl 80 (.tmp 2) (.tmp 13) rfl _ _ rfl rfl (bs := []) hX (by rw [kyA_size]; exact i80) (by rw [kyA_size, kyA_size]) (kyA_one _) ?_; intro W5 hX5 hg5))
  exact bodyPost_ret (results_cell rfl _ _ _ _ _ rfl hX5.h0 (g80 _) (by rw [kyA_size]; exact i80)) rfl ⟨rfl, hX5.bel⟩

def sameP (p q : Pk) (os ds os' ds' : List Int) : Bool := decide (p.bare = q.bare) && (p.more == q.more) && decide (p.off = q.off) && decide (os = os') && decide (ds = ds')

set_option maxRecDepth 100000 in
set_option maxHeartbeats 1000000 in
theorem Same_any (p q : Pk) (os ds os' ds' : List Int) (w : World) (hp : PkIn w p os ds) (hq : PkIn w q os' ds') : Calls Tryd.prog 21 #[.agg (pkA p), .agg (pkA q)] w (RB (.bool (sameP p q os ds os' ds')) w) := by
  have hX := ((Bx.start w).alloc (pkA p) 28).alloc (pkA q) 28
  simp only [World.size_alloc] at hX
  obtain ⟨hr, hl, hs, hd⟩ := pk_at hX.h1
  obtain ⟨hr', hl', hs', hd'⟩ := pk_at hX.h0
  have m1 := hp.om
  have m2 := hp.dm
  have m3 := hq.om
  have m4 := hq.dm
  go_enter Tryd.func21, Tryd.ntmps21
  go_wp2_with (first | (go_at_call 50; (with_reducible refine (ref11same_any p.o q.o os os' _ (hp.o.below hX.bel) (hq.o.below hX.bel) m1 m3).mono ?_); rintro e w1 ⟨rfl, hb⟩; have hX := hX.call hb; obtain ⟨hr, hl, hs, hd⟩ := pk_at hX.h1; obtain ⟨hr', hl', hs', hd'⟩ := pk_at hX.h0; clear hb) | (go_at_call 50; (with_reducible refine (ref11same_any p.d q.d ds ds' _ (hp.d.below hX.bel) (hq.d.below hX.bel) m2 m4).mono ?_); rintro e w1 ⟨rfl, hb⟩; have hX := hX.call hb; obtain ⟨hr, hl, hs, hd⟩ := pk_at hX.h1; obtain ⟨hr', hl', hs', hd'⟩ := pk_at hX.h0; clear hb))
  all_goals (go_ret; refine RB.mk' ?_ hX.bel; go_light; clear hl hs hd hl' hs' hd'; refine congrArg Value.bool ?_; (first | (simp_all [sameP, Pk.bare]; done) | (simp_all [sameP, Pk.bare]; grind)))
end Go.Proofs.YtleokgmflelkcaaDoor
namespace Go.Proofs.YtleokgmflelkcaaDoor
open Go Go.RowKit

theorem call_ins {I : World → Prop} {f : FuncId} {args : Array Value} {v : Value} (stab : ∀ W W', I W → Below W.heap.size W W' → I W') (h : ∀ V : Wd I, Calls Tryd.prog f args V.w (RB v V.w)) (V : Wd I) :
    Calls Tryd.prog f args V.w fun e w'' => e = .returned v ∧ ∃ V' : Wd I, w'' = V'.w := call_in stab (h V)

theorem ref11Bytes_any (p : Pk) (w : World) (ho : p.o.n ≤ 140737488351232) (hdm : p.d.n ≤ 140737488351232) : Calls Tryd.prog 34 #[.agg (pkA p)] w (RB (.int .i64 (rheadF p + p.d.n)) w) := by
  have hF := Fr.start w (pkA p) 28
  obtain ⟨hr, hl, hs, hd⟩ := hF.pk
  have h0 : 0 ≤ rheadF p := by unfold rheadF head6F; split <;> (try split) <;> omega
  have h1 : rheadF p ≤ 140737488351272 := by unfold rheadF head6F; split <;> (try split) <;> omega
  go_enter Tryd.func34, Tryd.ntmps34
  go_wp2
  have hI := hF.drew
  have hQ : ∀ V : Wd (fun W => Fr w W w.heap.size (pkA p)), Fr w V.w w.heap.size (pkA p) := fun V => V.h
  have hr := fun V => (hQ V).pk.1
  have hl := fun V => (hQ V).pk.2.1
  replace hQ := Lib.hid hQ
  have hne : Nonempty (Wd fun W => Fr w W w.heap.size (pkA p)) := ⟨⟨_, hI⟩⟩
  refine wp_region_in (fun W => Fr w W w.heap.size (pkA p)) (by kernel_rfl) (by kernel_rfl) hI ?_
  repeat (any_goals (first | go_big_quiet_step ((go_at_call 64; exact call_in (fun _ _ h hb => h.call hb) (ref11head_any _ _ ho))) | quiet_step ((go_at_call 64; exact call_in (fun _ _ h hb => h.call hb) (ref11head_any _ _ ho)))))
  refine wpQuiet_nil ?_
  rintro _ ⟨V, rfl⟩
  have hF := V.h
  go_wp2
  go_ret
  exact RB.mk' rfl hF.bel

theorem ends_any (p : Pk) (w : World) (h0 : 0 ≤ p.off) (h1 : p.off ≤ 140737488351232) (hdm : p.d.n ≤ 140737488351232) : Calls Tryd.prog 73 #[.agg (pkA p)] w (RB (.int .i64 (p.off + p.d.n)) w) := by
  have hF := Fr.start w (pkA p) 28
  obtain ⟨hr, hl, hs, hd⟩ := hF.pk
  go_enter Tryd.func73, Tryd.ntmps73
  go_wp2
  go_ret
  exact RB.mk' rfl hF.bel

theorem bytes_any (p : Pk) (w : World) (ho : p.o.n ≤ 140737488351232) (hdm : p.d.n ≤ 140737488351232) : Calls Tryd.prog 26 #[.agg (pkA p)] w (RB (.int .i64 (20 + p.o.n + p.d.n)) w) := by
  have hF := Fr.start w (pkA p) 28
  obtain ⟨hr, hl, hs, hd⟩ := hF.pk
  go_enter Tryd.func26, Tryd.ntmps26
  go_wp2
  go_ret
  exact RB.mk' rfl hF.bel

/-- A number brought to 0 .. most. -/
def lrestF (n most : Int) : Int := n % (most + 1)
theorem lrest_any (n most : Int) (w : World) (h0 : 0 ≤ most) (h1 : most ≤ 65535) : Calls Tryd.prog 23 #[.int .i64 n, .int .i64 most] w (RB (.int .i64 (lrestF n most)) w) := by
  have hlo : -(most + 1) < n.tmod (most + 1) := by have := Int.lt_tmod_of_pos n (show 0 < most + 1 by omega); omega
  have hhi : n.tmod (most + 1) < most + 1 := Int.tmod_lt_of_pos n (by omega)
  have hf : lrestF n most = if n.tmod (most + 1) < 0 then n.tmod (most + 1) + most + 1 else n.tmod (most + 1) := by
    unfold lrestF
    have hm : n.tmod (most + 1) = if 0 ≤ n ∨ (most + 1) ∣ n then n % (most + 1) else n % (most + 1) - (most + 1) := by
      rw [Int.tmod_eq_emod]
      have : ((most + 1).natAbs : Int) = most + 1 := by omega
      split <;> simp_all
    have e0 : 0 ≤ n % (most + 1) := Int.emod_nonneg _ (by omega)
    have e1 : n % (most + 1) < most + 1 := Int.emod_lt_of_pos _ (by omega)
    split <;> rename_i h <;> rw [hm] at h ⊢ <;> split at h <;> simp_all <;> omega
  generalize lrestF n most = X at *
  replace hf := Lib.hid hf
  go_enter Tryd.func23, Tryd.ntmps23
  go_wp2
  · go_ret
    exact RB.mk' (by rw [hf.out, if_pos (by assumption)]; rfl) (Below.refl _ _)
  · go_ret
    exact RB.mk' (by rw [hf.out, if_neg (by omega)]; rfl) (Below.refl _ _)

set_option maxRecDepth 100000 in
theorem alike_any (p q : Pk) (w : World) : Calls Tryd.prog 72 #[.agg (pkA p), .agg (pkA q)] w (RB (.bool (decide (p.key = q.key))) w) := by
  have hX := ((Bx.start w).alloc (pkA p) 28).alloc (pkA q) 28
  simp only [World.size_alloc] at hX
  obtain ⟨hr, hl, hs, hd⟩ := pk_at hX.h1
  obtain ⟨hr', hl', hs', hd'⟩ := pk_at hX.h0
  generalize hK : decide (p.key = q.key) = X
  go_enter Tryd.func72, Tryd.ntmps72
  go_wp2
  all_goals (go_ret; refine RB.mk' ?_ hX.bel; go_light; clear hl hs hd hl' hs' hd'; subst hK; refine congrArg Value.bool ?_; (first | (simp_all [Pk.key]; done) | (simp_all [Pk.key]; grind)))
end Go.Proofs.YtleokgmflelkcaaDoor
