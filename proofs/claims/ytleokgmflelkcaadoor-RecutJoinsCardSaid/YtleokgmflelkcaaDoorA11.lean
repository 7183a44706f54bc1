/- One packet told from another: fields, key, same. -/
import Derived.Test.YtleokgmflelkcaaDoorA10
set_option linter.unusedSimpArgs false
set_option linter.unusedVariables false
namespace Go.Proofs.YtleokgmflelkcaaDoor
open Go Go.RowKit

theorem wpList_build_to {ops : Array Oper} {rest : List Oper} {o : Oper} {a : Act} {w : World} {Q : Exit → Act → World → Prop} (hg : o.guard = none) (t : TypeId) (parts : Array (Nat × Operand)) (ho : o.op = .build t parts) (cs : Array Value)
    (hf : Tryd.prog.built t (parts.map fun (i, x) => (i, a.eval x)).toList = some cs) (h : wpList Tryd.prog ops Q rest (a.put o.dst (.agg cs)) w) : wpList Tryd.prog ops Q (o :: rest) a w :=
  wpList_build hg t parts ho (by rw [hf]; rfl) (by rw [hf]; exact h)

theorem brA_one (p : Br) : (brA p).all (·.oneCell') = true := by unfold brA; simp [Value.oneCell']
theorem kyA_one (p : Ky) : (kyA p).all (·.oneCell') = true := by unfold kyA; simp [Value.oneCell']


set_option maxRecDepth 100000 in
theorem fields_any (p : Pk) (w : World) : Calls Tryd.prog 39 #[.agg (pkA p)] w (RB (.agg (brA p.bare)) w) := by
  have hX := ((Bx.start w).alloc (pkA p) 28).alloc (brA zBr) 59
  simp only [World.size_alloc] at hX
  obtain ⟨hr, hl, hs, hd⟩ := pk_at hX.h1
  go_enter Tryd.func39, Tryd.ntmps39
  go_wp2_with (first | (refine wpList_build_to rfl 59 _ rfl (brA p.bare) (by kernel_rfl) ?_) | (refine wpList_storeA_bx rfl 59 (.tmp 2) (.tmp 23) rfl _ _ rfl rfl (bs := []) hX (by rw [brA_size]; exact i59) (by rw [brA_size, brA_size]) (brA_one _) ?_; intro W5 hX5 hg5))
  exact bodyPost_ret (results_cell rfl _ _ _ _ _ rfl hX5.h0 (g59 _) (by rw [brA_size]; exact i59)) rfl ⟨rfl, hX5.bel⟩

set_option maxRecDepth 100000 in
theorem key_any (p : Pk) (w : World) : Calls Tryd.prog 68 #[.agg (pkA p)] w (RB (.agg (kyA p.key)) w) := by
  have hX := ((Bx.start w).alloc (pkA p) 28).alloc (kyA zKy) 80
  simp only [World.size_alloc] at hX
  obtain ⟨hr, hl, hs, hd⟩ := pk_at hX.h1
  go_enter Tryd.func68, Tryd.ntmps68
  go_wp2_with (first | (refine wpList_build_to rfl 80 _ rfl (kyA p.key) (by kernel_rfl) ?_) | (refine wpList_storeA_bx rfl 80 (.tmp 2) (.tmp 13) rfl _ _ rfl rfl (bs := []) hX (by rw [kyA_size]; exact i80) (by rw [kyA_size, kyA_size]) (kyA_one _) ?_; intro W5 hX5 hg5))
  exact bodyPost_ret (results_cell rfl _ _ _ _ _ rfl hX5.h0 (g80 _) (by rw [kyA_size]; exact i80)) rfl ⟨rfl, hX5.bel⟩

def sameP (p q : Pk) (os ds os' ds' : List Int) : Bool := decide (p.bare = q.bare) && (p.more == q.more) && decide (p.off = q.off) && decide (os = os') && decide (ds = ds')

set_option maxRecDepth 100000 in
set_option maxHeartbeats 1000000 in
theorem Same_any (p q : Pk) (os ds os' ds' : List Int) (w : World) (hp : PkIn w p os ds) (hq : PkIn w q os' ds') : Calls Tryd.prog 21 #[.agg (pkA p), .agg (pkA q)] w (RB (.bool (sameP p q os ds os' ds')) w) := by
  have hX := ((Bx.start w).alloc (pkA p) 28).alloc (pkA q) 28
  simp only [World.size_alloc] at hX
  obtain ⟨hr, hl, hs, hd⟩ := pk_at hX.h1
  obtain ⟨hr', hl', hs', hd'⟩ := pk_at hX.h0
  have m1 := hp.om
  have m2 := hp.dm
  have m3 := hq.om
  have m4 := hq.dm
  go_enter Tryd.func21, Tryd.ntmps21
  go_wp2_with (first | (go_at_call 50; (with_reducible refine (ref11same_any p.o q.o os os' _ (hp.o.below hX.bel) (hq.o.below hX.bel) m1 m3).mono ?_); rintro e w1 ⟨rfl, hb⟩; have hX := hX.call hb; obtain ⟨hr, hl, hs, hd⟩ := pk_at hX.h1; obtain ⟨hr', hl', hs', hd'⟩ := pk_at hX.h0; clear hb) | (go_at_call 50; (with_reducible refine (ref11same_any p.d q.d ds ds' _ (hp.d.below hX.bel) (hq.d.below hX.bel) m2 m4).mono ?_); rintro e w1 ⟨rfl, hb⟩; have hX := hX.call hb; obtain ⟨hr, hl, hs, hd⟩ := pk_at hX.h1; obtain ⟨hr', hl', hs', hd'⟩ := pk_at hX.h0; clear hb))
  all_goals (go_ret; refine RB.mk' ?_ hX.bel; go_light; clear hl hs hd hl' hs' hd'; refine congrArg Value.bool ?_; (first | (simp_all [sameP, Pk.bare]; done) | (simp_all [sameP, Pk.bare]; grind)))
end Go.Proofs.YtleokgmflelkcaaDoor
