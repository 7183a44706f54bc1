/- Small functions on packets; one packet told from another by the program's own same. -/
import Derived.Test.YtleokgmflelkcaaDoorA11
set_option linter.unusedSimpArgs false
set_option linter.unusedVariables false
namespace Go.Proofs.YtleokgmflelkcaaDoor
open Go Go.RowKit

theorem call_ins {I : World → Prop} {f : FuncId} {args : Array Value} {v : Value} (stab : ∀ W W', I W → Below W.heap.size W W' → I W') (h : ∀ V : Wd I, Calls Tryd.prog f args V.w (RB v V.w)) (V : Wd I) :
    Calls Tryd.prog f args V.w fun e w'' => e = .returned v ∧ ∃ V' : Wd I, w'' = V'.w := call_in stab (h V)

theorem ref11Bytes_any (p : Pk) (w : World) (ho : p.o.n ≤ 140737488351232) (hdm : p.d.n ≤ 140737488351232) : Calls Tryd.prog 34 #[.agg (pkA p)] w (RB (.int .i64 (rheadF p + p.d.n)) w) := by
  have hF := Fr.start w (pkA p) 28
  obtain ⟨hr, hl, hs, hd⟩ := hF.pk
  have h0 : 0 ≤ rheadF p := by unfold rheadF head6F; split <;> (try split) <;> omega
  have h1 : rheadF p ≤ 140737488351272 := by unfold rheadF head6F; split <;> (try split) <;> omega
  go_enter Tryd.func34, Tryd.ntmps34
  go_wp2
  have hI := hF.drew
  have hQ : ∀ V : Wd (fun W => Fr w W w.heap.size (pkA p)), Fr w V.w w.heap.size (pkA p) := fun V => V.h
  have hr := fun V => (hQ V).pk.1
  have hl := fun V => (hQ V).pk.2.1
  replace hQ := Lib.hid hQ
  have hne : Nonempty (Wd fun W => Fr w W w.heap.size (pkA p)) := ⟨⟨_, hI⟩⟩
  refine wp_region_in (fun W => Fr w W w.heap.size (pkA p)) (by kernel_rfl) (by kernel_rfl) hI ?_
  repeat (any_goals (first | go_big_quiet_step ((go_at_call 64; exact call_in (fun _ _ h hb => h.call hb) (ref11head_any _ _ ho))) | quiet_step ((go_at_call 64; exact call_in (fun _ _ h hb => h.call hb) (ref11head_any _ _ ho)))))
  refine wpQuiet_nil ?_
  rintro _ ⟨V, rfl⟩
  have hF := V.h
  go_wp2
  go_ret
  exact RB.mk' rfl hF.bel

theorem ends_any (p : Pk) (w : World) (h0 : 0 ≤ p.off) (h1 : p.off ≤ 140737488351232) (hdm : p.d.n ≤ 140737488351232) : Calls Tryd.prog 73 #[.agg (pkA p)] w (RB (.int .i64 (p.off + p.d.n)) w) := by
  have hF := Fr.start w (pkA p) 28
  obtain ⟨hr, hl, hs, hd⟩ := hF.pk
  go_enter Tryd.func73, Tryd.ntmps73
  go_wp2
  go_ret
  exact RB.mk' rfl hF.bel

theorem bytes_any (p : Pk) (w : World) (ho : p.o.n ≤ 140737488351232) (hdm : p.d.n ≤ 140737488351232) : Calls Tryd.prog 26 #[.agg (pkA p)] w (RB (.int .i64 (20 + p.o.n + p.d.n)) w) := by
  have hF := Fr.start w (pkA p) 28
  obtain ⟨hr, hl, hs, hd⟩ := hF.pk
  go_enter Tryd.func26, Tryd.ntmps26
  go_wp2
  go_ret
  exact RB.mk' rfl hF.bel

/-- A number brought to 0 .. most. -/
def lrestF (n most : Int) : Int := n % (most + 1)
theorem lrest_any (n most : Int) (w : World) (h0 : 0 ≤ most) (h1 : most ≤ 65535) : Calls Tryd.prog 23 #[.int .i64 n, .int .i64 most] w (RB (.int .i64 (lrestF n most)) w) := by
  have hlo : -(most + 1) < n.tmod (most + 1) := by have := Int.lt_tmod_of_pos n (show 0 < most + 1 by omega); omega
  have hhi : n.tmod (most + 1) < most + 1 := Int.tmod_lt_of_pos n (by omega)
  have hf : lrestF n most = if n.tmod (most + 1) < 0 then n.tmod (most + 1) + most + 1 else n.tmod (most + 1) := by
    unfold lrestF
    have hm : n.tmod (most + 1) = if 0 ≤ n ∨ (most + 1) ∣ n then n % (most + 1) else n % (most + 1) - (most + 1) := by
      rw [Int.tmod_eq_emod]
      have : ((most + 1).natAbs : Int) = most + 1 := by omega
      split <;> simp_all
    have e0 : 0 ≤ n % (most + 1) := Int.emod_nonneg _ (by omega)
    have e1 : n % (most + 1) < most + 1 := Int.emod_lt_of_pos _ (by omega)
    split <;> rename_i h <;> rw [hm] at h ⊢ <;> split at h <;> simp_all <;> omega
  generalize lrestF n most = X at *
  replace hf := Lib.hid hf
  go_enter Tryd.func23, Tryd.ntmps23
  go_wp2
  · go_ret
    exact RB.mk' (by rw [hf.out, if_pos (by assumption)]; rfl) (Below.refl _ _)
  · go_ret
    exact RB.mk' (by rw [hf.out, if_neg (by omega)]; rfl) (Below.refl _ _)

set_option maxRecDepth 100000 in
theorem alike_any (p q : Pk) (w : World) : Calls Tryd.prog 72 #[.agg (pkA p), .agg (pkA q)] w (RB (.bool (decide (p.key = q.key))) w) := by
  have hX := ((Bx.start w).alloc (pkA p) 28).alloc (pkA q) 28
  simp only [World.size_alloc] at hX
  obtain ⟨hr, hl, hs, hd⟩ := pk_at hX.h1
  obtain ⟨hr', hl', hs', hd'⟩ := pk_at hX.h0
  generalize hK : decide (p.key = q.key) = X
  go_enter Tryd.func72, Tryd.ntmps72
  go_wp2
  all_goals (go_ret; refine RB.mk' ?_ hX.bel; go_light; clear hl hs hd hl' hs' hd'; subst hK; refine congrArg Value.bool ?_; (first | (simp_all [Pk.key]; done) | (simp_all [Pk.key]; grind)))
end Go.Proofs.YtleokgmflelkcaaDoor
