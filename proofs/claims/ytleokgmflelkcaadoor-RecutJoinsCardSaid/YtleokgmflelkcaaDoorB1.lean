/- slices.SortFunc of packets, by offsets. -/
import Derived.Test.YtleokgmflelkcaaDoorSh1
import Derived.Test.YtleokgmflelkcaaDoorA24
import Derived.Shelf.SlSortCmp.NoneTotal
set_option linter.unusedSimpArgs false
set_option linter.unusedVariables false
namespace Go.Proofs.YtleokgmflelkcaaDoor
open Go Go.RowKit Go.Sort Go.Lib

instance : Inhabited Fp := ⟨⟨zPk, [], []⟩⟩
def encF (x : Fp) : List Value := (pkA x.p).toList
theorem encF_len (x : Fp) : (encF x).length = 46 := by unfold encF; rw [Array.length_toList, pkA_size]
theorem encF_one (x : Fp) : ∀ v ∈ encF x, v.oneCell' = true := fun u hu => (Array.all_eq_true_iff_forall_mem.1 (pkA_one x.p)) u (by simpa [encF] using hu)
def cmpO (x y : Fp) : Int := Lib.compareInt x.p.off y.p.off
theorem ltO (x y : Fp) : ltOf cmpO x y = decide (x.p.off < y.p.off) := by
  unfold ltOf cmpO Lib.compareInt
  by_cases h1 : x.p.off < y.p.off
  · simp [h1]
  · by_cases h2 : y.p.off < x.p.off <;> simp [h1, h2]
theorem swoO : SWO (ltOf cmpO) where
  irrefl x := by rw [ltO]; simp
  trans x y z h1 h2 := by rw [ltO] at *; simp at *; omega
  ntrans x y z h1 h2 := by rw [ltO] at *; simp at *; omega

set_option maxRecDepth 100000 in
set_option maxHeartbeats 1000000 in
theorem closure45 (p q : Pk) (W : World) : Calls Tryd.prog 45 #[.agg (pkA p), .agg (pkA q)] W fun e w' => e = .returned (.int .i64 (Lib.compareInt p.off q.off)) ∧ ∃ n os', w' = grow (W.drewN n) os' := by
  have hcon := fun W' => AnyG.cmp_Compare_int Tryd.cmpInt p.off q.off W'
  change ∀ W', Calls Tryd.prog 46 _ _ _ at hcon
  generalize Lib.compareInt p.off q.off = r at hcon ⊢
  have hX := ((Bx.start W).alloc (pkA p) 28).alloc (pkA q) 28
  simp only [World.size_alloc] at hX
  obtain ⟨hr, hl, _, _⟩ := pk_at hX.h0
  obtain ⟨hr', hl', _, _⟩ := pk_at hX.h1
  clear hX
  go_enter Tryd.func45, Tryd.ntmps45
  go_wp2_with (go_at_call 46; refine (hcon _).mono ?_; rintro e w' ⟨rfl, rfl⟩)
  go_ret
  exact ⟨rfl, 0, _, by rw [alloc_eq_grow, alloc_eq_grow, grow_grow]; rfl⟩

theorem cmpLays45 (blk off size : Nat) (w : World) : CmpLays Tryd.prog 45 #[] encF 46 cmpO blk off size w :=
  fun _ _ _ _ x y => closure45 x.p y.p _
end Go.Proofs.YtleokgmflelkcaaDoor
