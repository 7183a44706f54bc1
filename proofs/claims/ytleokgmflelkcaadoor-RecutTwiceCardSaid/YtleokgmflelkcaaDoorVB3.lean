/- slices.SortFunc of packets, by offsets. slices.SortFunc of packets in a row of the call's own: they come out in another order, sorted by offsets. recut.Join: what it computes (plain). -/
import Derived.Test.YtleokgmflelkcaaDoorVSh1
import Derived.Test.YtleokgmflelkcaaDoorVA24
import Derived.Shelf.SlSortCmp.NoneTotal
import Derived.Test.YtleokgmflelkcaaDoorVA26
set_option linter.unusedSimpArgs false
set_option linter.unusedVariables false
namespace Go.Proofs.YtleokgmflelkcaaDoor
open Go Go.RowKit Go.Sort Go.Lib

instance : Inhabited Fp := ⟨⟨zPk, [], []⟩⟩
def encF (x : Fp) : List Value := (pkA x.p).toList
theorem encF_len (x : Fp) : (encF x).length = 46 := by unfold encF; rw [Array.length_toList, pkA_size]
theorem encF_one (x : Fp) : ∀ v ∈ encF x, v.oneCell' = true := fun u hu => (Array.all_eq_true_iff_forall_mem.1 (pkA_one x.p)) u (by simpa [encF] using hu)
def cmpO (x y : Fp) : Int := Lib.compareInt x.p.off y.p.off
theorem ltO (x y : Fp) : ltOf cmpO x y = decide (x.p.off < y.p.off) := by
  unfold ltOf cmpO Lib.compareInt
  by_cases h1 : x.p.off < y.p.off
  · simp [h1]
  · by_cases h2 : y.p.off < x.p.off <;> simp [h1, h2]
theorem swoO : SWO (ltOf cmpO) where
  irrefl x := by rw [ltO]; simp
  trans x y z h1 h2 := by rw [ltO] at *; simp at *; omega
  ntrans x y z h1 h2 := by rw [ltO] at *; simp at *; omega

set_option maxRecDepth 100000 in
set_option maxHeartbeats 1000000 in
theorem closure45 (p q : Pk) (W : World) : Calls Tryd.prog 45 #[.agg (pkA p), .agg (pkA q)] W fun e w' => e = .returned (.int .i64 (Lib.compareInt p.off q.off)) ∧ ∃ n os', w' = grow (W.drewN n) os' := by
  have hcon := fun W' => AnyG.cmp_Compare_int Tryd.cmpInt p.off q.off W'
  change ∀ W', Calls Tryd.prog 46 _ _ _ at hcon
  generalize Lib.compareInt p.off q.off = r at hcon ⊢
  have hX := ((Bx.start W).alloc (pkA p) 28).alloc (pkA q) 28
  simp only [World.size_alloc] at hX
  obtain ⟨hr, hl, _, _⟩ := pk_at hX.h0
  obtain ⟨hr', hl', _, _⟩ := pk_at hX.h1
  clear hX
  go_enter Tryd.func45, Tryd.ntmps45
  go_wp2_with (go_at_call 46; refine (hcon _).mono ?_; rintro e w' ⟨rfl, rfl⟩)
  go_ret
  exact ⟨rfl, 0, _, by rw [alloc_eq_grow, alloc_eq_grow, grow_grow]; rfl⟩

theorem cmpLays45 (blk off size : Nat) (w : World) : CmpLays Tryd.prog 45 #[] encF 46 cmpO blk off size w :=
  fun _ _ _ _ x y => closure45 x.p y.p _
end Go.Proofs.YtleokgmflelkcaaDoor
namespace Go.Proofs.YtleokgmflelkcaaDoor
open Go Go.RowKit Go.Sort Go.Lib

theorem holds_row {w : World} {g n : Nat} {cur : Array Value} {l : List Fp} (hl : l.length = n) (hh : w.heap[g]? = some (.cells cur 28 (0, 0))) (ht : cur.toList.take (n * 46) = pkCells (l.map Fp.p)) : HoldsK encF 46 w g 0 l.toArray := by
  intro t hts
  rw [size_flatK] at hts
  have hts' : t < l.length * 46 := by simpa using hts
  have hi : t / 46 < l.length := by omega
  rw [get_flatK _ _ _ _ hts, Nat.zero_add]
  refine ⟨?_, frozen_of_row w g t cur 28 hh⟩
  rw [cell_of_row w g t cur 28 (0, 0) hh]
  have hx : l.toArray[t / 46]! = l[t / 46] := by
    rw [getElem!_pos l.toArray (t / 46) (by simpa using hi)]; simp
  rw [hx]
  have hf := flat_get (l.map Fp.p) (t / 46) l[t / 46].p (by rw [List.getElem?_map, List.getElem?_eq_getElem hi]; rfl) (t % 46) (Nat.mod_lt _ (by decide))
  rw [Nat.div_add_mod' t 46, ← ht, List.getElem?_take, if_pos (by omega)] at hf
  rw [← Array.getElem?_toList, hf]
  have hm : t % 46 < (pkA l[t / 46].p).size := by rw [pkA_size]; exact Nat.mod_lt _ (by decide)
  rw [Array.getElem?_eq_getElem hm]
  unfold encF
  rw [getElem!_pos (pkA l[t / 46].p).toList (t % 46) (by rw [Array.length_toList]; exact hm)]
  simp

theorem holds_at {w : World} {g : Nat} {d : Array Fp} (h : HoldsK encF 46 w g 0 d) (i : Nat) (x : Fp) (hx : d.toList[i]? = some x) : At w g (0 + i * 46) (pkA x.p) := by
  intro j hj
  have hj' : j < 46 := by rw [pkA_size] at hj; exact hj
  have hi : i < d.size := by
    have := (List.getElem?_eq_some_iff.1 hx).1; simpa using this
  rw [(h.cell hi hj').1]
  have e : d[i]! = x := by
    rw [getElem!_pos d i hi]
    rw [Array.getElem?_toList, Array.getElem?_eq_getElem hi] at hx
    exact Option.some.inj hx
  rw [e, Array.getElem?_eq_getElem hj]
  unfold encF
  rw [getElem!_pos (pkA x.p).toList j (by rw [Array.length_toList]; exact hj)]
  simp

theorem below_sort {w : World} {g m : Nat} {d : Array Fp} {os : Array Obj} {B : Nat} (hB : B ≤ g) (hg : g < w.heap.size) : Go.RowKit.Below B w (sortWorldK encF 46 w g 0 m d os) := by
  refine ⟨rfl, rfl, rfl, ?_, fun k hk => ?_⟩
  · exact size_sortWorldK_c encF 46 w g 0 m d os
  · show ((Go.Sort.ahead w m).heap.modify g _ ++ os)[k]? = _
    have : k < w.heap.size := by omega
    rw [Array.getElem?_append, if_pos (by simp [Go.Sort.ahead]; omega), Array.getElem?_modify, if_neg (by omega)]; rfl

/-- Sorted by offsets. -/
def SortedO (σ : List Fp) : Prop := ∀ (i j : Nat) (x y : Fp), i < j → σ[i]? = some x → σ[j]? = some y → x.p.off ≤ y.p.off
/-- What SortFunc leaves. -/
def RSort (s : Sl) (l : List Fp) (B : Nat) (w : World) (e : Ending) (w' : World) : Prop :=
  e = .returned (.tuple #[]) ∧ Go.RowKit.Below B w w' ∧ ∃ σ : List Fp, σ.Perm l ∧ SortedO σ ∧ ((s.a = none ∧ s.n = 0 ∧ s.c = 0) ∨ ∃ g, s.a = some ⟨g, 0, none⟩ ∧ g < w'.heap.size ∧ ∀ (i : Nat) (x : Fp), σ[i]? = some x → At w' g (0 + i * 46) (pkA x.p))

theorem sortPk_any (s : Sl) (l : List Fp) (B : Nat) (w : World) (hl : l.length = s.n) (hn : s.n ≤ 925904528626) (hown : w.ownsRow B 28 46 (.slice s.a s.n s.c) s.n (pkCells (l.map Fp.p))) :
    Calls Tryd.prog 44 #[.slice s.a s.n s.c, .func (.func 45) #[] #[]] w (RSort s l B w) := by
  obtain ⟨a, n, c⟩ := s
  simp only at hl hn hown ⊢
  rcases hown.2 with ⟨hv, h0⟩ | ⟨g, cap, cur, hv, hB, hh, hc, hmx, hsz, ht⟩
  · simp only [Value.slice.injEq] at hv
    obtain ⟨rfl, h1, h2⟩ := hv
    subst h0
    have hcon := AnyF.slices_SortFunc_none Tryd.sortPk none c (.func (.func 45) #[] #[]) w
    change Calls Tryd.prog 44 _ _ _ at hcon
    refine hcon.mono ?_
    rintro e w' ⟨rfl, rfl⟩
    have : l = [] := List.eq_nil_of_length_eq_zero hl
    subst this
    exact ⟨rfl, Go.RowKit.Below.refl _ _, [], List.Perm.refl _, by intro i j x y _ h; simp at h, .inl ⟨rfl, rfl, h2⟩⟩
  · simp only [Value.slice.injEq] at hv
    obtain ⟨rfl, -, h2⟩ := hv
    have hH := holds_row hl hh ht
    have hgl : g < w.heap.size := (Array.getElem?_eq_some_iff.1 hh).1
    have eg : ∀ args w, (callFunc 45 args).run Tryd.prog w = .ok (.enter 45 args) w := enters_of Tryd.func45 (by kernel_rfl) rfl
    have hcon := AnyQ.slices_SortFunc Tryd.sortPk 46 (fun w => g28 w) (fun w => by kernel_rfl) encF encF_len encF_one cmpO swoO 45 #[] g 0 c l.toArray w eg (cmpLays45 g 0 l.toArray.size w) hH hgl (by simp; omega)
    have e1 : l.toArray.size = n := by simp [hl]
    rw [e1] at hcon
    change Calls Tryd.prog 44 _ _ _ at hcon
    refine hcon.mono ?_
    rintro e w' ⟨rfl, d', m, os, ⟨hp1, hp2, hp3⟩, hs, rfl⟩
    have hd : d'.size = n := by rw [hp1, e1]
    have hx1 : d'.extract 0 n = d' := by rw [← hd]; simp
    have hx2 : l.toArray.extract 0 n = l.toArray := by rw [← e1]; simp
    rw [hx1, hx2] at hp3
    refine ⟨rfl, below_sort hB hgl, d'.toList, by simpa using hp3, ?_, .inr ⟨g, rfl, Nat.lt_of_lt_of_le hgl (size_sortWorldK_c encF 46 w g 0 m d' os), ?_⟩⟩
    · intro i j x y hij hi hj
      have hjn : j < n := by
        have := (List.getElem?_eq_some_iff.1 hj).1; simp at this; omega
      have := hs i j (Nat.zero_le _) hij hjn
      rw [ltO] at this
      have ex : d'[i]! = x := by
        rw [getElem!_pos d' i (by omega)]
        rw [Array.getElem?_toList, Array.getElem?_eq_getElem (by omega)] at hi
        exact Option.some.inj hi
      have ey : d'[j]! = y := by
        rw [getElem!_pos d' j (by omega)]
        rw [Array.getElem?_toList, Array.getElem?_eq_getElem (by omega)] at hj
        exact Option.some.inj hj
      rw [ex, ey] at this
      simpa using this
    · exact holds_at (holdsK_sortWorldK_c encF 46 w g 0 l.toArray d' m os hH hgl (by rw [hd, e1]))
end Go.Proofs.YtleokgmflelkcaaDoor
namespace Go.Proofs.YtleokgmflelkcaaDoor
open Go Go.RowKit

def endsF (x : Fp) : Int := x.p.off + (x.ds.length : Int)
/-- The first check: nothing lies behind the end. -/
def joinChk (tt last : Int) : Nat → List Fp → Bool
  | _, [] => true
  | i, x :: l => if (i : Int) ≠ last ∧ (tt ≤ x.p.off ∨ tt < endsF x) then false else joinChk tt last (i + 1) l
/-- The second: in the order, without overlaps; where it ends, and whether there is a gap. -/
def joinGo : Int → Bool → List Fp → Option (Int × Bool)
  | a, g, [] => some (a, g)
  | a, g, x :: l => if x.p.off < a then none else joinGo (endsF x) (g || decide (a < x.p.off)) l
/-- The fields of the whole. -/
def joinW (p : Pk) : Pk := if p.v = 6 then { p with more := false, frag := false, id := 0 } else { p with more := false }
def joinTo (l : List Fp) (last : Int) : Int := if 0 ≤ last then endsF (l.getD last.toNat ⟨zPk, [], []⟩) else 65536
structure JR where
  e : Int
  p : Pk
  os : List Int
  ds : List Int
def joinE (e : Int) : JR := ⟨e, zPk, [], []⟩
def joinR (l σ : List Fp) : JR :=
  match endR l with
  | none => joinE 1
  | some last =>
    if joinChk (joinTo l last) last 0 l = false then joinE 1
    else match joinGo 0 (decide (last < 0)) σ with
    | none => joinE 1
    | some (a, g) => if g = true ∨ a ≠ joinTo l last then joinE 110 else
      match σ with
      | [] => joinE 110
      | x :: _ => if headF { joinW x.p with d := ⟨none, (σ.flatMap Fp.ds).length, 0⟩ } x.os = 0 then joinE 1 else ⟨0, joinW x.p, x.os, σ.flatMap Fp.ds⟩

/-- What Join answers: its list in some order that is sorted by offsets. -/
def RJ (l : List Fp) (w : World) (e : Ending) (w' : World) : Prop :=
  ∃ (σ : List Fp) (s1 s2 : Sl), σ.Perm l ∧ SortedO σ ∧ e = .returned (.tuple #[.agg (pkA { (joinR l σ).p with o := s1, d := s2 }), .int .i64 (joinR l σ).e]) ∧ Own w.heap.size w' s1 (joinR l σ).os ∧ Own w.heap.size w' s2 (joinR l σ).ds ∧ Below w.heap.size w w'

/-- The numbers of a right packet. -/
theorem right_nums {p : Pk} {os : List Int} (h : headF p os ≠ 0) : 0 ≤ p.off ∧ p.off + p.d.n ≤ 65535 ∧ (p.v = 4 ∨ p.v = 6) := by
  have hr : rightF p os = true := by
    cases h' : rightF p os
    · rw [headF, h'] at h; simp at h
    · rfl
  unfold rightF at hr
  by_cases h4 : p.v = 4
  · rw [if_pos h4] at hr
    have := right4_nums hr
    omega
  · rw [if_neg h4] at hr
    simp only [right6F, r6a, r6b, r6c, withinF, Bool.and_eq_true, decide_eq_true_eq] at hr
    obtain ⟨ha, hb, hc⟩ := hr
    cases hf : p.frag
    · simp only [hf, Bool.false_eq_true, if_false, Bool.and_eq_true, decide_eq_true_eq] at hc
      omega
    · simp only [hf, if_true, Bool.and_eq_true, decide_eq_true_eq] at hc
      omega

theorem endF_right {k0 : Ky} : ∀ (l : List Fp) (i : Nat) (a : Int) {r : Int}, endF k0 i a l = some r → ∀ x ∈ l, headF x.p x.os ≠ 0 ∧ x.p.key = k0
  | [], _, _, _, _, x, hx => by cases hx
  | y :: l, i, a, r, h, x, hx => by
    rw [endF] at h
    split at h
    · cases h
    · rename_i hc
      rcases List.mem_cons.1 hx with rfl | hx
      · exact ⟨fun h => hc (.inl h), by by_cases h : x.p.key = k0; exact h; exact absurd (.inr (.inl h)) hc⟩
      · exact endF_right l _ _ h x hx
theorem endF_range {k0 : Ky} : ∀ (l : List Fp) (i : Nat) (a : Int) {r : Int}, endF k0 i a l = some r → -1 ≤ a → a < i → -1 ≤ r ∧ r < i + l.length
  | [], i, a, r, h, h1, h2 => by
    rw [endF] at h
    cases h
    simp; omega
  | y :: l, i, a, r, h, h1, h2 => by
    rw [endF] at h
    split at h
    · cases h
    · have := endF_range l (i + 1) _ h (by split <;> omega) (by split <;> omega)
      simp; omega
theorem endR_right {l : List Fp} {r : Int} (h : endR l = some r) : (∀ x ∈ l, headF x.p x.os ≠ 0) ∧ -1 ≤ r ∧ r < l.length := by
  cases l with
  | nil => rw [endR] at h; cases h; exact ⟨(fun x h => by cases h), by omega, by simp⟩
  | cons x l =>
    have h1 := endF_right _ _ _ h
    have h2 := endF_range _ _ _ h (by omega) (by omega)
    exact ⟨fun y hy => (h1 y hy).1, h2.1, by simpa using h2.2⟩

theorem joinGo_sum : ∀ (σ : List Fp) (a b : Int) (g : Bool), joinGo a g σ = some (b, false) → g = false ∧ a + (σ.flatMap Fp.ds).length = b
  | [], a, b, g, h => by rw [joinGo] at h; cases h; exact ⟨rfl, by simp⟩
  | x :: l, a, b, g, h => by
    rw [joinGo] at h
    split at h
    · cases h
    · have := joinGo_sum l _ _ _ h
      simp only [Bool.or_eq_false_iff, decide_eq_false_iff_not, endsF] at this
      refine ⟨this.1.1, ?_⟩
      rw [List.flatMap_cons, List.length_append]
      omega

theorem headF_sizes (p : Pk) (os : List Int) (o d o' d' : Sl) (h1 : o.n = o'.n) (h2 : d.n = d'.n) : headF { p with o := o, d := d } os = headF { p with o := o', d := d' } os := by
  simp only [headF, rightF, right4F, f4F, placed4F, right6F, r6a, r6b, r6c, head6F]
  rw [h1, h2]
end Go.Proofs.YtleokgmflelkcaaDoor
