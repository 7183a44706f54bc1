/- slices.SortFunc of packets in a row of the call's own: they come out in another order, sorted by offsets. -/
import Derived.Test.YtleokgmflelkcaaDoorB1
set_option linter.unusedSimpArgs false
set_option linter.unusedVariables false
namespace Go.Proofs.YtleokgmflelkcaaDoor
open Go Go.RowKit Go.Sort Go.Lib

theorem holds_row {w : World} {g n : Nat} {cur : Array Value} {l : List Fp} (hl : l.length = n) (hh : w.heap[g]? = some (.cells cur 28 (0, 0))) (ht : cur.toList.take (n * 46) = pkCells (l.map Fp.p)) : HoldsK encF 46 w g 0 l.toArray := by
  intro t hts
  rw [size_flatK] at hts
  have hts' : t < l.length * 46 := by simpa using hts
  have hi : t / 46 < l.length := by omega
  rw [get_flatK _ _ _ _ hts, Nat.zero_add]
  refine ⟨?_, frozen_of_row w g t cur 28 hh⟩
  rw [cell_of_row w g t cur 28 (0, 0) hh]
  have hx : l.toArray[t / 46]! = l[t / 46] := by
    rw [getElem!_pos l.toArray (t / 46) (by simpa using hi)]; simp
  rw [hx]
  have hf := flat_get (l.map Fp.p) (t / 46) l[t / 46].p (by rw [List.getElem?_map, List.getElem?_eq_getElem hi]; rfl) (t % 46) (Nat.mod_lt _ (by decide))
  rw [Nat.div_add_mod' t 46, ← ht, List.getElem?_take, if_pos (by omega)] at hf
  rw [← Array.getElem?_toList, hf]
  have hm : t % 46 < (pkA l[t / 46].p).size := by rw [pkA_size]; exact Nat.mod_lt _ (by decide)
  rw [Array.getElem?_eq_getElem hm]
  unfold encF
  rw [getElem!_pos (pkA l[t / 46].p).toList (t % 46) (by rw [Array.length_toList]; exact hm)]
  simp

theorem holds_at {w : World} {g : Nat} {d : Array Fp} (h : HoldsK encF 46 w g 0 d) (i : Nat) (x : Fp) (hx : d.toList[i]? = some x) : At w g (0 + i * 46) (pkA x.p) := by
  intro j hj
  have hj' : j < 46 := by rw [pkA_size] at hj; exact hj
  have hi : i < d.size := by
    have := (List.getElem?_eq_some_iff.1 hx).1; simpa using this
  rw [(h.cell hi hj').1]
  have e : d[i]! = x := by
    rw [getElem!_pos d i hi]
    rw [Array.getElem?_toList, Array.getElem?_eq_getElem hi] at hx
    exact Option.some.inj hx
  rw [e, Array.getElem?_eq_getElem hj]
  unfold encF
  rw [getElem!_pos (pkA x.p).toList j (by rw [Array.length_toList]; exact hj)]
  simp

theorem below_sort {w : World} {g m : Nat} {d : Array Fp} {os : Array Obj} {B : Nat} (hB : B ≤ g) (hg : g < w.heap.size) : Go.RowKit.Below B w (sortWorldK encF 46 w g 0 m d os) := by
  refine ⟨rfl, rfl, rfl, ?_, fun k hk => ?_⟩
  · exact size_sortWorldK_c encF 46 w g 0 m d os
  · show ((Go.Sort.ahead w m).heap.modify g _ ++ os)[k]? = _
    have : k < w.heap.size := by omega
    rw [Array.getElem?_append, if_pos (by simp [Go.Sort.ahead]; omega), Array.getElem?_modify, if_neg (by omega)]; rfl

/-- Sorted by offsets. -/
def SortedO (σ : List Fp) : Prop := ∀ (i j : Nat) (x y : Fp), i < j → σ[i]? = some x → σ[j]? = some y → x.p.off ≤ y.p.off
/-- What SortFunc leaves. -/
def RSort (s : Sl) (l : List Fp) (B : Nat) (w : World) (e : Ending) (w' : World) : Prop :=
  e = .returned (.tuple #[]) ∧ Go.RowKit.Below B w w' ∧ ∃ σ : List Fp, σ.Perm l ∧ SortedO σ ∧ ((s.a = none ∧ s.n = 0 ∧ s.c = 0) ∨ ∃ g, s.a = some ⟨g, 0, none⟩ ∧ g < w'.heap.size ∧ ∀ (i : Nat) (x : Fp), σ[i]? = some x → At w' g (0 + i * 46) (pkA x.p))

theorem sortPk_any (s : Sl) (l : List Fp) (B : Nat) (w : World) (hl : l.length = s.n) (hn : s.n ≤ 925904528626) (hown : w.ownsRow B 28 46 (.slice s.a s.n s.c) s.n (pkCells (l.map Fp.p))) :
    Calls Tryd.prog 44 #[.slice s.a s.n s.c, .func (.func 45) #[] #[]] w (RSort s l B w) := by
  obtain ⟨a, n, c⟩ := s
  simp only at hl hn hown ⊢
  rcases hown.2 with ⟨hv, h0⟩ | ⟨g, cap, cur, hv, hB, hh, hc, hmx, hsz, ht⟩
  · simp only [Value.slice.injEq] at hv
    obtain ⟨rfl, h1, h2⟩ := hv
    subst h0
    have hcon := AnyF.slices_SortFunc_none Tryd.sortPk none c (.func (.func 45) #[] #[]) w
    change Calls Tryd.prog 44 _ _ _ at hcon
    refine hcon.mono ?_
    rintro e w' ⟨rfl, rfl⟩
    have : l = [] := List.eq_nil_of_length_eq_zero hl
    subst this
    exact ⟨rfl, Go.RowKit.Below.refl _ _, [], List.Perm.refl _, by intro i j x y _ h; simp at h, .inl ⟨rfl, rfl, h2⟩⟩
  · simp only [Value.slice.injEq] at hv
    obtain ⟨rfl, -, h2⟩ := hv
    have hH := holds_row hl hh ht
    have hgl : g < w.heap.size := (Array.getElem?_eq_some_iff.1 hh).1
    have eg : ∀ args w, (callFunc 45 args).run Tryd.prog w = .ok (.enter 45 args) w := enters_of Tryd.func45 (by kernel_rfl) rfl
    have hcon := AnyQ.slices_SortFunc Tryd.sortPk 46 (fun w => g28 w) (fun w => by kernel_rfl) encF encF_len encF_one cmpO swoO 45 #[] g 0 c l.toArray w eg (cmpLays45 g 0 l.toArray.size w) hH hgl (by simp; omega)
    have e1 : l.toArray.size = n := by simp [hl]
    rw [e1] at hcon
    change Calls Tryd.prog 44 _ _ _ at hcon
    refine hcon.mono ?_
    rintro e w' ⟨rfl, d', m, os, ⟨hp1, hp2, hp3⟩, hs, rfl⟩
    have hd : d'.size = n := by rw [hp1, e1]
    have hx1 : d'.extract 0 n = d' := by rw [← hd]; simp
    have hx2 : l.toArray.extract 0 n = l.toArray := by rw [← e1]; simp
    rw [hx1, hx2] at hp3
    refine ⟨rfl, below_sort hB hgl, d'.toList, by simpa using hp3, ?_, .inr ⟨g, rfl, Nat.lt_of_lt_of_le hgl (size_sortWorldK_c encF 46 w g 0 m d' os), ?_⟩⟩
    · intro i j x y hij hi hj
      have hjn : j < n := by
        have := (List.getElem?_eq_some_iff.1 hj).1; simp at this; omega
      have := hs i j (Nat.zero_le _) hij hjn
      rw [ltO] at this
      have ex : d'[i]! = x := by
        rw [getElem!_pos d' i (by omega)]
        rw [Array.getElem?_toList, Array.getElem?_eq_getElem (by omega)] at hi
        exact Option.some.inj hi
      have ey : d'[j]! = y := by
        rw [getElem!_pos d' j (by omega)]
        rw [Array.getElem?_toList, Array.getElem?_eq_getElem (by omega)] at hj
        exact Option.some.inj hj
      rw [ex, ey] at this
      simpa using this
    · exact holds_at (holdsK_sortWorldK_c encF 46 w g 0 l.toArray d' m os hH hgl (by rw [hd, e1]))
end Go.Proofs.YtleokgmflelkcaaDoor
