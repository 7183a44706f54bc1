/- Rows of packets that a call makes. -/
import Derived.Test.YtleokgmflelkcaaDoorA14
set_option linter.unusedSimpArgs false
set_option linter.unusedVariables false
namespace Go.Proofs.YtleokgmflelkcaaDoor
open Go Go.RowKit

/-- A packet with its lists: what it is, not where it lies. -/
structure Mp where
  b : Br
  more : Bool
  off : Int
  os : List Int
  ds : List Int
  deriving DecidableEq
def Pk.mp (p : Pk) (os ds : List Int) : Mp := ⟨p.bare, p.more, p.off, os, ds⟩
/-- p, whose lists are of the call's own (from B on), is m. -/
def IsP (B : Nat) (w : World) (p : Pk) (m : Mp) : Prop := p.bare = m.b ∧ p.more = m.more ∧ p.off = m.off ∧ Own B w p.o m.os ∧ Own B w p.d m.ds
def pkCells (ps : List Pk) : List Value := ps.flatMap fun p => (pkA p).toList
def PkRow (B : Nat) (w : World) (v : Value) (n : Nat) (l : List Mp) : Prop :=
  ∃ ps : List Pk, ps.length = l.length ∧ n = l.length ∧ w.ownsRow B 28 46 v n (pkCells ps) ∧ ∀ (i : Nat) (p : Pk) (m : Mp), ps[i]? = some p → l[i]? = some m → IsP B w p m

theorem PkRow.nil (B : Nat) (w : World) : PkRow B w (.slice none 0 0) 0 [] := ⟨[], rfl, rfl, ⟨rfl, .inl ⟨rfl, rfl⟩⟩, fun i s o h => by simp at h⟩
theorem IsP.below {B : Nat} {w w' : World} {p : Pk} {m : Mp} (h : IsP B w p m) (hb : Below w.heap.size w w') : IsP B w' p m := ⟨h.1, h.2.1, h.2.2.1, h.2.2.2.1.below hb, h.2.2.2.2.below hb⟩
theorem IsP.mono {B B' : Nat} {w : World} {p : Pk} {m : Mp} (h : IsP B w p m) (hb : B' ≤ B) : IsP B' w p m := ⟨h.1, h.2.1, h.2.2.1, h.2.2.2.1.mono hb, h.2.2.2.2.mono hb⟩
theorem PkRow.below {B : Nat} {w w' : World} {v : Value} {n : Nat} {l : List Mp} (h : PkRow B w v n l) (hb : Below w.heap.size w w') : PkRow B w' v n l := by
  obtain ⟨ss, h1, h2, h3, h4⟩ := h
  exact ⟨ss, h1, h2, ownsRow_below h3 hb, fun i s o hs ho => (h4 i s o hs ho).below hb⟩
theorem PkRow.mono {B B' : Nat} {w : World} {v : Value} {n : Nat} {l : List Mp} (h : PkRow B w v n l) (hb : B' ≤ B) : PkRow B' w v n l := by
  obtain ⟨ss, h1, h2, h3, h4⟩ := h
  exact ⟨ss, h1, h2, ownsRow_mono h3 hb, fun i s o hs ho => (h4 i s o hs ho).mono hb⟩
/-- Two rows of unlike elements do not share a block. -/
theorem own_ne' {B B' : Nat} {w : World} {s : Sl} {xs : List Int} (h : Own B w s xs) {v : Value} {n size : Nat} {t : TypeId} {cs : List Value} (hv : w.ownsRow B' t size v n cs) (ht : t ≠ 5) : (Value.slice s.a s.n s.c).ownBlock = none ∨ (Value.slice s.a s.n s.c).ownBlock ≠ v.ownBlock := by
  obtain ⟨⟨_, h2⟩, _⟩ := h
  obtain ⟨_, h4⟩ := hv
  rcases h2 with ⟨hv, _⟩ | ⟨g, cap, cur, hv, _, hh, _⟩
  · rw [hv]; exact .inl rfl
  · right
    rw [hv]
    rcases h4 with ⟨hv', _⟩ | ⟨g', cap', cur', hv', _, hh', _⟩
    · rw [hv']; simp [Value.ownBlock]
    · rw [hv']
      simp only [Value.ownBlock, ne_eq, Option.some.injEq]
      rintro rfl
      rw [hh] at hh'
      simp only [Option.some.injEq, Obj.cells.injEq] at hh'
      exact ht hh'.2.1.symm
theorem pkCells_snoc (ps : List Pk) (p : Pk) : pkCells (ps ++ [p]) = pkCells ps ++ (pkA p).toList := by simp [pkCells]
theorem PkRow.snoc {B : Nat} {w w' : World} {v v' : Value} {n : Nat} {l : List Mp} {ps : List Pk} {p : Pk} {m : Mp} (hr : w.ownsRow B 28 46 v n (pkCells ps)) (hss : ps.length = l.length) (hn : n = l.length)
    (ho : ∀ (i : Nat) (p : Pk) (m : Mp), ps[i]? = some p → l[i]? = some m → IsP B w p m) (hs : IsP B w p m)
    (hown : w'.ownsRow B 28 46 v' (n + 1) (pkCells ps ++ (pkA p).toList)) (hg : w.grownBy w' v.ownBlock) : PkRow B w' v' (n + 1) (l ++ [m]) := by
  have keep : ∀ (p : Pk) (m : Mp), IsP B w p m → IsP B w' p m := fun p m h => ⟨h.1, h.2.1, h.2.2.1, h.2.2.2.1.kept hg (own_ne' h.2.2.2.1 hr (by decide)), h.2.2.2.2.kept hg (own_ne' h.2.2.2.2 hr (by decide))⟩
  refine ⟨ps ++ [p], by simp [hss], by simp [hn], by rw [pkCells_snoc]; exact hown, fun i s' o' h1 h2 => ?_⟩
  by_cases hi : i < l.length
  · rw [List.getElem?_append_left (by omega)] at h1 h2
    exact keep _ _ (ho i s' o' h1 h2)
  · have hi' : i = l.length := by
      have := (List.getElem?_eq_some_iff.1 h2).1
      simp at this
      omega
    subst hi'
    rw [List.getElem?_append_right (by omega)] at h1 h2
    simp [hss] at h1 h2
    subst h1; subst h2
    exact keep _ _ hs

theorem info28 : (Tryd.prog.info? 28).map (fun i => (i.zero.map (·.cells.size), i.size, i.bytes)) = some (some 46, 46, 152) := by kernel_rfl

theorem wpList_append_pk {W : World} {ops : Array Oper} {rest : List Oper} {o : Oper} {a : Act} {Q : Exit → Act → World → Prop} (hgd : o.guard = none) (sx x : Operand)
    (ho : o.op = .call { callee := .builtin .append, args := #[sx, x], argTypes := #[29, 29] }) (B : Nat) (v : Value) (n : Nat) (l : List Mp) (hs : a.eval sx = v) (hrow : PkRow B W v n l)
    (p : Pk) (m : Mp) (g : Nat) (hx : a.eval x = .slice (some ⟨g, 0, none⟩) 1 1) (hc : W.heap[g]? = some (.cells (pkA p) 28)) (hs' : IsP B W p m) (hn : n ≤ 925904528626) (hB : B ≤ W.heap.size)
    (h : ∀ v' w', PkRow B w' v' (n + 1) (l ++ [m]) → Below B W w' → (∀ (B' : Nat) (s : Sl) (xs : List Int), Own B' W s xs → Own B' w' s xs) → wpList Tryd.prog ops Q rest (a.put o.dst v') w') : wpList Tryd.prog ops Q (o :: rest) a W := by
  obtain ⟨ss, h1, h2, h3, h4⟩ := hrow
  have hinf := info28
  cases hi : Tryd.prog.info? 28 with
  | none => rw [hi] at hinf; cases hinf
  | some i0 =>
    rw [hi] at hinf
    simp only [Option.map_some, Option.some.injEq, Prod.mk.injEq] at hinf
    obtain ⟨hz, hsz, hby⟩ := hinf
    cases hz0 : i0.zero with
    | none => rw [hz0] at hz; cases hz
    | some z =>
      rw [hz0] at hz
      simp only [Option.map_some, Option.some.injEq] at hz
      refine wpList_append_own W hgd sx x 29 ho B 28 i0 z 46 152 Tryd.underlying29 hi hz0 hsz hby hz (by decide) v n _ hs h3 ⟨g, 0, none⟩ 1 1 (pkA p).toList hx (by rw [Array.length_toList, pkA_size]) ?_ ?_ (by unfold maxLen; omega) (by omega) hB
        (fun v' w' h5 h6 _ => h v' w' (PkRow.snoc h3 h1 h2 h4 hs' h5 h6) ((Below.refl _ _).grown h6 hB (ownBlock_ge h3)) (fun B' s xs h => h.kept h6 (own_ne' h h3 (by decide))))
      · intro j u hu
        have hadd : (⟨g, 0, none⟩ : Addr).add j = ⟨g, j, none⟩ := by unfold Addr.add; split <;> simp_all
        rw [hadd]
        simp only [World.cell?, hc, Option.isSome_none, Bool.false_eq_true, if_false]
        rw [← hu]; simp
      · intro u hu
        exact (Array.all_eq_true_iff_forall_mem.1 (pkA_one p)) u (by simpa using hu)
end Go.Proofs.YtleokgmflelkcaaDoor
