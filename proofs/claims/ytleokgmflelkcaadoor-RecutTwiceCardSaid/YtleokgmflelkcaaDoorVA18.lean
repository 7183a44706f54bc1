/- Rows of packets that a call makes. recut.Recut: what it computes (plain), and the steps that its walk needs. recut.Recut, walked. -/
import Derived.Test.YtleokgmflelkcaaDoorVA15
import Derived.Great.BuildSlice
import Derived.Deep.LoopGhost
set_option linter.unusedSimpArgs false
set_option linter.unusedVariables false
namespace Go.Proofs.YtleokgmflelkcaaDoor
open Go Go.RowKit

/-- A packet with its lists: what it is, not where it lies. -/
structure Mp where
  b : Br
  more : Bool
  off : Int
  os : List Int
  ds : List Int
  deriving DecidableEq
def Pk.mp (p : Pk) (os ds : List Int) : Mp := ⟨p.bare, p.more, p.off, os, ds⟩
/-- p, whose lists are of the call's own (from B on), is m. -/
def IsP (B : Nat) (w : World) (p : Pk) (m : Mp) : Prop := p.bare = m.b ∧ p.more = m.more ∧ p.off = m.off ∧ Own B w p.o m.os ∧ Own B w p.d m.ds
def pkCells (ps : List Pk) : List Value := ps.flatMap fun p => (pkA p).toList
def PkRow (B : Nat) (w : World) (v : Value) (n : Nat) (l : List Mp) : Prop :=
  ∃ ps : List Pk, ps.length = l.length ∧ n = l.length ∧ w.ownsRow B 28 46 v n (pkCells ps) ∧ ∀ (i : Nat) (p : Pk) (m : Mp), ps[i]? = some p → l[i]? = some m → IsP B w p m

theorem PkRow.nil (B : Nat) (w : World) : PkRow B w (.slice none 0 0) 0 [] := ⟨[], rfl, rfl, ⟨rfl, .inl ⟨rfl, rfl⟩⟩, fun i s o h => by simp at h⟩
theorem IsP.below {B : Nat} {w w' : World} {p : Pk} {m : Mp} (h : IsP B w p m) (hb : Below w.heap.size w w') : IsP B w' p m := ⟨h.1, h.2.1, h.2.2.1, h.2.2.2.1.below hb, h.2.2.2.2.below hb⟩
theorem IsP.mono {B B' : Nat} {w : World} {p : Pk} {m : Mp} (h : IsP B w p m) (hb : B' ≤ B) : IsP B' w p m := ⟨h.1, h.2.1, h.2.2.1, h.2.2.2.1.mono hb, h.2.2.2.2.mono hb⟩
theorem PkRow.below {B : Nat} {w w' : World} {v : Value} {n : Nat} {l : List Mp} (h : PkRow B w v n l) (hb : Below w.heap.size w w') : PkRow B w' v n l := by
  obtain ⟨ss, h1, h2, h3, h4⟩ := h
  exact ⟨ss, h1, h2, ownsRow_below h3 hb, fun i s o hs ho => (h4 i s o hs ho).below hb⟩
theorem PkRow.mono {B B' : Nat} {w : World} {v : Value} {n : Nat} {l : List Mp} (h : PkRow B w v n l) (hb : B' ≤ B) : PkRow B' w v n l := by
  obtain ⟨ss, h1, h2, h3, h4⟩ := h
  exact ⟨ss, h1, h2, ownsRow_mono h3 hb, fun i s o hs ho => (h4 i s o hs ho).mono hb⟩
/-- Two rows of unlike elements do not share a block. -/
theorem own_ne' {B B' : Nat} {w : World} {s : Sl} {xs : List Int} (h : Own B w s xs) {v : Value} {n size : Nat} {t : TypeId} {cs : List Value} (hv : w.ownsRow B' t size v n cs) (ht : t ≠ 5) : (Value.slice s.a s.n s.c).ownBlock = none ∨ (Value.slice s.a s.n s.c).ownBlock ≠ v.ownBlock := by
  obtain ⟨⟨_, h2⟩, _⟩ := h
  obtain ⟨_, h4⟩ := hv
  rcases h2 with ⟨hv, _⟩ | ⟨g, cap, cur, hv, _, hh, _⟩
  · rw [hv]; exact .inl rfl
  · right
    rw [hv]
    rcases h4 with ⟨hv', _⟩ | ⟨g', cap', cur', hv', _, hh', _⟩
    · rw [hv']; simp [Value.ownBlock]
    · rw [hv']
      simp only [Value.ownBlock, ne_eq, Option.some.injEq]
      rintro rfl
      rw [hh] at hh'
      simp only [Option.some.injEq, Obj.cells.injEq] at hh'
      exact ht hh'.2.1.symm
theorem pkCells_snoc (ps : List Pk) (p : Pk) : pkCells (ps ++ [p]) = pkCells ps ++ (pkA p).toList := by simp [pkCells]
theorem PkRow.snoc {B : Nat} {w w' : World} {v v' : Value} {n : Nat} {l : List Mp} {ps : List Pk} {p : Pk} {m : Mp} (hr : w.ownsRow B 28 46 v n (pkCells ps)) (hss : ps.length = l.length) (hn : n = l.length)
    (ho : ∀ (i : Nat) (p : Pk) (m : Mp), ps[i]? = some p → l[i]? = some m → IsP B w p m) (hs : IsP B w p m)
    (hown : w'.ownsRow B 28 46 v' (n + 1) (pkCells ps ++ (pkA p).toList)) (hg : w.grownBy w' v.ownBlock) : PkRow B w' v' (n + 1) (l ++ [m]) := by
  have keep : ∀ (p : Pk) (m : Mp), IsP B w p m → IsP B w' p m := fun p m h => ⟨h.1, h.2.1, h.2.2.1, h.2.2.2.1.kept hg (own_ne' h.2.2.2.1 hr (by decide)), h.2.2.2.2.kept hg (own_ne' h.2.2.2.2 hr (by decide))⟩
  refine ⟨ps ++ [p], by simp [hss], by simp [hn], by rw [pkCells_snoc]; exact hown, fun i s' o' h1 h2 => ?_⟩
  by_cases hi : i < l.length
  · rw [List.getElem?_append_left (by omega)] at h1 h2
    exact keep _ _ (ho i s' o' h1 h2)
  · have hi' : i = l.length := by
      have := (List.getElem?_eq_some_iff.1 h2).1
      simp at this
      omega
    subst hi'
    rw [List.getElem?_append_right (by omega)] at h1 h2
    simp [hss] at h1 h2
    subst h1; subst h2
    exact keep _ _ hs

theorem info28 : (Tryd.prog.info? 28).map (fun i => (i.zero.map (·.cells.size), i.size, i.bytes)) = some (some 46, 46, 152) := by kernel_rfl

theorem wpList_append_pk {W : World} {ops : Array Oper} {rest : List Oper} {o : Oper} {a : Act} {Q : Exit → Act → World → Prop} (hgd : o.guard = none) (sx x : Operand)
    (ho : o.op = .call { callee := .builtin .append, args := #[sx, x], argTypes := #[29, 29] }) (B : Nat) (v : Value) (n : Nat) (l : List Mp) (hs : a.eval sx = v) (hrow : PkRow B W v n l)
    (p : Pk) (m : Mp) (g : Nat) (hx : a.eval x = .slice (some ⟨g, 0, none⟩) 1 1) (hc : W.heap[g]? = some (.cells (pkA p) 28)) (hs' : IsP B W p m) (hn : n ≤ 925904528626) (hB : B ≤ W.heap.size)
    (h : ∀ v' w', PkRow B w' v' (n + 1) (l ++ [m]) → Below B W w' → (∀ (B' : Nat) (s : Sl) (xs : List Int), Own B' W s xs → Own B' w' s xs) → wpList Tryd.prog ops Q rest (a.put o.dst v') w') : wpList Tryd.prog ops Q (o :: rest) a W := by
  obtain ⟨ss, h1, h2, h3, h4⟩ := hrow
  have hinf := info28
  cases hi : Tryd.prog.info? 28 with
  | none => rw [hi] at hinf; cases hinf
  | some i0 =>
    rw [hi] at hinf
    simp only [Option.map_some, Option.some.injEq, Prod.mk.injEq] at hinf
    obtain ⟨hz, hsz, hby⟩ := hinf
    cases hz0 : i0.zero with
    | none => rw [hz0] at hz; cases hz
    | some z =>
      rw [hz0] at hz
      simp only [Option.map_some, Option.some.injEq] at hz
      refine wpList_append_own W hgd sx x 29 ho B 28 i0 z 46 152 Tryd.underlying29 hi hz0 hsz hby hz (by decide) v n _ hs h3 ⟨g, 0, none⟩ 1 1 (pkA p).toList hx (by rw [Array.length_toList, pkA_size]) ?_ ?_ (by unfold maxLen; omega) (by omega) hB
        (fun v' w' h5 h6 _ => h v' w' (PkRow.snoc h3 h1 h2 h4 hs' h5 h6) ((Below.refl _ _).grown h6 hB (ownBlock_ge h3)) (fun B' s xs h => h.kept h6 (own_ne' h h3 (by decide))))
      · intro j u hu
        have hadd : (⟨g, 0, none⟩ : Addr).add j = ⟨g, j, none⟩ := by unfold Addr.add; split <;> simp_all
        rw [hadd]
        simp only [World.cell?, hc, Option.isSome_none, Bool.false_eq_true, if_false]
        rw [← hu]; simp
      · intro u hu
        exact (Array.all_eq_true_iff_forall_mem.1 (pkA_one p)) u (by simpa using hu)
end Go.Proofs.YtleokgmflelkcaaDoor
namespace Go.Proofs.YtleokgmflelkcaaDoor
open Go Go.RowKit

theorem build_pk (p : Pk) (w : World) : (Instr.buildSlice 29 1 #[(0, .agg (pkA p))]).run Tryd.prog w = .ok (.slice (some ⟨w.heap.size, 0, none⟩) 1 1) (w.alloc (.cells (pkA p) 28)) := by kernel_rfl
theorem wpList_build_pk {ops : Array Oper} {rest : List Oper} {o : Oper} {a : Act} {W : World} {Q : Exit → Act → World → Prop} (hg : o.guard = none) (x : Operand) (ho : o.op = .buildSlice 29 1 #[(0, x)]) (p : Pk) (hx : a.eval x = .agg (pkA p))
    (h : wpList Tryd.prog ops Q rest (a.put o.dst (.slice (some ⟨W.heap.size, 0, none⟩) 1 1)) (W.alloc (.cells (pkA p) 28))) : wpList Tryd.prog ops Q (o :: rest) a W := by
  refine wpList_plain hg fun K hK => ?_
  unfold Oper.wp execOp
  simp only [ho, Sem.run_bind, List.map_toArray, List.map_cons, List.map_nil, hx, build_pk, Result.andThen_ok]
  exact hK _ _ h

theorem PkRow.form {B : Nat} {w : World} {v : Value} {n : Nat} {l : List Mp} (h : PkRow B w v n l) : n = l.length ∧ ∃ s : Sl, v = .slice s.a s.n s.c ∧ s.n = n := by
  obtain ⟨ps, h1, h2, h3, _⟩ := h
  refine ⟨h2, ?_⟩
  rcases h3.2 with ⟨rfl, rfl⟩ | ⟨g, cap, cur, rfl, _⟩
  · exact ⟨⟨none, 0, 0⟩, rfl, rfl⟩
  · exact ⟨⟨_, n, cap⟩, rfl, rfl⟩

/-- The list of a packet under way: of the caller's memory, or of the call's own. -/
def Ho (w W : World) (s : Sl) (xs : List Int) : Prop := Bs w s xs ∨ Own w.heap.size W s xs
theorem Ho.bs {w W : World} {s : Sl} {xs : List Int} (h : Ho w W s xs) (hb : Below w.heap.size w W) : Bs W s xs := h.elim (fun h => h.below hb) Own.bs
theorem Ho.below {w W W' : World} {s : Sl} {xs : List Int} (h : Ho w W s xs) (hb : Below W.heap.size W W') : Ho w W' s xs := h.elim .inl (fun h => .inr (h.below hb))
theorem Ho.box {w W W' : World} {s : Sl} {xs : List Int} (h : Ho w W s xs) {b : Nat} {t : TypeId} {c : Array Value} (hb : W.heap[b]? = some (.cells c t (0, 0))) (ht : t ≠ 5) (hg : W.grownBy W' (some b)) : Ho w W' s xs := h.elim .inl (fun h => .inr (h.box hb ht hg))
theorem Ho.kept {B : Nat} {w W W' : World} {s : Sl} {xs : List Int} (h : Ho w W s xs) {v : Value} {n size : Nat} {t : TypeId} {cs : List Value} (hg : W.grownBy W' v.ownBlock) (hv : W.ownsRow B t size v n cs) (ht : t ≠ 5) : Ho w W' s xs :=
  h.elim .inl (fun h => .inr (h.kept hg (own_ne' h hv ht)))

/-- What the packet is cut into: k rounds at most. -/
def cuts (mtu : Nat) (b : Br) (more : Bool) (co : List Int) : Nat → Int → List Int → List Int → List Mp
  | 0, off, os, ds => [⟨b, more, off, os, ds⟩]
  | k + 1, off, os, ds => if 20 + os.length + ds.length ≤ mtu then [⟨b, more, off, os, ds⟩]
    else ⟨b, true, off, os, ds.take ((mtu - 20 - os.length) / 8 * 8)⟩ :: cuts mtu b more co k (off + ((mtu - 20 - os.length) / 8 * 8 : Nat)) co (ds.drop ((mtu - 20 - os.length) / 8 * 8))

theorem cuts_last {mtu : Nat} {b : Br} {more : Bool} {co : List Int} {k : Nat} {off : Int} {os ds : List Int} (h : 20 + os.length + ds.length ≤ mtu) : cuts mtu b more co k off os ds = [⟨b, more, off, os, ds⟩] := by
  cases k
  · rfl
  · rw [cuts, if_pos h]
theorem cuts_step {mtu : Nat} {b : Br} {more : Bool} {co : List Int} {k : Nat} {off : Int} {os ds : List Int} (h : ¬ 20 + os.length + ds.length ≤ mtu) : cuts mtu b more co (k + 1) off os ds = ⟨b, true, off, os, ds.take ((mtu - 20 - os.length) / 8 * 8)⟩ :: cuts mtu b more co k (off + ((mtu - 20 - os.length) / 8 * 8 : Nat)) co (ds.drop ((mtu - 20 - os.length) / 8 * 8)) := by
  rw [cuts, if_neg h]

/-- What Recut answers; co: what Carry answers on the packet's options. -/
def recutR (p : Pk) (os ds co : List Int) (mtu : Int) : Int × List Mp :=
  if headF p os = 0 ∨ mtu < 68 ∨ mtu > 65535 then (1, [])
  else if headF p os + ds.length ≤ mtu then (0, [p.mp os ds])
  else if p.v ≠ 4 ∨ p.df = true then (100, [])
  else (0, cuts mtu.toNat p.bare p.more co ds.length p.off os ds)
/-- A list of packets in the call's own memory, and an error's number. -/
def RL (r : Int × List Mp) (w : World) (e : Ending) (w' : World) : Prop :=
  ∃ v n, e = .returned (.tuple #[v, .int .i64 r.1]) ∧ PkRow w.heap.size w' v n r.2 ∧ Below w.heap.size w w'

theorem headF_right {p : Pk} {os : List Int} (h4 : p.v = 4) : headF p os = (if right4F p os then (20 : Int) + (p.o.n : Int) else 0) := by
  simp only [headF, rightF, if_pos h4]

/-- The numbers of a right packet of IPv4. -/
theorem right4_nums {p : Pk} {os : List Int} (h : right4F p os = true) : 0 ≤ p.off ∧ p.off ≤ 65528 ∧ 20 + p.o.n + p.d.n ≤ 65535 ∧ p.off + p.d.n ≤ 65535 ∧ validO os = true ∧ p.v = 4 := by
  simp only [right4F, f4F, placed4F, withinF, Bool.and_eq_true, Bool.or_eq_true, Bool.not_eq_true', decide_eq_true_eq] at h
  obtain ⟨⟨⟨hA, hP⟩, hB⟩, hv⟩ := h
  refine ⟨?_, ?_, ?_, ?_, hv, ?_⟩ <;> grind

theorem right4_cut {p : Pk} {os co : List Int} {so sd : Sl} {r : Nat} (h : right4F p os = true) (hr : r < p.d.n) (hr0 : 0 < r) (hr8 : r % 8 = 0) (hd : sd.n = p.d.n - r) (ho : so.n ≤ p.o.n) (hv : validO co = true) :
    right4F { p with off := p.off + r, o := so, d := sd } co = true := by
  simp only [right4F, f4F, placed4F, withinF, Bool.and_eq_true, Bool.or_eq_true, Bool.not_eq_true', decide_eq_true_eq, Bool.and_eq_false_iff, Bool.or_eq_false_iff, decide_eq_false_iff_not] at h ⊢
  obtain ⟨⟨⟨hA, ⟨⟨⟨hP1, hP2⟩, hP3⟩, hP4⟩, hP5⟩, hB⟩, _⟩ := h
  refine ⟨⟨⟨hA, ⟨⟨⟨⟨by omega, by omega⟩, by omega⟩, by omega⟩, ?_⟩, .inr (by omega)⟩, by omega⟩, hv⟩
  rcases hP4 with hP4 | hP4
  · exact .inl hP4
  · exact .inr ⟨by omega, by omega⟩
theorem Bx.call' {w W W1 : World} {bs : List (Nat × TypeId × Array Value)} {B : Nat} (h : Bx w W bs) (hb : Below B W W1) (hB : w.heap.size ≤ B) (hlt : ∀ x ∈ bs, x.1 < B) : Bx w W1 bs :=
  ⟨h.bel.trans (hb.mono hB), fun x hx => ⟨(h.at_ x hx).1, by rw [hb.block _ (hlt x hx)]; exact (h.at_ x hx).2⟩, h.nd⟩
theorem Bx.tail {w W : World} {x : Nat × TypeId × Array Value} {bs : List (Nat × TypeId × Array Value)} (h : Bx w W (x :: bs)) : Bx w W bs :=
  ⟨h.bel, fun y hy => h.at_ y (List.mem_cons_of_mem _ hy), (List.nodup_cons.1 h.nd).2⟩
theorem ownsRow_lt {B : Nat} {w : World} {e : TypeId} {size : Nat} {v : Value} {n : Nat} {xs : List Value} (h : w.ownsRow B e size v n xs) : ∀ k, v.ownBlock = some k → k < w.heap.size := by
  intro k hk
  rcases h.2 with ⟨rfl, _⟩ | ⟨g, cap, cur, rfl, hg, hh, _⟩
  · cases hk
  · have : g = k := by simpa [Value.ownBlock] using hk
    subst this
    exact (Array.getElem?_eq_some_iff.1 hh).1
theorem PkRow.lt {B : Nat} {w : World} {v : Value} {n : Nat} {l : List Mp} (h : PkRow B w v n l) : ∀ k, v.ownBlock = some k → B ≤ k ∧ k < w.heap.size := by
  obtain ⟨ps, _, _, h3, _⟩ := h
  exact fun k hk => ⟨ownBlock_ge h3 k hk, ownsRow_lt h3 k hk⟩
/-- A box is written that is not the row's own block. -/
theorem PkRow.box {B : Nat} {W W' : World} {v : Value} {n : Nat} {l : List Mp} (h : PkRow B W v n l) {b : Nat} {t : TypeId} {c : Array Value} (hb : W.heap[b]? = some (.cells c t (0, 0))) (ht : t ≠ 5) (hg : W.grownBy W' (some b)) (hne : v.ownBlock ≠ some b) : PkRow B W' v n l := by
  obtain ⟨ps, h1, h2, h3, h4⟩ := h
  refine ⟨ps, h1, h2, ?_, fun i s o hs ho => ?_⟩
  · refine h3.kept hg ?_
    cases hv : v.ownBlock with
    | none => exact .inl rfl
    | some k => exact .inr (by rw [← hv]; exact hne)
  · have h := h4 i s o hs ho
    exact ⟨h.1, h.2.1, h.2.2.1, h.2.2.2.1.box hb ht hg, h.2.2.2.2.box hb ht hg⟩
end Go.Proofs.YtleokgmflelkcaaDoor
namespace Go.Proofs.YtleokgmflelkcaaDoor
open Go Go.RowKit

set_option maxRecDepth 100000 in
set_option maxHeartbeats 1000000 in
theorem recut_err (p : Pk) (os ds : List Int) (mtu : Int) (w : World) (hp : PkIn w p os ds) (hS : Sh w) (h : headF p os = 0 ∨ mtu < 68 ∨ mtu > 65535) : Calls Tryd.prog 11 #[.agg (pkA p), .int .i64 mtu] w (RL (1, []) w) := by
  have hX := (Bx.start w).alloc (pkA p) 28
  obtain ⟨hr, hl, hs, hd⟩ := pk_at hX.h0
  generalize hH : headF p os = H at *
  by_cases h0 : H = 0
  · subst h0
    clear h
    go_enter Tryd.func11, Tryd.ntmps11
    go_wp2_with (first | (go_at_call 31; (with_reducible refine (head_any p os ds _ (hp.below hX.bel) (hS.below hX.bel)).mono ?_); rintro e w1 ⟨rfl, hb⟩; rw [hH]; have hX := hX.call hb; obtain ⟨hr, hl, hs, hd⟩ := pk_at hX.h0; clear hb))
    go_ret2
    exact ⟨_, 0, rfl, PkRow.nil _ _, hX.bel⟩
  have h0' : (H == 0) = false := by simpa using h0
  by_cases h1 : mtu < 68
  · clear h h0
    go_enter Tryd.func11, Tryd.ntmps11
    go_wp2_with (first | (go_at_call 31; (with_reducible refine (head_any p os ds _ (hp.below hX.bel) (hS.below hX.bel)).mono ?_); rintro e w1 ⟨rfl, hb⟩; rw [hH]; have hX := hX.call hb; obtain ⟨hr, hl, hs, hd⟩ := pk_at hX.h0; clear hb))
    go_ret2
    exact ⟨_, 0, rfl, PkRow.nil _ _, hX.bel⟩
  · have h2 : 65535 < mtu := by omega
    have h1' : 68 ≤ mtu := by omega
    clear h h0 h1
    go_enter Tryd.func11, Tryd.ntmps11
    go_wp2_with (first | (go_at_call 31; (with_reducible refine (head_any p os ds _ (hp.below hX.bel) (hS.below hX.bel)).mono ?_); rintro e w1 ⟨rfl, hb⟩; rw [hH]; have hX := hX.call hb; obtain ⟨hr, hl, hs, hd⟩ := pk_at hX.h0; clear hb))
    go_ret2
    exact ⟨_, 0, rfl, PkRow.nil _ _, hX.bel⟩

theorem IsP.alloc {B : Nat} {w : World} {p : Pk} {m : Mp} (h : IsP B w p m) (o : Obj) : IsP B (w.alloc o) p m := h.below ((Below.refl _ _).alloc (Nat.le_refl _) _)

set_option maxRecDepth 100000 in
set_option maxHeartbeats 1000000 in
theorem recut_whole (p : Pk) (os ds : List Int) (mtu : Int) (w : World) (hp : PkIn w p os ds) (hS : Sh w) (h0 : headF p os ≠ 0) (h1 : 68 ≤ mtu) (h2 : mtu ≤ 65535) (h3 : headF p os + ds.length ≤ mtu) (h4 : 0 ≤ headF p os) : Calls Tryd.prog 11 #[.agg (pkA p), .int .i64 mtu] w (RL (0, [p.mp os ds]) w) := by
  have hX := (Bx.start w).alloc (pkA p) 28
  obtain ⟨hr, hl, hs, hd⟩ := pk_at hX.h0
  generalize hH : headF p os = H at *
  have h0' : (H == 0) = false := by simpa using h0
  have h3' : H + (p.d.n : Int) ≤ mtu := by rw [hp.d.len] at h3; exact h3
  clear h0 h3
  go_enter Tryd.func11, Tryd.ntmps11
  go_wp2_with (first | (go_at_call 31; (with_reducible refine (head_any p os ds _ (hp.below hX.bel) (hS.below hX.bel)).mono ?_); rintro e w1 ⟨rfl, hb⟩; rw [hH]; have hX := hX.call hb; obtain ⟨hr, hl, hs, hd⟩ := pk_at hX.h0; clear hb) | (go_at_call 32; (with_reducible refine (recutown_any p os ds _ (hp.below hX.bel)).mono ?_); rintro e w1 ⟨s1, s2, rfl, hs1, hs2, hb⟩; have hs1 := hs1.mono (show w.heap.size ≤ _ from hX.bel.size); have hs2 := hs2.mono (show w.heap.size ≤ _ from hX.bel.size); have hX := hX.call hb; obtain ⟨hr, hl, hs, hd⟩ := pk_at hX.h0; clear hb) | (refine wpList_build_pk rfl (.tmp 33) rfl { p with o := s1, d := s2 } rfl ?_))
  go_ret2
  refine ⟨_, 1, rfl, ⟨[{ p with o := s1, d := s2 }], rfl, rfl, ⟨?_, .inr ⟨_, 1, pkA { p with o := s1, d := s2 }, rfl, hX.bel.size, heap_alloc_new _ _, Nat.le_refl _, by unfold maxLen; omega, by rw [pkA_size], ?_⟩⟩, ?_⟩, hX.bel.alloc hX.bel.size _⟩
  · simp [pkCells, pkA_size]
  · simp only [pkCells, List.flatMap_cons, List.flatMap_nil, List.append_nil]
    exact List.take_of_length_le (by rw [Array.length_toList, pkA_size]; decide)
  · intro i q m hq hm
    cases i with
    | zero =>
      simp only [List.getElem?_cons_zero, Option.some.injEq] at hq hm
      subst hq; subst hm
      exact IsP.alloc ⟨rfl, rfl, rfl, hs1, hs2⟩ _
    | succ i => simp at hq

set_option maxRecDepth 100000 in
set_option maxHeartbeats 1000000 in
theorem recut_big (p : Pk) (os ds : List Int) (mtu : Int) (w : World) (hp : PkIn w p os ds) (hS : Sh w) (h0 : headF p os ≠ 0) (h1 : 68 ≤ mtu) (h2 : mtu ≤ 65535) (h3 : ¬ headF p os + ds.length ≤ mtu) (h4 : 0 ≤ headF p os ∧ headF p os ≤ 100000) (h5 : p.v ≠ 4 ∨ p.df = true) : Calls Tryd.prog 11 #[.agg (pkA p), .int .i64 mtu] w (RL (100, []) w) := by
  have hX := (Bx.start w).alloc (pkA p) 28
  obtain ⟨hr, hl, hs, hd⟩ := pk_at hX.h0
  generalize hH : headF p os = H at *
  obtain ⟨h4, h4'⟩ := h4
  have h0' : (H == 0) = false := by simpa using h0
  have hdm := hp.dm
  have h3' : mtu < H + (p.d.n : Int) := by rw [hp.d.len] at h3; omega
  clear h0 h3
  by_cases h6 : p.v = 4
  · have h7 : p.df = true := by simpa [h6] using h5
    have h6' : (p.v != 4) = false := by simp [h6]
    clear h5 h6
    go_enter Tryd.func11, Tryd.ntmps11
    go_wp2_with (first | (go_at_call 31; (with_reducible refine (head_any p os ds _ (hp.below hX.bel) (hS.below hX.bel)).mono ?_); rintro e w1 ⟨rfl, hb⟩; rw [hH]; have hX := hX.call hb; obtain ⟨hr, hl, hs, hd⟩ := pk_at hX.h0; clear hb))
    go_ret2
    exact ⟨_, 0, rfl, PkRow.nil _ _, hX.bel⟩
  · have h6' : (p.v != 4) = true := by simpa using h6
    clear h5 h6
    go_enter Tryd.func11, Tryd.ntmps11
    go_wp2_with (first | (go_at_call 31; (with_reducible refine (head_any p os ds _ (hp.below hX.bel) (hS.below hX.bel)).mono ?_); rintro e w1 ⟨rfl, hb⟩; rw [hH]; have hX := hX.call hb; obtain ⟨hr, hl, hs, hd⟩ := pk_at hX.h0; clear hb))
    go_ret2
    exact ⟨_, 0, rfl, PkRow.nil _ _, hX.bel⟩
end Go.Proofs.YtleokgmflelkcaaDoor
