/- recut.Recut: what it computes (plain), and the steps that its walk needs. -/
import Derived.Test.YtleokgmflelkcaaDoorA15
import Derived.Test.YtleokgmflelkcaaDoorA16
import Derived.Great.BuildSlice
set_option linter.unusedSimpArgs false
set_option linter.unusedVariables false
namespace Go.Proofs.YtleokgmflelkcaaDoor
open Go Go.RowKit

theorem build_pk (p : Pk) (w : World) : (Instr.buildSlice 29 1 #[(0, .agg (pkA p))]).run Tryd.prog w = .ok (.slice (some ⟨w.heap.size, 0, none⟩) 1 1) (w.alloc (.cells (pkA p) 28)) := by kernel_rfl
theorem wpList_build_pk {ops : Array Oper} {rest : List Oper} {o : Oper} {a : Act} {W : World} {Q : Exit → Act → World → Prop} (hg : o.guard = none) (x : Operand) (ho : o.op = .buildSlice 29 1 #[(0, x)]) (p : Pk) (hx : a.eval x = .agg (pkA p))
    (h : wpList Tryd.prog ops Q rest (a.put o.dst (.slice (some ⟨W.heap.size, 0, none⟩) 1 1)) (W.alloc (.cells (pkA p) 28))) : wpList Tryd.prog ops Q (o :: rest) a W := by
  refine wpList_plain hg fun K hK => ?_
  unfold Oper.wp execOp
  simp only [ho, Sem.run_bind, List.map_toArray, List.map_cons, List.map_nil, hx, build_pk, Result.andThen_ok]
  exact hK _ _ h

theorem PkRow.form {B : Nat} {w : World} {v : Value} {n : Nat} {l : List Mp} (h : PkRow B w v n l) : n = l.length ∧ ∃ s : Sl, v = .slice s.a s.n s.c ∧ s.n = n := by
  obtain ⟨ps, h1, h2, h3, _⟩ := h
  refine ⟨h2, ?_⟩
  rcases h3.2 with ⟨rfl, rfl⟩ | ⟨g, cap, cur, rfl, _⟩
  · exact ⟨⟨none, 0, 0⟩, rfl, rfl⟩
  · exact ⟨⟨_, n, cap⟩, rfl, rfl⟩

/-- The list of a packet under way: of the caller's memory, or of the call's own. -/
def Ho (w W : World) (s : Sl) (xs : List Int) : Prop := Bs w s xs ∨ Own w.heap.size W s xs
theorem Ho.bs {w W : World} {s : Sl} {xs : List Int} (h : Ho w W s xs) (hb : Below w.heap.size w W) : Bs W s xs := h.elim (fun h => h.below hb) Own.bs
theorem Ho.below {w W W' : World} {s : Sl} {xs : List Int} (h : Ho w W s xs) (hb : Below W.heap.size W W') : Ho w W' s xs := h.elim .inl (fun h => .inr (h.below hb))
theorem Ho.box {w W W' : World} {s : Sl} {xs : List Int} (h : Ho w W s xs) {b : Nat} {t : TypeId} {c : Array Value} (hb : W.heap[b]? = some (.cells c t (0, 0))) (ht : t ≠ 5) (hg : W.grownBy W' (some b)) : Ho w W' s xs := h.elim .inl (fun h => .inr (h.box hb ht hg))
theorem Ho.kept {B : Nat} {w W W' : World} {s : Sl} {xs : List Int} (h : Ho w W s xs) {v : Value} {n size : Nat} {t : TypeId} {cs : List Value} (hg : W.grownBy W' v.ownBlock) (hv : W.ownsRow B t size v n cs) (ht : t ≠ 5) : Ho w W' s xs :=
  h.elim .inl (fun h => .inr (h.kept hg (own_ne' h hv ht)))

/-- What the packet is cut into: k rounds at most. -/
def cuts (mtu : Nat) (b : Br) (more : Bool) (co : List Int) : Nat → Int → List Int → List Int → List Mp
  | 0, off, os, ds => [⟨b, more, off, os, ds⟩]
  | k + 1, off, os, ds => if 20 + os.length + ds.length ≤ mtu then [⟨b, more, off, os, ds⟩]
    else ⟨b, true, off, os, ds.take ((mtu - 20 - os.length) / 8 * 8)⟩ :: cuts mtu b more co k (off + ((mtu - 20 - os.length) / 8 * 8 : Nat)) co (ds.drop ((mtu - 20 - os.length) / 8 * 8))

theorem cuts_last {mtu : Nat} {b : Br} {more : Bool} {co : List Int} {k : Nat} {off : Int} {os ds : List Int} (h : 20 + os.length + ds.length ≤ mtu) : cuts mtu b more co k off os ds = [⟨b, more, off, os, ds⟩] := by
  cases k
  · rfl
  · rw [cuts, if_pos h]
theorem cuts_step {mtu : Nat} {b : Br} {more : Bool} {co : List Int} {k : Nat} {off : Int} {os ds : List Int} (h : ¬ 20 + os.length + ds.length ≤ mtu) : cuts mtu b more co (k + 1) off os ds = ⟨b, true, off, os, ds.take ((mtu - 20 - os.length) / 8 * 8)⟩ :: cuts mtu b more co k (off + ((mtu - 20 - os.length) / 8 * 8 : Nat)) co (ds.drop ((mtu - 20 - os.length) / 8 * 8)) := by
  rw [cuts, if_neg h]

/-- What Recut answers; co: what Carry answers on the packet's options. -/
def recutR (p : Pk) (os ds co : List Int) (mtu : Int) : Int × List Mp :=
  if headF p os = 0 ∨ mtu < 68 ∨ mtu > 65535 then (1, [])
  else if headF p os + ds.length ≤ mtu then (0, [p.mp os ds])
  else if p.v ≠ 4 ∨ p.df = true then (100, [])
  else (0, cuts mtu.toNat p.bare p.more co ds.length p.off os ds)
/-- A list of packets in the call's own memory, and an error's number. -/
def RL (r : Int × List Mp) (w : World) (e : Ending) (w' : World) : Prop :=
  ∃ v n, e = .returned (.tuple #[v, .int .i64 r.1]) ∧ PkRow w.heap.size w' v n r.2 ∧ Below w.heap.size w w'

theorem headF_right {p : Pk} {os : List Int} (h4 : p.v = 4) : headF p os = (if right4F p os then (20 : Int) + (p.o.n : Int) else 0) := by
  simp only [headF, rightF, if_pos h4]

/-- The numbers of a right packet of IPv4. -/
theorem right4_nums {p : Pk} {os : List Int} (h : right4F p os = true) : 0 ≤ p.off ∧ p.off ≤ 65528 ∧ 20 + p.o.n + p.d.n ≤ 65535 ∧ p.off + p.d.n ≤ 65535 ∧ validO os = true ∧ p.v = 4 := by
  simp only [right4F, f4F, placed4F, withinF, Bool.and_eq_true, Bool.or_eq_true, Bool.not_eq_true', decide_eq_true_eq] at h
  obtain ⟨⟨⟨hA, hP⟩, hB⟩, hv⟩ := h
  refine ⟨?_, ?_, ?_, ?_, hv, ?_⟩ <;> grind

theorem right4_cut {p : Pk} {os co : List Int} {so sd : Sl} {r : Nat} (h : right4F p os = true) (hr : r < p.d.n) (hr0 : 0 < r) (hr8 : r % 8 = 0) (hd : sd.n = p.d.n - r) (ho : so.n ≤ p.o.n) (hv : validO co = true) :
    right4F { p with off := p.off + r, o := so, d := sd } co = true := by
  simp only [right4F, f4F, placed4F, withinF, Bool.and_eq_true, Bool.or_eq_true, Bool.not_eq_true', decide_eq_true_eq, Bool.and_eq_false_iff, Bool.or_eq_false_iff, decide_eq_false_iff_not] at h ⊢
  obtain ⟨⟨⟨hA, ⟨⟨⟨hP1, hP2⟩, hP3⟩, hP4⟩, hP5⟩, hB⟩, _⟩ := h
  refine ⟨⟨⟨hA, ⟨⟨⟨⟨by omega, by omega⟩, by omega⟩, by omega⟩, ?_⟩, .inr (by omega)⟩, by omega⟩, hv⟩
  rcases hP4 with hP4 | hP4
  · exact .inl hP4
  · exact .inr ⟨by omega, by omega⟩
theorem Bx.call' {w W W1 : World} {bs : List (Nat × TypeId × Array Value)} {B : Nat} (h : Bx w W bs) (hb : Below B W W1) (hB : w.heap.size ≤ B) (hlt : ∀ x ∈ bs, x.1 < B) : Bx w W1 bs :=
  ⟨h.bel.trans (hb.mono hB), fun x hx => ⟨(h.at_ x hx).1, by rw [hb.block _ (hlt x hx)]; exact (h.at_ x hx).2⟩, h.nd⟩
theorem Bx.tail {w W : World} {x : Nat × TypeId × Array Value} {bs : List (Nat × TypeId × Array Value)} (h : Bx w W (x :: bs)) : Bx w W bs :=
  ⟨h.bel, fun y hy => h.at_ y (List.mem_cons_of_mem _ hy), (List.nodup_cons.1 h.nd).2⟩
theorem ownsRow_lt {B : Nat} {w : World} {e : TypeId} {size : Nat} {v : Value} {n : Nat} {xs : List Value} (h : w.ownsRow B e size v n xs) : ∀ k, v.ownBlock = some k → k < w.heap.size := by
  intro k hk
  rcases h.2 with ⟨rfl, _⟩ | ⟨g, cap, cur, rfl, hg, hh, _⟩
  · cases hk
  · have : g = k := by simpa [Value.ownBlock] using hk
    subst this
    exact (Array.getElem?_eq_some_iff.1 hh).1
theorem PkRow.lt {B : Nat} {w : World} {v : Value} {n : Nat} {l : List Mp} (h : PkRow B w v n l) : ∀ k, v.ownBlock = some k → B ≤ k ∧ k < w.heap.size := by
  obtain ⟨ps, _, _, h3, _⟩ := h
  exact fun k hk => ⟨ownBlock_ge h3 k hk, ownsRow_lt h3 k hk⟩
/-- A box is written that is not the row's own block. -/
theorem PkRow.box {B : Nat} {W W' : World} {v : Value} {n : Nat} {l : List Mp} (h : PkRow B W v n l) {b : Nat} {t : TypeId} {c : Array Value} (hb : W.heap[b]? = some (.cells c t (0, 0))) (ht : t ≠ 5) (hg : W.grownBy W' (some b)) (hne : v.ownBlock ≠ some b) : PkRow B W' v n l := by
  obtain ⟨ps, h1, h2, h3, h4⟩ := h
  refine ⟨ps, h1, h2, ?_, fun i s o hs ho => ?_⟩
  · refine h3.kept hg ?_
    cases hv : v.ownBlock with
    | none => exact .inl rfl
    | some k => exact .inr (by rw [← hv]; exact hne)
  · have h := h4 i s o hs ho
    exact ⟨h.1, h.2.1, h.2.2.1, h.2.2.2.1.box hb ht hg, h.2.2.2.2.box hb ht hg⟩
end Go.Proofs.YtleokgmflelkcaaDoor
