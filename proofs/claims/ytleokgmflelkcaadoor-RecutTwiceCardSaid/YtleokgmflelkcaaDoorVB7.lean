/- opts.Carry of no options. The chapter's first and fourth examples, plain. The chapter's fourth example: the pieces joined, plain. -/
import Derived.Test.YtleokgmflelkcaaDoorVA6
import Derived.Test.YtleokgmflelkcaaDoorVA10
import Derived.Deep.LoopGhost
import Derived.Test.YtleokgmflelkcaaDoorVA20
import Derived.Test.YtleokgmflelkcaaDoorVA22
import Derived.Test.YtleokgmflelkcaaDoorVA29
import Derived.Test.YtleokgmflelkcaaDoorVB4
set_option linter.unusedSimpArgs false
set_option linter.unusedVariables false
namespace Go.Proofs.YtleokgmflelkcaaDoor
open Go Go.RowKit

theorem indexOpt0 (a : Option Addr) (c : Nat) (w : World) : Calls Tryd.prog 77 #[.slice a 0 c, .func (.func 57) #[] #[]] w (RB (.int .i64 (-1)) w) := by
  go_enter Tryd.func77, Tryd.ntmps77
  go_wp2
  go_loopw [8] (fun i wr => i = .int .i64 0 ∧ wr = w) (fun _ _ => 0)
  case atStart => exact ⟨rfl, rfl⟩
  case round =>
    obtain ⟨rfl, rfl⟩ := hrel
    go_wp2
    go_ret
    exact RB.mk' rfl (Below.refl _ _)

theorem deleteOpt0 (a : Option Addr) (c : Nat) (w : World) : Calls Tryd.prog 56 #[.slice a 0 c, .func (.func 57) #[] #[]] w (RB (.slice a 0 c) w) := by
  have hB : Below w.heap.size w w := Below.refl _ _
  go_enter Tryd.func56, Tryd.ntmps56
  go_wp2_with (first | (go_at_call 77; (with_reducible refine (indexOpt0 _ _ _).mono ?_); rintro e w1 ⟨rfl, hb⟩; have hB := hB.trans (hb.mono hB.size); clear hb))
  go_ret
  exact RB.mk' rfl hB

theorem buildOpt0 (a : Option Addr) (c : Nat) (w : World) : Calls Tryd.prog 58 #[.slice a 0 c] w (RB (.tuple #[.slice none 0 0, .int .i64 0]) w) := by
  go_enter Tryd.func58, Tryd.ntmps58
  go_wp2
  go_loopw [13] (fun i wr => i = .int .i64 0 ∧ Below w.heap.size w wr) (fun _ _ => 0)
  case atStart => exact ⟨rfl, Below.refl _ _⟩
  case round =>
    obtain ⟨rfl, hB⟩ := hrel
    go_wp2
    go_loopw [7, 46] (fun b i wr => b = .slice none 0 0 ∧ i = .int .i64 0 ∧ Below w.heap.size w wr) (fun _ _ _ => 0)
    case atStart => exact ⟨rfl, rfl, hB⟩
    case round =>
      obtain ⟨rfl, rfl, hB⟩ := hrel
      go_wp2
      go_loopw [7] (fun b wr => b = .slice none 0 0 ∧ Below w.heap.size w wr) (fun _ _ => 0)
      case atStart => exact ⟨rfl, hB⟩
      case round =>
        obtain ⟨rfl, hB⟩ := hrel
        go_wp2
        go_ret2
        exact RB.mk' rfl hB

theorem OptRow.form0 {B : Nat} {w : World} {v : Value} {n : Nat} (h : OptRow B w v n []) : ∃ a c, v = .slice a 0 c := by
  obtain ⟨ss, h1, h2, h3, _⟩ := h
  simp only [List.length_nil] at h2
  subst h2
  rcases h3.2 with ⟨rfl, _⟩ | ⟨g, cap, cur, rfl, _⟩
  · exact ⟨none, 0, rfl⟩
  · exact ⟨_, _, rfl⟩

/-- Carry of no options: none. -/
theorem carry0_any (s : Sl) (w : World) (hs : Bs w s []) (hS : Sh w) : Calls Tryd.prog 27 #[.slice s.a s.n s.c] w (RS [] w) := by
  have hn : s.n = 0 := by rw [← hs.len]; rfl
  have hB : Below w.heap.size w w := Below.refl _ _
  have hv : validO [] = true := by simp [validO, parse_nil]
  have hval := Lib.hid (fun (V : World) (hb : Below w.heap.size w V) => hv ▸ valid_any s [] V (hs.below hb) (by omega) (hS.below hb))
  have hpar := Lib.hid (fun (V : World) (hb : Below w.heap.size w V) => parse_nil ▸ parse_any s [] V (hs.below hb) (by omega) (hS.below hb))
  replace hn := Lib.hid hn
  clear hv
  go_enter Tryd.func27, Tryd.ntmps27
  go_wp2_with (first | (go_at_call 51; (with_reducible refine (hval.out _ hB).mono ?_); rintro e w1 ⟨rfl, hb⟩; have hB := hB.trans (hb.mono hB.size); clear hb) | (go_at_call 55; (with_reducible refine (hpar.out _ hB).mono ?_); rintro e w2 ⟨v, m, rfl, hrow, hb⟩; obtain ⟨a, c, rfl⟩ := (hrow [] rfl).form0; have hB := hB.trans (hb.mono hB.size); clear hb hrow) | (go_at_call 56; (with_reducible refine (deleteOpt0 _ _ _).mono ?_); rintro e w3 ⟨rfl, hb⟩; have hB := hB.trans (hb.mono hB.size); clear hb) | (go_at_call 58; (with_reducible refine (buildOpt0 _ _ _).mono ?_); rintro e w4 ⟨rfl, hb⟩; have hB := hB.trans (hb.mono hB.size); clear hb))
  go_ret
  exact ⟨⟨none, 0, 0⟩, rfl, own_nil _ _, hB⟩
end Go.Proofs.YtleokgmflelkcaaDoor
namespace Go.Proofs.YtleokgmflelkcaaDoor
open Go Go.RowKit

theorem valid_nil : validO [] = true := by simp [validO, parse_nil]
theorem right_plain (m : Bool) (off : Int) (s1 s2 : Sl) (h1 : s1.n = 0) (h2 : placed4F { plain0 with more := m, off := off, o := s1, d := s2 } = true) (h3 : s2.n ≤ 100) : right4F { plain0 with more := m, off := off, o := s1, d := s2 } [] = true := by
  have h4 : fourF (ip4 1 (by decide)) = true := by decide
  have h5 : fourF (ip4 2 (by decide)) = true := by decide
  simp only [right4F, f4F, h2, valid_nil, Bool.and_true]
  simp [plain0, withinF, h4, h5, h1]
  omega
theorem head_plain (m : Bool) (off : Int) (s1 s2 : Sl) (h1 : s1.n = 0) (h2 : placed4F { plain0 with more := m, off := off, o := s1, d := s2 } = true) (h3 : s2.n ≤ 100) : headF { plain0 with more := m, off := off, o := s1, d := s2 } [] = 20 := by
  rw [headF_right rfl, right_plain m off s1 s2 h1 h2 h3, if_pos rfl, h1]
  rfl
theorem cuts_plain (b : Br) : cuts 68 b false [] 100 0 [] (upto 100) = [⟨b, true, 0, [], (upto 100).take 48⟩, ⟨b, true, 48, [], ((upto 100).drop 48).take 48⟩, ⟨b, false, 96, [], (upto 100).drop 96⟩] := by rfl
theorem recutR_plain (s1 s2 : Sl) (h1 : s1.n = 0) (h2 : s2.n = 100) : recutR { plain0 with o := s1, d := s2 } [] (upto 100) [] 68 = (0, [⟨plain0.bare, true, 0, [], (upto 100).take 48⟩, ⟨plain0.bare, true, 48, [], ((upto 100).drop 48).take 48⟩, ⟨plain0.bare, false, 96, [], (upto 100).drop 96⟩]) := by
  have hh : headF { plain0 with o := s1, d := s2 } [] = 20 := head_plain false 0 s1 s2 h1 (by simp [placed4F, withinF, h2]) (by omega)
  unfold recutR
  rw [hh, if_neg (by decide), if_neg (by decide), if_neg (by simp [plain0])]
  have := cuts_plain plain0.bare
  rw [← this]
  rfl

/-- A packet in memory that is one of the three pieces. -/
structure Kx (x : Fp) (more : Bool) (off : Int) (data : List Int) : Prop where
  b : x.p.bare = plain0.bare
  m : x.p.more = more
  o : x.p.off = off
  os : x.os = []
  ds : x.ds = data
  on : x.p.o.n = 0
  dn : x.p.d.n = data.length
theorem Kx.form {x : Fp} {more : Bool} {off : Int} {ds : List Int} (h : Kx x more off ds) : x.p = { plain0 with more := more, off := off, o := x.p.o, d := x.p.d } := by
  obtain ⟨p, os, ds⟩ := x
  obtain ⟨h1, h2, h3, h4, h5, h6, h7⟩ := h
  obtain ⟨v, tos, flow, src, dst, proto, ttl, id, df, more, frag, off, o, d⟩ := p
  simp only at *
  subst h2; subst h3
  simp only [Pk.bare, plain0, Br.mk.injEq] at h1
  obtain ⟨rfl, rfl, rfl, rfl, rfl, rfl, rfl, rfl, rfl, rfl⟩ := h1
  rfl
theorem Kx.head {x : Fp} {more : Bool} {off : Int} {ds : List Int} (h : Kx x more off ds) (h2 : placed4F { plain0 with more := more, off := off, o := ⟨none, 0, 0⟩, d := ⟨none, ds.length, 0⟩ } = true) (h3 : ds.length ≤ 100) : headF x.p x.os = 20 := by
  rw [h.os, h.form]
  refine head_plain more off _ _ h.on ?_ (by rw [h.dn]; exact h3)
  rw [← h2]
  simp only [placed4F, h.dn]
structure K3 (x0 x1 x2 : Fp) : Prop where
  k0 : Kx x0 true 0 ((upto 100).take 48)
  k1 : Kx x1 true 48 (((upto 100).drop 48).take 48)
  k2 : Kx x2 false 96 ((upto 100).drop 96)
theorem K3.heads {x0 x1 x2 : Fp} (h : K3 x0 x1 x2) : headF x0.p x0.os = 20 ∧ headF x1.p x1.os = 20 ∧ headF x2.p x2.os = 20 :=
  ⟨h.k0.head (by decide) (by decide), h.k1.head (by decide) (by decide), h.k2.head (by decide) (by decide)⟩

set_option maxRecDepth 100000 in
theorem is_plain (s1 s2 : Sl) (h1 : s1.n = 0) (h2 : s2.n = 100) {x0 x1 x2 : Fp} (h : K3 x0 x1 x2) : isR { plain0 with o := s1, d := s2 } [] (upto 100) [] 119 [x0, x1, x2] = true := by
  have hh : headF { plain0 with o := s1, d := s2 } [] = 20 := head_plain false 0 s1 s2 h1 (by simp [placed4F, withinF, h2]) (by omega)
  obtain ⟨e0, e1, e2⟩ := h.heads
  obtain ⟨k0, k1, k2⟩ := h
  unfold isR
  rw [hh, if_neg (by simp)]
  simp only
  rw [if_neg (by simp [plain0])]
  have b0 : ({ plain0 with o := s1, d := s2 } : Pk).bare = plain0.bare := rfl
  rw [isF_go (by rw [e0]; decide) (by rw [e0, k0.ds]; decide) (by rw [k0.b]; rfl) (by rw [k0.os]; rfl) (by rw [k0.o]; rfl) (by rw [k0.ds]; decide) (by rw [k0.m]; rfl),
    isF_go (by rw [e1]; decide) (by rw [e1, k1.ds]; decide) (by rw [k1.b]; rfl) (by rw [k1.os]; rfl) (by rw [k1.o, k0.ds]; rfl) (by rw [k1.ds, k0.ds]; decide) (by rw [k1.m]; rfl),
    isF_go (by rw [e2]; decide) (by rw [e2, k2.ds]; decide) (by rw [k2.b]; rfl) (by rw [k2.os]; rfl) (by rw [k2.o, k0.ds, k1.ds]; rfl) (by rw [k2.ds, k0.ds, k1.ds]; decide) (by rw [k2.m]; rfl), isF, k0.ds, k1.ds, k2.ds]
  decide
theorem is_plain67 (s1 s2 : Sl) (l : List Fp) : isR { plain0 with o := s1, d := s2 } [] (upto 100) [] 67 l = false := by
  unfold isR
  rw [if_pos (.inr (.inl (by decide)))]
end Go.Proofs.YtleokgmflelkcaaDoor
namespace Go.Proofs.YtleokgmflelkcaaDoor
open Go Go.RowKit

theorem SortedO.pairwise {σ : List Fp} (h : SortedO σ) : σ.Pairwise (fun x y => x.p.off ≤ y.p.off) := by
  rw [List.pairwise_iff_getElem]
  intro i j hi hj hij
  exact h i j _ _ hij (List.getElem?_eq_getElem hi) (List.getElem?_eq_getElem hj)
/-- What is strictly sorted is the one sorted order. -/
theorem sorted_unique {σ τ : List Fp} (h : σ.Perm τ) (hs : SortedO σ) (ht : τ.Pairwise (fun x y => x.p.off < y.p.off)) : σ = τ := by
  refine List.Perm.eq_of_pairwise (le := fun x y => x.p.off ≤ y.p.off) (fun a b ha hb h1 h2 => ?_) hs.pairwise (ht.imp (fun h => Int.le_of_lt h)) h
  have ha' := h.mem_iff.1 ha
  by_cases e : a = b
  · exact e
  · exfalso
    have hlt : ∀ x ∈ τ, ∀ y ∈ τ, x ≠ y → x.p.off ≠ y.p.off := by
      intro x hx y hy hne
      obtain ⟨i, hi, rfl⟩ := List.getElem_of_mem hx
      obtain ⟨j, hj, rfl⟩ := List.getElem_of_mem hy
      rw [List.pairwise_iff_getElem] at ht
      rcases Nat.lt_trichotomy i j with hij | hij | hij
      · have := ht i j hi hj hij; omega
      · subst hij; exact absurd rfl hne
      · have := ht j i hj hi hij; omega
    exact hlt a ha' b hb e (by omega)

theorem three_sorted {x0 x1 x2 : Fp} (h : K3 x0 x1 x2) {σ : List Fp} (hp : σ.Perm [x2, x0, x1]) (hs : SortedO σ) : σ = [x0, x1, x2] := by
  refine sorted_unique (hp.trans ?_) hs ?_
  · exact (List.perm_append_comm (l₁ := [x2]) (l₂ := [x0, x1]))
  · have := h.k0.o; have := h.k1.o; have := h.k2.o
    simp only [List.pairwise_cons, List.mem_cons, List.not_mem_nil, or_false, forall_eq_or_imp, forall_eq, List.Pairwise.nil, and_true, false_implies, implies_true]
    omega

theorem key_of_bare {p q : Pk} (h : p.bare = q.bare) : p.key = q.key := by
  simp only [Pk.bare, Br.mk.injEq] at h
  simp only [Pk.key, h]

theorem upto_three : (upto 100).take 48 ++ (((upto 100).drop 48).take 48 ++ (upto 100).drop 96) = upto 100 := by rfl
theorem join_plain {x0 x1 x2 : Fp} (h : K3 x0 x1 x2) : joinR [x2, x0, x1] [x0, x1, x2] = ⟨0, joinW x0.p, [], upto 100⟩ := by
  obtain ⟨e0, e1, e2⟩ := h.heads
  have k0 := h.k0
  have k1 := h.k1
  have k2 := h.k2
  have n0 : endsF x0 = 48 := by unfold endsF; rw [k0.o, k0.ds]; rfl
  have n1 : endsF x1 = 96 := by unfold endsF; rw [k1.o, k1.ds]; rfl
  have n2 : endsF x2 = 100 := by unfold endsF; rw [k2.o, k2.ds]; rfl
  have hE : endR [x2, x0, x1] = some 0 := by
    simp [endR, endF, e0, e1, e2, k0.m, k1.m, k2.m, key_of_bare (k0.b.trans k2.b.symm), key_of_bare (k1.b.trans k2.b.symm)]
  have hT : joinTo [x2, x0, x1] 0 = 100 := by simp [joinTo, n2]
  have hC : joinChk (joinTo [x2, x0, x1] 0) 0 0 [x2, x0, x1] = true := by
    rw [hT]; simp [joinChk, n0, n1, k0.o, k1.o]
  have hG : joinGo 0 (decide ((0 : Int) < 0)) [x0, x1, x2] = some (joinTo [x2, x0, x1] 0, false) := by
    rw [hT]; simp [joinGo, n0, n1, n2, k0.o, k1.o, k2.o]
  have hds : [x0, x1, x2].flatMap Fp.ds = upto 100 := by
    simp only [List.flatMap_cons, List.flatMap_nil, List.append_nil, k0.ds, k1.ds, k2.ds]
    exact upto_three
  rw [joinR_ok hE hC hG rfl ⟨none, 0, 0⟩ ⟨none, 100, 0⟩ k0.on.symm (by rw [hds]; rfl), hds, k0.os, if_neg]
  rw [k0.form]
  have hw : ∀ (o d : Sl), ({ joinW { plain0 with more := true, off := 0, o := o, d := d } with o := ⟨none, 0, 0⟩, d := ⟨none, 100, 0⟩ } : Pk) = { plain0 with more := false, off := 0, o := ⟨none, 0, 0⟩, d := ⟨none, 100, 0⟩ } := fun o d => rfl
  rw [hw, head_plain false 0 _ _ rfl (by decide) (by decide)]
  decide

theorem same_plain {x0 : Fp} {ds : List Int} (h : Kx x0 true 0 ds) (s1 s2 t1 t2 : Sl) : sameP { plain0 with o := s1, d := s2 } { joinW x0.p with o := t1, d := t2 } [] (upto 100) [] (upto 100) = true := by
  rw [h.form]
  have hb : ∀ (o d : Sl), ({ joinW { plain0 with more := true, off := 0, o := o, d := d } with o := t1, d := t2 } : Pk) = { plain0 with o := t1, d := t2 } := fun o d => rfl
  rw [hb]
  simp [sameP, Pk.bare]
end Go.Proofs.YtleokgmflelkcaaDoor
