/- The chapter's first and fourth examples, plain. -/
import Derived.Test.YtleokgmflelkcaaDoorA20
import Derived.Test.YtleokgmflelkcaaDoorA21
import Derived.Test.YtleokgmflelkcaaDoorA29
import Derived.Test.YtleokgmflelkcaaDoorB4
import Derived.Test.YtleokgmflelkcaaDoorB5
set_option linter.unusedSimpArgs false
set_option linter.unusedVariables false
namespace Go.Proofs.YtleokgmflelkcaaDoor
open Go Go.RowKit

theorem valid_nil : validO [] = true := by simp [validO, parse_nil]
theorem right_plain (m : Bool) (off : Int) (s1 s2 : Sl) (h1 : s1.n = 0) (h2 : placed4F { plain0 with more := m, off := off, o := s1, d := s2 } = true) (h3 : s2.n ≤ 100) : right4F { plain0 with more := m, off := off, o := s1, d := s2 } [] = true := by
  have h4 : fourF (ip4 1 (by decide)) = true := by decide
  have h5 : fourF (ip4 2 (by decide)) = true := by decide
  simp only [right4F, f4F, h2, valid_nil, Bool.and_true]
  simp [plain0, withinF, h4, h5, h1]
  omega
theorem head_plain (m : Bool) (off : Int) (s1 s2 : Sl) (h1 : s1.n = 0) (h2 : placed4F { plain0 with more := m, off := off, o := s1, d := s2 } = true) (h3 : s2.n ≤ 100) : headF { plain0 with more := m, off := off, o := s1, d := s2 } [] = 20 := by
  rw [headF_right rfl, right_plain m off s1 s2 h1 h2 h3, if_pos rfl, h1]
  rfl
theorem cuts_plain (b : Br) : cuts 68 b false [] 100 0 [] (upto 100) = [⟨b, true, 0, [], (upto 100).take 48⟩, ⟨b, true, 48, [], ((upto 100).drop 48).take 48⟩, ⟨b, false, 96, [], (upto 100).drop 96⟩] := by rfl
theorem recutR_plain (s1 s2 : Sl) (h1 : s1.n = 0) (h2 : s2.n = 100) : recutR { plain0 with o := s1, d := s2 } [] (upto 100) [] 68 = (0, [⟨plain0.bare, true, 0, [], (upto 100).take 48⟩, ⟨plain0.bare, true, 48, [], ((upto 100).drop 48).take 48⟩, ⟨plain0.bare, false, 96, [], (upto 100).drop 96⟩]) := by
  have hh : headF { plain0 with o := s1, d := s2 } [] = 20 := head_plain false 0 s1 s2 h1 (by simp [placed4F, withinF, h2]) (by omega)
  unfold recutR
  rw [hh, if_neg (by decide), if_neg (by decide), if_neg (by simp [plain0])]
  have := cuts_plain plain0.bare
  rw [← this]
  rfl

/-- A packet in memory that is one of the three pieces. -/
structure Kx (x : Fp) (more : Bool) (off : Int) (data : List Int) : Prop where
  b : x.p.bare = plain0.bare
  m : x.p.more = more
  o : x.p.off = off
  os : x.os = []
  ds : x.ds = data
  on : x.p.o.n = 0
  dn : x.p.d.n = data.length
theorem Kx.form {x : Fp} {more : Bool} {off : Int} {ds : List Int} (h : Kx x more off ds) : x.p = { plain0 with more := more, off := off, o := x.p.o, d := x.p.d } := by
  obtain ⟨p, os, ds⟩ := x
  obtain ⟨h1, h2, h3, h4, h5, h6, h7⟩ := h
  obtain ⟨v, tos, flow, src, dst, proto, ttl, id, df, more, frag, off, o, d⟩ := p
  simp only at *
  subst h2; subst h3
  simp only [Pk.bare, plain0, Br.mk.injEq] at h1
  obtain ⟨rfl, rfl, rfl, rfl, rfl, rfl, rfl, rfl, rfl, rfl⟩ := h1
  rfl
theorem Kx.head {x : Fp} {more : Bool} {off : Int} {ds : List Int} (h : Kx x more off ds) (h2 : placed4F { plain0 with more := more, off := off, o := ⟨none, 0, 0⟩, d := ⟨none, ds.length, 0⟩ } = true) (h3 : ds.length ≤ 100) : headF x.p x.os = 20 := by
  rw [h.os, h.form]
  refine head_plain more off _ _ h.on ?_ (by rw [h.dn]; exact h3)
  rw [← h2]
  simp only [placed4F, h.dn]
structure K3 (x0 x1 x2 : Fp) : Prop where
  k0 : Kx x0 true 0 ((upto 100).take 48)
  k1 : Kx x1 true 48 (((upto 100).drop 48).take 48)
  k2 : Kx x2 false 96 ((upto 100).drop 96)
theorem K3.heads {x0 x1 x2 : Fp} (h : K3 x0 x1 x2) : headF x0.p x0.os = 20 ∧ headF x1.p x1.os = 20 ∧ headF x2.p x2.os = 20 :=
  ⟨h.k0.head (by decide) (by decide), h.k1.head (by decide) (by decide), h.k2.head (by decide) (by decide)⟩

set_option maxRecDepth 100000 in
theorem is_plain (s1 s2 : Sl) (h1 : s1.n = 0) (h2 : s2.n = 100) {x0 x1 x2 : Fp} (h : K3 x0 x1 x2) : isR { plain0 with o := s1, d := s2 } [] (upto 100) [] 119 [x0, x1, x2] = true := by
  have hh : headF { plain0 with o := s1, d := s2 } [] = 20 := head_plain false 0 s1 s2 h1 (by simp [placed4F, withinF, h2]) (by omega)
  obtain ⟨e0, e1, e2⟩ := h.heads
  obtain ⟨k0, k1, k2⟩ := h
  unfold isR
  rw [hh, if_neg (by simp)]
  simp only
  rw [if_neg (by simp [plain0])]
  have b0 : ({ plain0 with o := s1, d := s2 } : Pk).bare = plain0.bare := rfl
  rw [isF_go (by rw [e0]; decide) (by rw [e0, k0.ds]; decide) (by rw [k0.b]; rfl) (by rw [k0.os]; rfl) (by rw [k0.o]; rfl) (by rw [k0.ds]; decide) (by rw [k0.m]; rfl),
    isF_go (by rw [e1]; decide) (by rw [e1, k1.ds]; decide) (by rw [k1.b]; rfl) (by rw [k1.os]; rfl) (by rw [k1.o, k0.ds]; rfl) (by rw [k1.ds, k0.ds]; decide) (by rw [k1.m]; rfl),
    isF_go (by rw [e2]; decide) (by rw [e2, k2.ds]; decide) (by rw [k2.b]; rfl) (by rw [k2.os]; rfl) (by rw [k2.o, k0.ds, k1.ds]; rfl) (by rw [k2.ds, k0.ds, k1.ds]; decide) (by rw [k2.m]; rfl), isF, k0.ds, k1.ds, k2.ds]
  decide
theorem is_plain67 (s1 s2 : Sl) (l : List Fp) : isR { plain0 with o := s1, d := s2 } [] (upto 100) [] 67 l = false := by
  unfold isR
  rw [if_pos (.inr (.inl (by decide)))]
end Go.Proofs.YtleokgmflelkcaaDoor
