/- Pieces of a packet of IPv4, plain: what is cut tiles it; pieces of pieces do; what tiles it is taken by Is. -/
import Derived.Test.YtleokgmflelkcaaDoorVG2
import Derived.Test.YtleokgmflelkcaaDoorVG5
set_option linter.unusedSimpArgs false
set_option linter.unusedVariables false
namespace Go.Proofs.YtleokgmflelkcaaDoor
open Go Go.RowKit

def barOk (b : Br) : Bool := decide (b.v = 4) && decide (b.flow = 0) && !b.frag && decide (b.id ≤ 65535) && fourF b.src && fourF b.dst && withinF b.tos 255 && withinF b.proto 255 && withinF b.ttl 255
theorem barOk_iff (b : Br) : barOk b = true ↔ (((((((b.v = 4 ∧ b.flow = 0) ∧ b.frag = false) ∧ b.id ≤ 65535) ∧ fourF b.src = true) ∧ fourF b.dst = true) ∧ withinF b.tos 255 = true) ∧ withinF b.proto 255 = true) ∧ withinF b.ttl 255 = true := by
  unfold barOk
  simp only [Bool.and_eq_true, decide_eq_true_eq, Bool.not_eq_true']
/-- A right packet of IPv4, by its parts. -/
structure PR (b : Br) (more : Bool) (off : Int) (os ds : List Int) : Prop where
  bar : barOk b = true
  o0 : 0 ≤ off
  o1 : off ≤ 65528
  o8 : off % 8 = 0
  oe : off + ds.length ≤ 65535
  mo : more = true → 0 < ds.length ∧ ds.length % 8 = 0
  z : off = 0 ∨ 0 < ds.length
  sz : 20 + os.length + ds.length ≤ 65535
  vo : validO os = true

theorem pr_right {p : Pk} {os ds : List Int} (h1 : ds.length = p.d.n) (h2 : os.length = p.o.n) : PR p.bare p.more p.off os ds ↔ p.v = 4 ∧ right4F p os = true := by
  constructor
  · intro h
    obtain ⟨a1, a2, a3, a4, a5, a6, a7, a8, a9⟩ := h
    obtain ⟨⟨⟨⟨⟨⟨⟨⟨b1, b2⟩, b3⟩, b4⟩, b5⟩, b6⟩, b7⟩, b8⟩, b9⟩ := (barOk_iff _).1 a1
    simp only [Pk.bare] at b1 b2 b3 b4 b5 b6 b7 b8 b9
    refine ⟨b1, ?_⟩
    rw [h1] at a5 a6 a7 a8
    rw [h2] at a8
    have hmo : (p.more && (decide (p.d.n = 0) || decide (p.d.n % 8 ≠ 0))) = false := by
      cases hm : p.more
      · rfl
      · have := a6 hm
        simp only [Bool.true_and, Bool.or_eq_false_iff, decide_eq_false_iff_not]
        omega
    have hz : (decide (p.off = 0) || decide (0 < p.d.n)) = true := by simpa using a7
    simp only [right4F, f4F, placed4F, withinF, b5, b6, b7, b8, b9, b3, hmo, hz, a9, Bool.and_eq_true, decide_eq_true_eq, Bool.not_false, Bool.and_true]
    simp only [withinF, Bool.and_eq_true, decide_eq_true_eq] at b7 b8 b9
    refine ⟨⟨⟨⟨⟨⟨⟨b1, b2⟩, b4⟩, b7⟩, b8⟩, b9⟩, ⟨⟨a2, a3⟩, a4⟩, ?_⟩, ?_⟩ <;> omega
  · rintro ⟨hv, h⟩
    simp only [right4F, f4F, placed4F, withinF, Bool.and_eq_true, Bool.or_eq_true, Bool.not_eq_true', decide_eq_true_eq, Bool.and_eq_false_iff, Bool.or_eq_false_iff, decide_eq_false_iff_not] at h
    obtain ⟨⟨⟨⟨⟨⟨⟨⟨⟨⟨⟨c1, c2⟩, c3⟩, c4⟩, c5⟩, c6⟩, c7⟩, c8⟩, c9⟩, ⟨⟨⟨hP1, hP2⟩, hP3⟩, hP4⟩, hP5⟩, hB⟩, hvo⟩ := h
    refine ⟨?_, hP1.1, hP1.2, hP2, by omega, fun hm => ?_, by omega, by omega, hvo⟩
    · refine (barOk_iff _).2 ?_
      have W : ∀ n : Int, 0 ≤ n ∧ n ≤ 255 → withinF n 255 = true := fun n h => by unfold withinF; rw [decide_eq_true h.1, decide_eq_true h.2]; rfl
      exact ⟨⟨⟨⟨⟨⟨⟨⟨c1, c2⟩, c3⟩, c4⟩, c5⟩, c6⟩, W _ c7⟩, W _ c8⟩, W _ c9⟩
    · rcases hP4 with hP4 | hP4
      · rw [hm] at hP4; cases hP4
      · omega
theorem PR.four {b : Br} {more : Bool} {off : Int} {os ds : List Int} (h : PR b more off os ds) : b.v = 4 := by
  exact ((barOk_iff _).1 h.bar).1.1.1.1.1.1.1.1
theorem PR.o40 {b : Br} {more : Bool} {off : Int} {os ds : List Int} (h : PR b more off os ds) : os.length ≤ 40 := by
  have := h.vo
  simp only [validO, Bool.and_eq_true, decide_eq_true_eq] at this
  exact this.1.1
theorem PR.first {b : Br} {more : Bool} {off : Int} {os ds : List Int} (h : PR b more off os ds) {r : Nat} (h0 : 0 < r) (h8 : r % 8 = 0) (hr : r < ds.length) : PR b true off os (ds.take r) := by
  have hl : (ds.take r).length = r := by simp; omega
  have := h.oe
  have := h.sz
  exact ⟨h.bar, h.o0, h.o1, h.o8, by rw [hl]; omega, fun _ => by rw [hl]; exact ⟨h0, h8⟩, by rw [hl]; exact .inr h0, by rw [hl]; omega, h.vo⟩
theorem PR.rest {b : Br} {more : Bool} {off : Int} {os ds co : List Int} (h : PR b more off os ds) {r : Nat} (h0 : 0 < r) (h8 : r % 8 = 0) (hr : r < ds.length) (hv : validO co = true) (hc : co.length ≤ os.length) : PR b more (off + r) co (ds.drop r) := by
  have hl : (ds.drop r).length = ds.length - r := by simp
  have := h.oe
  have := h.sz
  have := h.o0
  have := h.o8
  refine ⟨h.bar, by omega, by omega, by omega, by rw [hl]; omega, fun hm => ?_, by rw [hl]; omega, by rw [hl]; omega, hv⟩
  have := h.mo hm
  rw [hl]; omega

/-- These are the pieces of a packet: each right, each no longer than M. -/
def tile (b : Br) (more : Bool) (co : List Int) (M : Int) : List Int → Int → List Int → List Mp → Prop
  | _, _, _, [] => False
  | os, off, ds, m :: l => m.b = b ∧ m.os = os ∧ m.off = off ∧ PR b m.more off os m.ds ∧ 20 + (os.length : Int) + m.ds.length ≤ M ∧
    ((l = [] ∧ m.ds = ds ∧ m.more = more) ∨ (l ≠ [] ∧ m.more = true ∧ ∃ r, ds = m.ds ++ r ∧ tile b more co M co (off + m.ds.length) r l))

theorem tile_mono {b : Br} {more : Bool} {co : List Int} {M M' : Int} (h : M ≤ M') : ∀ (l : List Mp) (os : List Int) (off : Int) (ds : List Int), tile b more co M os off ds l → tile b more co M' os off ds l
  | [], os, off, ds, ht => ht
  | m :: l, os, off, ds, ht => by
    obtain ⟨h1, h2, h3, h4, h5, h6⟩ := ht
    refine ⟨h1, h2, h3, h4, by omega, ?_⟩
    rcases h6 with h6 | ⟨h6, h7, r, h8, h9⟩
    · exact .inl h6
    · exact .inr ⟨h6, h7, r, h8, tile_mono h l _ _ _ h9⟩
theorem cuts_ne {M : Nat} {b : Br} {more : Bool} {co : List Int} (k : Nat) (off : Int) (os ds : List Int) : cuts M b more co k off os ds ≠ [] := by
  cases k with
  | zero => rw [cuts]; simp
  | succ k => rw [cuts]; split <;> simp
theorem cuts_tile {M : Nat} {b : Br} {more : Bool} {co : List Int} (hM : 68 ≤ M) (hv : validO co = true) : ∀ (k : Nat) (off : Int) (os ds : List Int), PR b more off os ds → co.length ≤ os.length → ds.length ≤ k → tile b more co M os off ds (cuts M b more co k off os ds)
  | 0, off, os, ds, h, hc, hk => by
    rw [cuts]
    have := h.o40
    exact ⟨rfl, rfl, rfl, h, by simp only; omega, .inl ⟨rfl, rfl, rfl⟩⟩
  | k + 1, off, os, ds, h, hc, hk => by
    rw [cuts]
    have h40 := h.o40
    by_cases hf : 20 + os.length + ds.length ≤ M
    · rw [if_pos hf]
      exact ⟨rfl, rfl, rfl, h, by simp only; omega, .inl ⟨rfl, rfl, rfl⟩⟩
    · rw [if_neg hf]
      obtain ⟨r, hr⟩ : ∃ r, r = (M - 20 - os.length) / 8 * 8 := ⟨_, rfl⟩
      rw [← hr]
      have h0 : 0 < r := by omega
      have h8 : r % 8 = 0 := by omega
      have hlt : r < ds.length := by omega
      have hl : (ds.take r).length = r := by simp; omega
      refine ⟨rfl, rfl, rfl, h.first h0 h8 hlt, by simp only [hl]; omega, .inr ⟨cuts_ne _ _ _ _, rfl, ds.drop r, (List.take_append_drop r ds).symm, ?_⟩⟩
      simp only [hl]
      exact cuts_tile hM hv k _ _ _ (h.rest h0 h8 hlt hv hc) (Nat.le_refl _) (by simp; omega)

theorem tile_append {b : Br} {more : Bool} {co : List Int} {M : Int} {d2 : List Int} {S : List Mp} : ∀ (R : List Mp) (os : List Int) (off : Int) (d1 : List Int), tile b true co M os off d1 R → tile b more co M co (off + d1.length) d2 S → tile b more co M os off (d1 ++ d2) (R ++ S)
  | [], os, off, d1, h, _ => h.elim
  | m :: l, os, off, d1, h, hS => by
    obtain ⟨h1, h2, h3, h4, h5, h6⟩ := h
    have hSn : S ≠ [] := fun h => by rw [h] at hS; exact hS
    rcases h6 with ⟨rfl, h7, h8⟩ | ⟨h6, h7, r, rfl, h9⟩
    · rw [← h7] at hS ⊢
      exact ⟨h1, h2, h3, h4, h5, .inr ⟨hSn, h8, d2, rfl, hS⟩⟩
    · refine ⟨h1, h2, h3, h4, h5, .inr ⟨by simp [h6], h7, r ++ d2, by rw [List.append_assoc], ?_⟩⟩
      refine tile_append l co (off + m.ds.length) r h9 ?_
      rw [List.length_append] at hS
      rw [show off + (m.ds.length : Int) + (r.length : Int) = off + ((m.ds.length + r.length : Nat) : Int) by omega]
      exact hS

theorem keep_keep (l : List OptL) : keepO (keepO l) = keepO l := by
  unfold keepO
  rw [List.filter_filter]
  congr 1
  funext o
  simp
theorem carry_carry {xs : List Int} (hr : bytesR xs) : carryF (carryF xs) = carryF xs := by
  have hv2 := (carry_facts hr).2
  cases hv : validO xs
  · have : carryF xs = [] := by unfold carryF; rw [hv]; rfl
    rw [this]
    simp [carryF, validO, parse_nil, keepO, layO, padO]
  · have e : carryF xs = padO (layO (keepO ((parseO xs).getD []))) := by unfold carryF; rw [if_pos hv]
    have hp : parseO (carryF xs) = some (keepO ((parseO xs).getD [])) := by
      rw [e]
      unfold padO
      exact parse_lay _ _ (fun o ho => (mem_keep ho).2)
    have : carryF (carryF xs) = padO (layO (keepO ((parseO (carryF xs)).getD []))) := by
      rw [show carryF (carryF xs) = if validO (carryF xs) then padO (layO (keepO ((parseO (carryF xs)).getD []))) else [] from rfl, if_pos hv2]
    rw [this, hp, e]
    simp only [Option.getD_some, keep_keep]

/-- Pieces of pieces. -/
theorem tile_flat {b : Br} {more : Bool} {co : List Int} {M0 M : Int} (hcc : carryF co = co) : ∀ (L : List Mp) (Rs : List (List Mp)) (os : List Int) (off : Int) (ds : List Int), tile b more co M0 os off ds L → carryF os = co → Rs.length = L.length →
    (∀ (i : Nat) (m : Mp) (R : List Mp), L[i]? = some m → Rs[i]? = some R → tile m.b m.more (carryF m.os) M m.os m.off m.ds R) → tile b more co M os off ds Rs.flatten
  | [], Rs, os, off, ds, h, _, _, _ => h.elim
  | m :: l, [], os, off, ds, h, _, hl, _ => by simp at hl
  | m :: l, R :: Rs, os, off, ds, h, hc, hl, hR => by
    obtain ⟨h1, h2, h3, h4, h5, h6⟩ := h
    have hR0 := hR 0 m R rfl rfl
    rw [h1, h2, h3, hc] at hR0
    rw [List.flatten_cons]
    rcases h6 with ⟨rfl, h7, h8⟩ | ⟨h6, h7, r, rfl, h9⟩
    · have : Rs = [] := List.eq_nil_of_length_eq_zero (by simpa using hl)
      subst this
      rw [List.flatten_nil, List.append_nil, ← h7, ← h8]
      exact hR0
    · rw [h7] at hR0
      exact tile_append R os off m.ds hR0 (tile_flat hcc l Rs co _ r h9 hcc (by simpa using hl) (fun i m' R' hm hR' => hR (i + 1) m' R' (by simpa using hm) (by simpa using hR')))

theorem PR.fp {m : Mp} (h : PR m.b m.more m.off m.os m.ds) : rightF m.fp.p m.fp.os = true ∧ headF m.fp.p m.fp.os = 20 + m.os.length := by
  have h' : PR m.fp.p.bare m.fp.p.more m.fp.p.off m.os m.ds := h
  obtain ⟨a, b⟩ := (pr_right (p := m.fp.p) rfl rfl).1 h'
  have hb : right4F m.fp.p m.fp.os = true := b
  refine ⟨by unfold rightF; rw [if_pos a]; exact b, ?_⟩
  rw [headF_right a, hb, if_pos rfl]
  rfl
theorem tile_isF {p : Pk} {os ds co : List Int} {M : Int} : ∀ (L : List Mp) (first : Bool) (a : Nat), a ≤ ds.length → tile p.bare p.more co M (if first then os else co) (p.off + a) (ds.drop a) L → isF p os ds co M first a (L.map Mp.fp) = true
  | [], first, a, ha, h => h.elim
  | m :: l, first, a, ha, h => by
    obtain ⟨h1, h2, h3, h4, h5, h6⟩ := h
    have hf := PR.fp (m := m) (by rw [h1, h2, h3]; exact h4)
    rw [← h2] at h5
    rw [List.map_cons, isF, if_neg, if_neg, if_neg]
    · rcases h6 with ⟨rfl, h7, h8⟩ | ⟨h6, h7, r, h8, h9⟩
      · rw [List.map_nil, isF]
        show decide (a + m.ds.length = ds.length) = true
        rw [h7]
        simp; omega
      · show isF p os ds co M false (a + m.ds.length) (l.map Mp.fp) = true
        have hlen := congrArg List.length h8
        rw [List.length_drop, List.length_append] at hlen
        refine tile_isF l false (a + m.ds.length) (by omega) ?_
        have e : ds.drop (a + m.ds.length) = r := by
          rw [← List.drop_drop, h8, List.drop_left]
        rw [e]
        have e2 : p.off + ((a + m.ds.length : Nat) : Int) = p.off + a + m.ds.length := by omega
        rw [e2]
        exact h9
    · show ¬ m.more ≠ (!((l.map Mp.fp).isEmpty) || p.more)
      rw [ne_eq, Decidable.not_not]
      rcases h6 with ⟨rfl, h7, h8⟩ | ⟨h6, h7, r, h8, h9⟩
      · rw [h8]; rfl
      · rw [h7]
        cases l with
        | nil => exact absurd rfl h6
        | cons y l => rfl
    · rintro (h | h)
      · exact h h3
      · apply h
        show m.ds <+: _
        rcases h6 with ⟨rfl, h7, h8⟩ | ⟨h6, h7, r, h8, h9⟩
        · rw [h7]; exact List.prefix_refl _
        · rw [h8]; exact List.prefix_append _ _
    · rw [hf.2]
      rintro (h | h | h | h)
      · omega
      · have e : m.fp.ds.length = m.ds.length := rfl
        rw [e] at h
        omega
      · exact h h1
      · exact h h2
/-- What tiles a packet is taken by Is. -/
theorem tile_is {p : Pk} {os ds co : List Int} {M : Int} {l : List Fp} (hl : Lens l) (ho : os.length = p.o.n) (hd : ds.length = p.d.n) (h : PR p.bare p.more p.off os ds) (hdf : p.df = false) (h1 : 68 ≤ M) (h2 : M ≤ 65535) (ht : tile p.bare p.more co M os p.off ds (l.map Fp.mp)) : isR p os ds co M l = true := by
  obtain ⟨hv, hr⟩ := (pr_right hd ho).1 h
  have hh : headF p os = 20 + os.length := by rw [headF_right hv, hr, if_pos rfl, ho]
  have e : l.map cn = (l.map Fp.mp).map Mp.fp := by rw [List.map_map]; rfl
  rw [← isR_cn hl, e]
  generalize l.map Fp.mp = L at ht
  unfold isR
  rw [if_neg]
  · match L, ht with
    | [], ht => exact ht.elim
    | [m], ht =>
      obtain ⟨h1, h2, h3, h4, h5, h6⟩ := ht
      rcases h6 with ⟨-, h7, h8⟩ | ⟨h6, -⟩
      · show (sameP p m.fp.p os ds m.fp.os m.fp.ds && decide (headF p os + ds.length ≤ M)) = true
        rw [Bool.and_eq_true]
        refine ⟨sameP_mp ?_, ?_⟩
        · show _ = m
          unfold Pk.mp
          obtain ⟨mb, mm, mo, mos, mds⟩ := m
          simp only at h1 h2 h3 h7 h8
          rw [h1, h2, h3, h7, h8]
        · rw [h7] at h5
          rw [hh]
          exact decide_eq_true h5
      · exact absurd rfl h6
    | m :: m' :: L, ht =>
      show (if p.v ≠ 4 ∨ p.df = true then false else isF p os ds co M true 0 ((m :: m' :: L).map Mp.fp)) = true
      rw [if_neg (by rw [hdf, hv]; decide)]
      exact tile_isF (m :: m' :: L) true 0 (Nat.zero_le _) (by simpa using ht)
  · rw [List.length_map]
    rintro (h' | h' | h' | h')
    · omega
    · omega
    · omega
    · rw [List.eq_nil_of_length_eq_zero h'] at ht
      exact ht

/-- What Recut answers on a right packet of IPv4 without DF. -/
theorem recut_tile {x : Fp} {M : Int} (hl : x.ds.length = x.p.d.n ∧ x.os.length = x.p.o.n) (h : PR x.p.bare x.p.more x.p.off x.os x.ds) (hb : bytesR x.os) (hdf : x.p.df = false) (h1 : 68 ≤ M) (h2 : M ≤ 65535) :
    ∃ L, recutR x.p x.os x.ds (carryF x.os) M = (0, L) ∧ tile x.p.bare x.p.more (carryF x.os) M x.os x.p.off x.ds L := by
  obtain ⟨hv, hr⟩ := (pr_right hl.1 hl.2).1 h
  have hh : headF x.p x.os = 20 + x.os.length := by rw [headF_right hv, hr, if_pos rfl, hl.2]
  unfold recutR
  rw [if_neg (by rintro (h' | h' | h') <;> omega)]
  by_cases h3 : headF x.p x.os + x.ds.length ≤ M
  · rw [if_pos h3]
    exact ⟨_, rfl, rfl, rfl, rfl, h, by show 20 + (x.os.length : Int) + (x.ds.length : Int) ≤ M; omega, .inl ⟨rfl, rfl, rfl⟩⟩
  · rw [if_neg h3, if_neg (by rw [hv, hdf]; decide)]
    refine ⟨_, rfl, ?_⟩
    have := cuts_tile (M := M.toNat) (b := x.p.bare) (more := x.p.more) (co := carryF x.os) (by omega) (carry_facts hb).2 x.ds.length x.p.off x.os x.ds h (carry_facts hb).1 (Nat.le_refl _)
    have e : ((M.toNat : Nat) : Int) = M := by omega
    rw [e] at this
    exact this
/-- Each piece is right. -/
theorem tile_mem {b : Br} {more : Bool} {co : List Int} {M : Int} : ∀ (L : List Mp) (os : List Int) (off : Int) (ds : List Int), tile b more co M os off ds L → ∀ m ∈ L, m.b = b ∧ PR m.b m.more m.off m.os m.ds ∧ (m.os = os ∨ m.os = co)
  | [], _, _, _, h, m, hm => by cases hm
  | m :: l, os, off, ds, h, y, hy => by
    obtain ⟨h1, h2, h3, h4, h5, h6⟩ := h
    rcases List.mem_cons.1 hy with rfl | hy
    · exact ⟨h1, by rw [h1, h2, h3]; exact h4, .inl h2⟩
    · rcases h6 with ⟨rfl, -⟩ | ⟨-, -, r, -, h9⟩
      · cases hy
      · obtain ⟨a, b, c⟩ := tile_mem l _ _ _ h9 y hy
        exact ⟨a, b, .inr (c.elim id id)⟩
end Go.Proofs.YtleokgmflelkcaaDoor
