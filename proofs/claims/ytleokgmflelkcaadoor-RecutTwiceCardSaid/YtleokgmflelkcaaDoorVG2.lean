/- RecutCuts: the law, walked. -/
import Derived.Test.YtleokgmflelkcaaDoorVG1
import Derived.Test.YtleokgmflelkcaaDoorVB8
import Derived.Test.YtleokgmflelkcaaDoorVD5
set_option linter.unusedSimpArgs false
set_option linter.unusedVariables false
namespace Go.Proofs.YtleokgmflelkcaaDoor
open Go Go.RowKit

theorem fp_same {x y : Fp} (h : x.mp = y.mp) : sameP x.p y.p x.os x.ds y.os y.ds = true := sameP_mp h

set_option maxRecDepth 100000 in
set_option maxHeartbeats 1000000 in
theorem lsame_any (s t : Sl) (xs ys : List Fp) (w : World) (hs : PkS w s xs) (ht : PkS w t ys) (h : xs.map Fp.mp = ys.map Fp.mp) (hm : s.n ≤ 925904528626) : Calls Tryd.prog 15 #[.slice s.a s.n s.c, .slice t.a t.n t.c] w (RB (.bool true) w) := by
  have hlx := Lib.hid hs.len
  have hly := Lib.hid ht.len
  have hl : s.n = t.n := by
    have := congrArg List.length h
    rw [List.length_map, List.length_map, hlx.out, hly.out] at this
    exact this
  obtain ⟨sa, n, sc⟩ := s
  obtain ⟨ta, n', tc⟩ := t
  simp only at hl hlx hly hm
  subst hl
  have hnb : ((n : Int) != (n : Int)) = false := by simp
  by_cases hn : n = 0
  · subst hn
    go_enter Tryd.func15, Tryd.ntmps15
    go_wp2
    go_loop [5] (fun i => i = .int .i64 0) (fun _ => 0)
    case atStart => rfl
    case round =>
      subst hrel
      go_wp2
      go_ret
      exact RB.mk' rfl (Below.refl _ _)
  obtain ⟨b, o, rfl⟩ : ∃ b o, sa = some ⟨b, o, none⟩ := by
    rcases hs.at_ with ⟨_, h0, _⟩ | ⟨b, o, h1, _⟩
    · exact absurd h0 hn
    · exact ⟨b, o, h1⟩
  obtain ⟨b', o', rfl⟩ : ∃ b o, ta = some ⟨b, o, none⟩ := by
    rcases ht.at_ with ⟨_, h0, _⟩ | ⟨b, o, h1, _⟩
    · exact absurd h0 hn
    · exact ⟨b, o, h1⟩
  replace hs := Lib.hid hs
  replace ht := Lib.hid ht
  replace h := Lib.hid h
  clear hn
  go_enter Tryd.func15, Tryd.ntmps15
  go_wp2
  go_loopw [5] (fun i wr => ∃ k : Nat, i = .int .i64 k ∧ k ≤ n ∧ Below w.heap.size w wr) (fun i _ => n - (intOf i).toNat)
  case atStart => exact ⟨0, rfl, by omega, Below.refl _ _⟩
  case round =>
    obtain ⟨k, rfl, hk, hB⟩ := hrel
    by_cases hlt : k < n
    · obtain ⟨x, hx⟩ : ∃ x, xs[k]? = some x := ⟨_, List.getElem?_eq_getElem (by rw [hlx.out]; exact hlt)⟩
      obtain ⟨y, hy⟩ : ∃ y, ys[k]? = some y := ⟨_, List.getElem?_eq_getElem (by rw [hly.out]; exact hlt)⟩
      have hxy : x.mp = y.mp := by
        have := congrArg (·[k]?) h.out
        simp only [List.getElem?_map, hx, hy, Option.map_some, Option.some.injEq] at this
        exact this
      have hS := Lib.hid (fun (V : World) (hb : Below w.heap.size w V) => (fp_same hxy ▸ Same_any x.p y.p x.os x.ds y.os y.ds V ((hs.out.pk x (List.mem_of_getElem? hx)).below hb) ((ht.out.pk y (List.mem_of_getElem? hy)).below hb) : Calls Tryd.prog 21 #[.agg (pkA x.p), .agg (pkA y.p)] V (RB (.bool true) V)))
      have stab := Lib.hid (fun (W W' : World) (h : Below w.heap.size w W) (hb : Below W.heap.size W W') => h.trans (hb.mono h.size))
      have hl1 := fun V : Wd (fun V => Below w.heap.size w V) => hs.out.load hx V.h
      have hl2 := fun V : Wd (fun V => Below w.heap.size w V) => ht.out.load hy V.h
      have hne : Nonempty (Wd (fun V => Below w.heap.size w V)) := ⟨⟨_, hB.drew⟩⟩
      replace hx := Lib.hid hx
      replace hy := Lib.hid hy
      clear hxy
      go_wp2
      refine wp_region_in (fun V => Below w.heap.size w V) (by kernel_rfl) (by kernel_rfl) hB.drew ?_
      repeat (any_goals (first | go_big_quiet_step ((go_at_call 21; exact call_ins stab.out (fun V => hS.out V.w V.h) _)) | quiet_step ((go_at_call 21; exact call_ins stab.out (fun V => hS.out V.w V.h) _))))
      refine wpQuiet_nil ?_
      rintro _ ⟨V, rfl⟩
      have hB := V.h
      go_wp2
      go_roundw
      case rel => exact ⟨k + 1, by go_num, by omega, hB⟩
      case measure => simp [intOf]; omega
    · go_wp2
      go_ret
      exact RB.mk' rfl hB

theorem cuts_bd {M : Nat} {b : Br} {more : Bool} {co : List Int} {N K : Nat} (hc : co.length ≤ N) : ∀ (k : Nat) (off : Int) (os ds : List Int), os.length ≤ N → ds.length ≤ K → ∀ m ∈ cuts M b more co k off os ds, m.os.length ≤ N ∧ m.ds.length ≤ K
  | 0, off, os, ds, h1, h2, m, hm => by
    rw [cuts] at hm
    obtain rfl := List.mem_singleton.1 hm
    exact ⟨h1, h2⟩
  | k + 1, off, os, ds, h1, h2, m, hm => by
    rw [cuts] at hm
    split at hm
    · obtain rfl := List.mem_singleton.1 hm
      exact ⟨h1, h2⟩
    · rcases List.mem_cons.1 hm with rfl | hm
      · exact ⟨h1, by simp; omega⟩
      · exact cuts_bd hc k _ _ _ hc (by simp; omega) m hm
theorem recutR_bd {p : Pk} {os ds co : List Int} {mtu : Int} {N K : Nat} (h1 : os.length ≤ N) (h2 : ds.length ≤ K) (hc : co.length ≤ N) : ∀ m ∈ (recutR p os ds co mtu).2, m.os.length ≤ N ∧ m.ds.length ≤ K := by
  intro m hm
  unfold recutR at hm
  split at hm
  · cases hm
  · split at hm
    · obtain rfl := List.mem_singleton.1 hm
      exact ⟨h1, h2⟩
    · split at hm
      · cases hm
      · exact cuts_bd hc _ _ _ _ h1 h2 m hm
theorem cuts_len {M : Nat} {b : Br} {more : Bool} {co : List Int} : ∀ (k : Nat) (off : Int) (os ds : List Int), (cuts M b more co k off os ds).length ≤ k + 1
  | 0, off, os, ds => by rw [cuts]; simp
  | k + 1, off, os, ds => by
    rw [cuts]
    split
    · simp
    · have := cuts_len (M := M) (b := b) (more := more) (co := co) k (off + ((M - 20 - os.length) / 8 * 8 : Nat)) co (ds.drop ((M - 20 - os.length) / 8 * 8))
      simp only [List.length_cons]; omega
theorem recutR_len {p : Pk} {os ds co : List Int} {mtu : Int} (hd : ds.length = p.d.n) : (recutR p os ds co mtu).2.length ≤ 65536 := by
  unfold recutR
  split
  · simp
  · rename_i h
    split
    · simp
    · split
      · simp
      · have h1 := right_nums (p := p) (os := os) (fun e => h (.inl e))
        have := cuts_len (M := mtu.toNat) (b := p.bare) (more := p.more) (co := co) ds.length p.off os ds
        simp only
        omega
theorem recutR_sizes (p : Pk) (os ds co : List Int) (mtu : Int) (s1 s2 : Sl) (h1 : s1.n = p.o.n) (h2 : s2.n = p.d.n) : recutR { p with o := s1, d := s2 } os ds co mtu = recutR p os ds co mtu := by
  have hh := headF_sizes p os s1 s2 p.o p.d h1 h2
  have e : ({ p with o := p.o, d := p.d } : Pk) = p := rfl
  rw [e] at hh
  unfold recutR
  rw [hh]
  rfl

/-- The program's Recut, with what is carried. -/
theorem recut_all (p : Pk) (os ds : List Int) (mtu : Int) (w : World) (hp : PkIn w p os ds) (hS : Sh w) : Calls Tryd.prog 11 #[.agg (pkA p), .int .i64 mtu] w (RL (recutR p os ds (carryF os) mtu) w) :=
  recut_any p os ds (carryF os) mtu w hp hS (fun _ _ _ _ => ⟨(carry_facts hp.o.rng).1, (carry_facts hp.o.rng).2, fun W hS hb => carry_any p.o os W hb hp.om hS⟩)

set_option maxRecDepth 100000 in
set_option maxHeartbeats 1000000 in
theorem cuts_law (p : Pk) (os ds : List Int) (mtu : Int) (w : World) (hp : PkIn w p os ds) (hS : Sh w) : Calls Tryd.prog 3 #[.agg (pkA p), .int .i64 mtu] w (RB (.bool true) w) := by
  have hX := (Bx.start w).alloc (pkA p) 28
  obtain ⟨hr, hl, hs, hd⟩ := pk_at hX.h0
  have hol := Lib.hid hp.o.len
  have hdl := Lib.hid hp.d.len
  have hbd := Lib.hid (recutR_bd (p := p) (os := os) (ds := ds) (co := carryF os) (mtu := mtu) (N := 140737488351232) (K := 140737488351232) (by rw [hol.out]; exact hp.om) (by rw [hdl.out]; exact hp.dm) (by have := (carry_facts hp.o.rng).1; have := hp.om; rw [← hol.out] at this; omega))
  have hown := Lib.hid (fun (V : World) (hb : Below w.heap.size w V) => lawown_any p os ds V (hp.below hb))
  have hrec := Lib.hid (fun (s1 s2 : Sl) (V : World) (hb : Below w.heap.size w V) (h1 : Bs V s1 os) (h2 : Bs V s2 ds) => (by
    have e1 : s1.n = p.o.n := by rw [← h1.len, hol.out]
    have e2 : s2.n = p.d.n := by rw [← h2.len, hdl.out]
    have := recut_all { p with o := s1, d := s2 } os ds mtu V ⟨h1, h2, by simp only; rw [e1]; exact hp.om, by simp only; rw [e2]; exact hp.dm⟩ (hS.below hb)
    rwa [recutR_sizes p os ds _ mtu s1 s2 e1 e2] at this : Calls Tryd.prog 11 #[.agg (pkA { p with o := s1, d := s2 }), .int .i64 mtu] V (RL (recutR p os ds (carryF os) mtu) V)))
  have href := Lib.hid (fun (V : World) (hb : Below w.heap.size w V) => rrecut_any p os ds mtu V (hp.below hb))
  have hln := Lib.hid (show (recutR p os ds (carryF os) mtu).2.length ≤ 925904528626 by have := recutR_len (p := p) (os := os) (co := carryF os) (mtu := mtu) hdl.out; omega)
  generalize recutR p os ds (carryF os) mtu = R at hbd hrec href hln
  obtain ⟨E, L⟩ := R
  go_enter Tryd.func3, Tryd.ntmps3
  go_wp2_with (first | go_big_skip | (go_at_call 12; (with_reducible refine (hown.out _ hX.bel).mono ?_); rintro e w1 ⟨s1, s2, rfl, hs1, hs2, hb⟩; have hX := hX.call hb; clear hb) | (go_at_call 11; (with_reducible refine (hrec.out s1 s2 _ hX.bel hs1.bs hs2.bs).mono ?_); rintro e w2 ⟨v, m, rfl, hrow, hb⟩; have hX := hX.call hb; obtain ⟨hr, hl, hs, hd⟩ := pk_at hX.h0; clear hb; obtain ⟨sx, xs, rfl, hsx, hpx, hmx⟩ := hrow.reads hbd.out; replace hsx := Lib.hid hsx; replace hmx := Lib.hid hmx; clear hrow) | (go_at_call 13; (with_reducible refine (href.out _ hX.bel).mono ?_); rintro e w3 ⟨v, m', rfl, hrow, hb⟩; have hX := hX.call hb; have hpx := hpx.below hb; clear hb; obtain ⟨sy, ys, rfl, hsy, hpy, hmy⟩ := hrow.reads hbd.out; replace hsy := Lib.hid hsy; replace hmy := Lib.hid hmy; clear hrow) | (go_at_call 14; (with_reducible refine (known_any _ (hS.below hX.bel)).mono ?_); rintro e w4 ⟨rfl, hb⟩; have hX := hX.call hb; have hpx := hpx.below hb; have hpy := hpy.below hb; clear hb) | (go_at_call 15; (with_reducible refine (lsame_any sx sy xs ys _ hpx hpy (hmx.out.trans hmy.out.symm) (by rw [← hpx.len, ← List.length_map (f := Fp.mp), hmx.out]; exact hln.out)).mono ?_); rintro e w5 ⟨rfl, hb⟩; have hX := hX.call hb; clear hb))
  go_ret
  exact RB.mk' rfl hX.bel
end Go.Proofs.YtleokgmflelkcaaDoor
