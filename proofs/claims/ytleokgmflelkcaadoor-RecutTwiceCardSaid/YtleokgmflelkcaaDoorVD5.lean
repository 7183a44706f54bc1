/- RecutJoins: the law, walked. -/
import Derived.Test.YtleokgmflelkcaaDoorVD3
import Derived.Test.YtleokgmflelkcaaDoorVD4
set_option linter.unusedSimpArgs false
set_option linter.unusedVariables false
namespace Go.Proofs.YtleokgmflelkcaaDoor
open Go Go.RowKit

/-- The packet out of what it is. -/
def Mp.fp (m : Mp) : Fp := ⟨⟨m.b.v, m.b.tos, m.b.flow, m.b.src, m.b.dst, m.b.proto, m.b.ttl, m.b.id, m.b.df, m.more, m.b.frag, m.off, ⟨none, m.os.length, 0⟩, ⟨none, m.ds.length, 0⟩⟩, m.os, m.ds⟩
def cn (x : Fp) : Fp := x.mp.fp
def Lens (l : List Fp) : Prop := ∀ x ∈ l, x.ds.length = x.p.d.n ∧ x.os.length = x.p.o.n
theorem cn_p (x : Fp) : (cn x).p = { x.p with o := ⟨none, x.os.length, 0⟩, d := ⟨none, x.ds.length, 0⟩ } := rfl
theorem cn_right {x : Fp} (h : x.ds.length = x.p.d.n ∧ x.os.length = x.p.o.n) : rightF (cn x).p (cn x).os = rightF x.p x.os := by
  show rightF { x.p with o := ⟨none, x.os.length, 0⟩, d := ⟨none, x.ds.length, 0⟩ } x.os = _
  rw [rightF_sizes x.p x.os ⟨none, x.os.length, 0⟩ ⟨none, x.ds.length, 0⟩ x.p.o x.p.d h.2 h.1]
theorem cn_ends (x : Fp) : endsF (cn x) = endsF x := rfl
theorem cn_ovl (x y : Fp) : ovl (cn x) (cn y) = ovl x y := rfl
theorem cn_any (x : Fp) (l : List Fp) : (l.map cn).any (ovl (cn x)) = l.any (ovl x) := by
  rw [List.any_map]; rfl
theorem fitsGo_cn {k0 : Ky} {L : List Fp} : ∀ (r : List Fp) (i : Nat) (e : Int), Lens r → fitsGo k0 (L.map cn) i e (r.map cn) = fitsGo k0 L i e r
  | [], i, e, h => rfl
  | x :: r, i, e, h => by
    rw [List.map_cons, fitsGo, fitsGo, cn_right (h x (by simp)), ← List.map_take, cn_any, cn_ends, fitsGo_cn r _ _ (fun y hy => h y (List.mem_cons_of_mem _ hy))]
    rfl
theorem fitsR_cn {l : List Fp} (h : Lens l) : fitsR (l.map cn) = fitsR l := by
  cases l with
  | nil => rfl
  | cons x l =>
    show (match fitsGo x.p.key ((x :: l).map cn) 0 (-1) ((x :: l).map cn) with | none => none | some e => if 0 ≤ e ∧ ((x :: l).map cn).any (behind e) = true then none else some e) = fitsR (x :: l)
    rw [fitsGo_cn _ _ _ h]
    unfold fitsR
    simp only
    cases fitsGo x.p.key (x :: l) 0 (-1) (x :: l) with
    | none => rfl
    | some e =>
      have : ((x :: l).map cn).any (behind e) = (x :: l).any (behind e) := by rw [List.any_map]; rfl
      simp only
      rw [this]
theorem getAt_cn (l : List Fp) (off : Int) : getAt (l.map cn) off = (getAt l off).map cn := by
  unfold getAt
  rw [List.find?_map]; rfl
theorem refGo_cn {l : List Fp} {e : Int} : ∀ (k : Nat) (ds : List Int), refGo (l.map cn) e k ds = refGo l e k ds
  | 0, ds => rfl
  | k + 1, ds => by
    rw [refGo, refGo, getAt_cn]
    cases getAt l ds.length with
    | none => rfl
    | some x => simp only [Option.map_some]; rw [refGo_cn k]; rfl
def JR.mp (r : JR) : Mp := r.p.mp r.os r.ds
theorem refR_cn {l : List Fp} (h : Lens l) : (refR (l.map cn)).e = (refR l).e ∧ (refR (l.map cn)).mp = (refR l).mp := by
  unfold refR
  rw [fitsR_cn h]
  cases fitsR l with
  | none => exact ⟨rfl, rfl⟩
  | some e =>
    simp only
    by_cases he : e < 0
    · rw [if_pos he, if_pos he]; exact ⟨rfl, rfl⟩
    · rw [if_neg he, if_neg he, getAt_cn]
      cases hg : getAt l 0 with
      | none => exact ⟨rfl, rfl⟩
      | some x =>
        simp only [Option.map_some]
        have hx : x ∈ l := List.mem_of_find?_eq_some hg
        have hds : (cn x).ds = x.ds := rfl
        rw [refGo_cn, hds]
        cases refGo l e e.toNat x.ds with
        | none => exact ⟨rfl, rfl⟩
        | some ds =>
          simp only
          have hr : rightF { joinW (cn x).p with d := ⟨none, ds.length, 0⟩ } (cn x).os = rightF { joinW x.p with d := ⟨none, ds.length, 0⟩ } x.os := by
            have e1 : ({ joinW (cn x).p with d := ⟨none, ds.length, 0⟩ } : Pk) = { joinW x.p with o := ⟨none, x.os.length, 0⟩, d := ⟨none, ds.length, 0⟩ } := by
              unfold joinW
              rw [cn_p]
              simp only
              split <;> rfl
            have e2 := rightF_sizes (joinW x.p) x.os ⟨none, x.os.length, 0⟩ ⟨none, ds.length, 0⟩ (joinW x.p).o ⟨none, ds.length, 0⟩ (by rw [joinW_o]; exact (h x hx).2) rfl
            rw [e1]
            exact e2
          rw [hr]
          split
          · exact ⟨rfl, rfl⟩
          · refine ⟨rfl, ?_⟩
            unfold JR.mp joinW
            rw [cn_p]
            simp only
            split <;> rfl
theorem refR_alike {xs l : List Fp} (h : xs.map Fp.mp = l.map Fp.mp) (h1 : Lens xs) (h2 : Lens l) : (refR xs).e = (refR l).e ∧ (refR xs).mp = (refR l).mp := by
  have e : xs.map cn = l.map cn := by
    have : ∀ l : List Fp, l.map cn = (l.map Fp.mp).map Mp.fp := fun l => by rw [List.map_map]; rfl
    rw [this, this, h]
  have a := refR_cn h1
  have b := refR_cn h2
  rw [e] at a
  exact ⟨a.1.symm.trans b.1, a.2.symm.trans b.2⟩
theorem refR_bd {l : List Fp} (hl : ∀ x ∈ l, x.os.length ≤ 140737488351232) : (refR l).os.length ≤ 140737488351232 ∧ (refR l).ds.length ≤ 65535 := by
  unfold refR
  split
  · exact ⟨by decide, by decide⟩
  · split
    · exact ⟨by decide, by decide⟩
    · split
      · exact ⟨by decide, by decide⟩
      · rename_i x hg
        split
        · exact ⟨by decide, by decide⟩
        · split
          · exact ⟨by decide, by decide⟩
          · rename_i ds _ hr
            have hr' : rightF { joinW x.p with d := ⟨none, ds.length, 0⟩ } x.os = true := by
              cases h : rightF { joinW x.p with d := ⟨none, ds.length, 0⟩ } x.os
              · exact absurd h hr
              · rfl
            have := right_nums' hr'
            simp only at this
            exact ⟨hl x (List.mem_of_find?_eq_some hg), by simp only; omega⟩
theorem sameP_mp {p q : Pk} {os ds os' ds' : List Int} (h : p.mp os ds = q.mp os' ds') : sameP p q os ds os' ds' = true := by
  simp only [Pk.mp, Mp.mk.injEq] at h
  obtain ⟨h1, h2, h3, h4, h5⟩ := h
  simp [sameP, h1, h2, h3, h4, h5]

/-- A packet with its lists and an error's number came back. -/
def RM (E : Int) (m : Mp) (w : World) (e : Ending) (w' : World) : Prop :=
  ∃ (q : Pk) (os ds : List Int), e = .returned (.tuple #[.agg (pkA q), .int .i64 E]) ∧ q.mp os ds = m ∧ Own w.heap.size w' q.o os ∧ Own w.heap.size w' q.d ds ∧ os.length ≤ 140737488351232 ∧ ds.length ≤ 140737488351232 ∧ Below w.heap.size w w'
theorem RR.m {r : JR} {E : Int} {m : Mp} {w w' : World} {e : Ending} (h : RR r w e w') (h1 : r.e = E) (h2 : r.mp = m) (h3 : r.os.length ≤ 140737488351232 ∧ r.ds.length ≤ 65535) : RM E m w e w' := by
  obtain ⟨s1, s2, rfl, ho, hd, hb⟩ := h
  exact ⟨{ r.p with o := s1, d := s2 }, r.os, r.ds, by rw [h1], h2, ho, hd, h3.1, by omega, hb⟩
theorem PkS.lens' {w : World} {s : Sl} {l : List Fp} (h : PkS w s l) : Lens l := fun x hx => ⟨(h.pk x hx).d.len, (h.pk x hx).o.len⟩
theorem PkS.oslen {w : World} {s : Sl} {l : List Fp} (h : PkS w s l) : ∀ x ∈ l, x.os.length ≤ 140737488351232 := fun x hx => by rw [(h.pk x hx).o.len]; exact (h.pk x hx).om
theorem joinM (s sx : Sl) (l xs : List Fp) (w W : World) (hs : PkS w s l) (hx : PkS W sx xs) (h : xs.map Fp.mp = l.map Fp.mp) (hm : sx.n ≤ 925904528626) (hS : Sh W) : Calls Tryd.prog 19 #[.slice sx.a sx.n sx.c] W (RM (refR l).e (refR l).mp W) := by
  obtain ⟨a, b⟩ := refR_alike h hx.lens' hs.lens'
  refine (join_any sx xs W hx hm hS).mono fun e w' hq => ?_
  obtain ⟨σ, s1, s2, hσ, ho, he, h1, h2, hb⟩ := hq
  rw [join_ref xs σ (fun x hx' => (hx.lens' x hx').1) hσ ho] at he h1 h2
  exact RR.m ⟨s1, s2, he, h1, h2, hb⟩ a b (refR_bd hx.oslen)
theorem rjoinM (s : Sl) (l : List Fp) (w : World) (hs : PkS w s l) (hm : s.n ≤ 925904528626) : Calls Tryd.prog 20 #[.slice s.a s.n s.c] w (RM (refR l).e (refR l).mp w) :=
  (rjoin_any s l w hs hm).mono fun e w' hq => hq.m rfl rfl (refR_bd hs.oslen)

set_option maxRecDepth 100000 in
set_option maxHeartbeats 1000000 in
theorem joins_any (s : Sl) (l : List Fp) (w : World) (hs : PkS w s l) (hm : s.n ≤ 925904528626) (hS : Sh w) : Calls Tryd.prog 5 #[.slice s.a s.n s.c] w (RB (.bool true) w) := by
  have hX := Bx.start w
  have hol := Lib.hid (fun x (hx : x ∈ l) => (hs.pk x hx))
  have hlens := Lib.hid hs.lens'
  have hlen := Lib.hid hs.len
  have hown := Lib.hid (fun (V : World) (hb : Below w.heap.size w V) => owns_any s l V (hs.below hb) hm)
  have hj := Lib.hid (fun (sx : Sl) (xs : List Fp) (W : World) (hx : PkS W sx xs) (h : xs.map Fp.mp = l.map Fp.mp) (hm : sx.n ≤ 925904528626) (hS : Sh W) => joinM s sx l xs w W hs hx h hm hS)
  have hrj := Lib.hid (fun (V : World) (hb : Below w.heap.size w V) => rjoinM s l V (hs.below hb) hm)
  generalize (refR l).e = E at hj hrj
  generalize (refR l).mp = M at hj hrj
  replace hs := Lib.hid hs
  go_enter Tryd.func5, Tryd.ntmps5
  go_wp2_with (first | go_big_skip | (go_at_call 17; (with_reducible refine (hown.out _ hX.bel).mono ?_); rintro e w1 ⟨v, rfl, hrow, hb⟩; have hX := hX.call hb; clear hb; obtain ⟨sx, xs, rfl, hsx, hpx, hmp⟩ := hrow.reads (by intro m hm'; obtain ⟨x, hx, rfl⟩ := List.mem_map.1 hm'; exact ⟨by show x.os.length ≤ _; rw [(hlens.out x hx).2]; exact (hol.out x hx).om, by show x.ds.length ≤ _; rw [(hlens.out x hx).1]; exact (hol.out x hx).dm⟩); have hsn : sx.n ≤ 925904528626 := (by rw [hsx, List.length_map, hlen.out]; exact hm); replace hsx := Lib.hid hsx; replace hmp := Lib.hid hmp; clear hrow) | (go_at_call 19; ((with_reducible refine (hj.out sx xs _ hpx hmp.out hsn (hS.below hX.bel)).mono ?_); rintro e w2 ⟨q1, os1, ds1, rfl, hq1, ho1, hd1, hl1, hl1', hb⟩; replace hq1 := Lib.hid hq1; have ho1 := ho1.mono hX.bel.size; have hd1 := hd1.mono hX.bel.size; have hX := hX.call hb; clear hb)) | (refine wpList_storeA_bx rfl 28 (.tmp 3) (.tmp 11) rfl _ _ rfl rfl (bs := []) (hX.alloc (pkA zPk) 28) (by rw [pkA_size]; exact i28) ((pkA_size _).trans (pkA_size _).symm) (pkA_one _) ?_; intro W3 hX3 hg; have hX3 : Bx w W3 [_] := hX3; have ho1 := (ho1.alloc _).box (heap_alloc_new _ _) (by decide) hg; have hd1 := (hd1.alloc _).box (heap_alloc_new _ _) (by decide) hg; clear hg; dsimp only [Act.put]) | (go_at_call 20; ((with_reducible refine (hrj.out _ hX3.bel).mono ?_); rintro e w4 ⟨q2, os2, ds2, rfl, hq2, ho2, hd2, hl2, hl2', hb⟩; replace hq2 := Lib.hid hq2; have ho2 := ho2.mono hX3.bel.size; have hd2 := hd2.mono hX3.bel.size; have ho1 := ho1.below hb; have hd1 := hd1.below hb; have hX3 := hX3.call hb; clear hb)) | (refine wpList_storeA_bx rfl 28 (.tmp 5) (.tmp 16) rfl _ _ rfl rfl (bs := []) (hX3.alloc (pkA zPk) 28) (by rw [pkA_size]; exact i28) ((pkA_size _).trans (pkA_size _).symm) (pkA_one _) ?_; intro W5 hX5 hg; have hX5 : Bx w W5 [_, _] := hX5; have ho1 := (ho1.alloc _).box (heap_alloc_new _ _) (by decide) hg; have hd1 := (hd1.alloc _).box (heap_alloc_new _ _) (by decide) hg; have ho2 := (ho2.alloc _).box (heap_alloc_new _ _) (by decide) hg; have hd2 := (hd2.alloc _).box (heap_alloc_new _ _) (by decide) hg; clear hg; dsimp only [Act.put]) | (go_at_call 14; ((with_reducible refine (known_any _ (hS.below hX5.bel)).mono ?_); rintro e w6 ⟨rfl, hb⟩; have ho1 := ho1.below hb; have hd1 := hd1.below hb; have ho2 := ho2.below hb; have hd2 := hd2.below hb; have hX6 := hX5.call hb; obtain ⟨hr3, hl3, _, _⟩ := pk_at hX6.h1; obtain ⟨hr5, hl5, _, _⟩ := pk_at hX6.h0; have hsame := Lib.hid (Same_any q1 q2 os1 ds1 os2 ds2 w6 ⟨ho1.bs, hd1.bs, by rw [← ho1.bs.len]; exact hl1, by rw [← hd1.bs.len]; exact hl1'⟩ ⟨ho2.bs, hd2.bs, by rw [← ho2.bs.len]; exact hl2, by rw [← hd2.bs.len]; exact hl2'⟩); rw [sameP_mp (hq1.out.trans hq2.out.symm)] at hsame; clear hb hX5)) | (go_at_call 21; ((with_reducible refine (hsame.out).mono ?_); rintro e w7 ⟨rfl, hb⟩; have hX7 := hX6.call hb; clear hb)))
  go_ret
  exact RB.mk' rfl hX7.bel
end Go.Proofs.YtleokgmflelkcaaDoor
