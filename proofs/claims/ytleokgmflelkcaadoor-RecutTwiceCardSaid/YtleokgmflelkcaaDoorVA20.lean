/- recut.Recut: the cut. recut.Recut, whole. -/
import Derived.Test.YtleokgmflelkcaaDoorVA18
set_option linter.unusedSimpArgs false
set_option linter.unusedVariables false
namespace Go.Proofs.YtleokgmflelkcaaDoor
open Go Go.RowKit

def lenOf : Value → Nat
  | .slice _ n _ => n
  | _ => 0

def RecRel (p : Pk) (os ds co : List Int) (M : Nat) (w : World) (b0 b8 B : Nat) (out : Value) (wr : World) : Prop :=
  ∃ (k : Nat) (l : List Mp) (so sd : Sl) (off : Int) (os' ds' : List Int),
    PkRow B wr out l.length l ∧ Bx w wr [(b8, 28, pkA { p with off := off, o := so, d := sd }), (b0, 28, pkA p)] ∧ B ≤ wr.heap.size ∧ Ho w wr so os' ∧ Bs w sd ds' ∧ so.n ≤ p.o.n ∧ sd.n ≤ p.d.n ∧
    right4F { p with off := off, o := so, d := sd } os' = true ∧ (l ≠ [] → os' = co) ∧ (l = [] → os' = os) ∧
    l ++ cuts M p.bare p.more co k off os' ds' = cuts M p.bare p.more co ds.length p.off os ds ∧ ds'.length ≤ k ∧ l.length + k = ds.length

structure RI (p q : Pk) (w : World) (b0 b8 B : Nat) (sx : Sl) (l : List Mp) (so : Sl) (os' : List Int) (V : World) : Prop where
  x : Bx w V [(b8, 28, pkA q), (b0, 28, pkA p)]
  r : PkRow B V (.slice sx.a sx.n sx.c) l.length l
  s : B ≤ V.heap.size
  h : Ho w V so os'
theorem RI.call {p q : Pk} {w : World} {b0 b8 B : Nat} {sx : Sl} {l : List Mp} {so : Sl} {os' : List Int} {W W' : World} (h : RI p q w b0 b8 B sx l so os' W) (hb : Below W.heap.size W W') : RI p q w b0 b8 B sx l so os' W' :=
  ⟨h.x.call hb, h.r.below hb, Nat.le_trans h.s hb.size, h.h.below hb⟩
theorem RI.drew {p q : Pk} {w : World} {b0 b8 B : Nat} {sx : Sl} {l : List Mp} {so : Sl} {os' : List Int} {W : World} (h : RI p q w b0 b8 B sx l so os' W) : RI p q w b0 b8 B sx l so os' W.drew :=
  h.call ((Below.refl _ _).drew)

theorem RI.box {p q q' : Pk} {w : World} {b0 b8 B : Nat} {sx : Sl} {l : List Mp} {so : Sl} {os' : List Int} {W W' : World} (h : RI p q w b0 b8 B sx l so os' W) {b : Nat} {t : TypeId} {c : Array Value} (hb : W.heap[b]? = some (.cells c t (0, 0))) (ht : t ≠ 5) (hg : W.grownBy W' (some b))
    (hx : Bx w W' [(b8, 28, pkA q'), (b0, 28, pkA p)]) (hne : (Value.slice sx.a sx.n sx.c).ownBlock ≠ some b) : RI p q' w b0 b8 B sx l so os' W' :=
  ⟨hx, h.r.box hb ht hg hne, Nat.le_trans h.s hg.size, h.h.box hb ht hg⟩
theorem RI.alloc {p q : Pk} {w : World} {b0 b8 B : Nat} {sx : Sl} {l : List Mp} {so : Sl} {os' : List Int} {W : World} (h : RI p q w b0 b8 B sx l so os' W) (o : Obj) : RI p q w b0 b8 B sx l so os' (W.alloc o) :=
  h.call ((Below.refl _ _).alloc (Nat.le_refl _) _)
theorem RI.fresh {p q : Pk} {w : World} {b0 b8 B : Nat} {sx : Sl} {l : List Mp} {so : Sl} {os' : List Int} {W : World} (h : RI p q w b0 b8 B sx l so os' W) : (Value.slice sx.a sx.n sx.c).ownBlock ≠ some W.heap.size := fun e => absurd (h.r.lt _ e).2 (Nat.lt_irrefl _)
theorem RI.old {p q : Pk} {w : World} {b0 b8 B : Nat} {sx : Sl} {l : List Mp} {so : Sl} {os' : List Int} {W : World} (h : RI p q w b0 b8 B sx l so os' W) {b : Nat} (hb : b < B) : (Value.slice sx.a sx.n sx.c).ownBlock ≠ some b := fun e => absurd (h.r.lt _ e).1 (Nat.not_le.2 hb)
theorem RI.app {p q : Pk} {w : World} {b8 B : Nat} {sx : Sl} {l : List Mp} {so : Sl} {os' : List Int} {W W' : World} (h : RI p q w w.heap.size b8 B sx l so os' W) {sy : Sl} {m : Mp} (hr : PkRow B W' (.slice sy.a sy.n sy.c) (l.length + 1) (l ++ [m])) (hb : Below B W W') (hk : ∀ (B' : Nat) (s : Sl) (xs : List Int), Own B' W s xs → Own B' W' s xs) (h8 : b8 < B) (h0 : w.heap.size < B) :
    RI p q w w.heap.size b8 B sy (l ++ [m]) so os' W' :=
  ⟨h.x.call' hb (Nat.le_of_lt h0) (fun x hx => by
    simp only [List.mem_cons, List.not_mem_nil, or_false] at hx
    rcases hx with rfl | rfl
    · exact h8
    · exact h0), by rw [List.length_append]; exact hr, Nat.le_trans h.s hb.size, h.h.elim .inl (fun h => .inr (hk _ _ _ h))⟩
theorem RI.pkin {p q : Pk} {w : World} {b0 b8 B : Nat} {sx : Sl} {l : List Mp} {so sd : Sl} {os' ds' : List Int} {W : World} (h : RI p q w b0 b8 B sx l so os' W) (hsd : Bs w sd ds') (h1 : so.n ≤ 140737488351232) (h2 : sd.n ≤ 140737488351232) (q' : Pk) (ho : q'.o = so) (hd : q'.d = sd) : PkIn W q' os' ds' :=
  ⟨by rw [ho]; exact h.h.bs h.x.bel, by rw [hd]; exact hsd.below h.x.bel, by rw [ho]; exact h1, by rw [hd]; exact h2⟩

set_option maxRecDepth 100000 in
set_option maxHeartbeats 1000000 in
theorem recut_cut (p : Pk) (os ds co : List Int) (M : Nat) (w : World) (hp : PkIn w p os ds) (hS : Sh w) (h1 : (68 : Int) ≤ M) (h2 : (M : Int) ≤ 65535) (h0 : right4F p os = true) (h3 : (M : Int) < 20 + p.o.n + ds.length) (h5 : p.df = false)
    (hcl : co.length ≤ os.length) (hcv : validO co = true) (hcar : ∀ W, Sh W → Bs W p.o os → Calls Tryd.prog 27 #[.slice p.o.a p.o.n p.o.c] W (RS co W)) :
    Calls Tryd.prog 11 #[.agg (pkA p), .int .i64 M] w (RL (0, cuts M p.bare p.more co ds.length p.off os ds) w) := by
  have hX := (Bx.start w).alloc (pkA p) 28
  obtain ⟨hr, hl, hs, hd⟩ := pk_at hX.h0
  obtain ⟨hn1, hn2, hn3, hn4, hn5, hn6⟩ := right4_nums h0
  have hH : headF p os = (20 : Int) + (p.o.n : Int) := by rw [headF_right hn6, if_pos h0]
  generalize hHH : headF p os = H at *
  subst hH
  have hol := Lib.hid hp.o.len
  have hdl := Lib.hid hp.d.len
  have h0' : (((20 : Int) + (p.o.n : Int)) == 0) = false := by simp; omega
  have h3' : (M : Int) < 20 + (p.o.n : Int) + (p.d.n : Int) := by rw [hp.d.len] at h3; exact h3
  have h6 : (p.v != 4) = false := by simp [hn6]
  have h0h := Lib.hid h0
  clear h0 h3
  go_enter Tryd.func11, Tryd.ntmps11
  go_wp2_with (first | (go_at_call 31; (with_reducible refine (head_any p os ds _ (hp.below hX.bel) (hS.below hX.bel)).mono ?_); rintro e w1 ⟨rfl, hb⟩; rw [hHH]; have hX := hX.call hb; obtain ⟨hr, hl, hs, hd⟩ := pk_at hX.h0; clear hb) | (refine wpList_storeA_bx rfl 28 (.tmp 8) (.tmp 43) rfl _ _ rfl rfl (bs := []) (hX.alloc (pkA zPk) 28) (by rw [pkA_size]; exact i28) (by rw [pkA_size, pkA_size]) (pkA_one _) ?_; intro W1 hX hg; obtain ⟨hr, hl, hs, hd⟩ := pk_at hX.h1; obtain ⟨hr', hl', hs', hd'⟩ := pk_at hX.h0; clear hg))
  have hX : Bx w W1 [(w1.heap.size, 28, pkA p), (w.heap.size, 28, pkA p)] := hX
  generalize hb8 : w1.heap.size = b8 at *
  have hlt8 : b8 < W1.heap.size := hX.lt (b8, 28, pkA p) (by simp)
  have hlt0 : w.heap.size < W1.heap.size := hX.lt (w.heap.size, 28, pkA p) (by simp)
  have hbel1 := hX.bel
  generalize hBB : W1.heap.size = B at *
  try dsimp only [Act.put]
  go_loopw [7] (fun out wr => RecRel p os ds co M w w.heap.size b8 B out wr) (fun out _ => ds.length + 1 - lenOf out)
  case atStart =>
    exact ⟨ds.length, [], p.o, p.d, p.off, os, ds, PkRow.nil _ _, hX, Nat.le_of_eq hBB.symm, .inl hp.o, hp.d, Nat.le_refl _, Nat.le_refl _, h0h.out, fun h => absurd rfl h, fun _ => rfl, rfl, Nat.le_refl _, by simp⟩
  case round =>
    clear hX hr hl hs hd hr' hl' hs' hd'
    obtain ⟨k, l, so, sd, off, os', ds', hrow, hX, hBr, hso, hsd, hsn, hdn, hq, hco, hco', htot, hk, hlk⟩ := hrel
    obtain ⟨-, sx, rfl, hsx⟩ := hrow.form
    generalize hqq : { p with off := off, o := so, d := sd } = q at *
    obtain ⟨hm1, hm2, hm3, hm4, hm5, hm6⟩ := right4_nums hq
    have hqo : q.o = so := by rw [← hqq]
    have hqd : q.d = sd := by rw [← hqq]
    have hqoff : q.off = off := by rw [← hqq]
    rw [hqo, hqd] at hm3
    rw [hqd] at hm4
    rename_i wr
    have hI0 : RI p q w w.heap.size b8 B sx l so os' wr := ⟨hX, hrow, hBr, hso⟩
    have hI := hI0.drew
    have hol' := Lib.hid (hso.bs hX.bel).len
    have hdl' := Lib.hid hsd.len
    have stab := Lib.hid (fun (W W' : World) (h : RI p q w w.heap.size b8 B sx l so os' W) (hb : Below W.heap.size W W') => h.call hb)
    have hpk := Lib.hid (fun (V : World) (h : RI p q w w.heap.size b8 B sx l so os' V) => (⟨by rw [hqo]; exact h.h.bs h.x.bel, by rw [hqd]; exact hsd.below h.x.bel, by rw [hqo]; omega, by rw [hqd]; omega⟩ : PkIn V q os' ds'))
    have hhd := Lib.hid (show headF q os' = (20 : Int) + (so.n : Int) by rw [headF_right hm6, if_pos hq, hqo])
    have hhead := Lib.hid (fun (V : World) (h : RI p q w w.heap.size b8 B sx l so os' V) => hhd.out ▸ head_any q os' ds' V (hpk.out V h) (hS.below h.x.bel))
    have hr := fun V : Wd (RI p q w w.heap.size b8 B sx l so os') => (pk_at V.h.x.h0).1
    have hl := fun V : Wd (RI p q w w.heap.size b8 B sx l so os') => (pk_at V.h.x.h0).2.1
    have hne : Nonempty (Wd (RI p q w w.heap.size b8 B sx l so os')) := ⟨⟨_, hI⟩⟩
    have hq := Lib.hid hq
    have hco := Lib.hid hco
    have hco' := Lib.hid hco'
    have htot := Lib.hid htot
    have hlk := Lib.hid hlk
    have h45 : (pkA q)[45]? = some (.slice sd.a sd.n sd.c) := by rw [pkA_45, hqd]
    have hln : l.length ≤ 925904528626 := by have := hlk.out; have := hdl.out; omega
    replace hm6 := Lib.hid hm6
    replace hn6 := Lib.hid hn6
    replace hqo := Lib.hid hqo
    replace hqd := Lib.hid hqd
    replace hqoff := Lib.hid hqoff
    replace hsx := Lib.hid hsx
    by_cases hfit : (20 : Int) + so.n + sd.n ≤ M
    · go_wp2
      refine wp_region_in (RI p q w w.heap.size b8 B sx l so os') (by kernel_rfl) (by kernel_rfl) hI ?_
      repeat (any_goals (first | go_big_quiet_step ((first | (go_at_call 31; exact call_ins stab.out (fun V => hhead.out V.w V.h) _))) | quiet_step ((first | (go_at_call 31; exact call_ins stab.out (fun V => hhead.out V.w V.h) _)))))
      refine wpQuiet_nil ?_
      rintro _ ⟨V, rfl⟩
      have hV := V.h
      generalize V.w = W2 at *
      clear hr hl hI0 hI hrow hX hBr hso
      obtain ⟨hr, hl, _, _⟩ := pk_at hV.x.h0
      go_wp2_with (first | (go_at_call 32; (with_reducible refine (recutown_any q os' ds' _ (hpk.out _ hV)).mono ?_); rintro e w3 ⟨s1, s2, rfl, hs1, hs2, hb⟩; have hs1 := hs1.mono hV.s; have hs2 := hs2.mono hV.s; have hV := hV.call hb; obtain ⟨hr, hl, _, _⟩ := pk_at hV.x.h0; clear hb) | (refine wpList_build_pk rfl (.tmp 89) rfl { q with o := s1, d := s2 } rfl ?_) | (at_builtin; refine wpList_append_pk rfl _ _ rfl B _ l.length l rfl (hV.call ((Below.refl _ _).alloc (Nat.le_refl _) _)).r { q with o := s1, d := s2 } (q.mp os' ds') _ rfl (heap_alloc_new _ _) ⟨rfl, rfl, rfl, hs1.alloc _, hs2.alloc _⟩ hln (size_le_alloc hV.s _) ?_; intro v' w4 hrow4 hb4 _))
      go_ret2
      have hb5 := (hV.x.bel.alloc hV.x.bel.size _).trans (hb4.mono (Nat.le_of_lt hlt0))
      have e : cuts M p.bare p.more co ds.length p.off os ds = l ++ [q.mp os' ds'] := by
        rw [← htot.out, cuts_last (by rw [hol'.out, hdl'.out]; omega), ← hqq]; rfl
      rw [e]
      exact ⟨_, _, rfl, hrow4.mono (Nat.le_of_lt hlt0), hb5⟩
    · have hfit : (M : Int) < 20 + so.n + sd.n := by omega
      clear hr hl
      obtain ⟨r, hr0⟩ : ∃ r : Nat, r = (M - 20 - so.n) / 8 * 8 := ⟨_, rfl⟩
      have h40 : so.n ≤ 40 := by have := hm5; simp only [validO, Bool.and_eq_true, decide_eq_true_eq] at this; rw [hol'.out] at this; exact this.1.1
      have hr1 : 0 < r := by omega
      have hr2 : r < sd.n := by omega
      have hroom : Int.tdiv ((M : Int) - (20 + (so.n : Int))) 8 * 8 = r := by
        rw [Int.tdiv_eq_ediv_of_nonneg (by omega)]; omega
      have hr8 : r % 8 = 0 := by omega
      replace hr0 := Lib.hid hr0
      obtain ⟨sa, sn, sc⟩ := sd
      obtain ⟨bd, od, rfl⟩ : ∃ bd od, sa = some ⟨bd, od, none⟩ := by
        rcases hsd.4 with ⟨h0, _⟩ | ⟨b, o, h1, _⟩
        · simp only at h0 hr2; omega
        · exact ⟨b, o, h1⟩
      simp only at hfit hr2 h45 hdl' hm3 hdn hm4
      have hcr : ¬ sc = r := by have := hsd.2; simp only at this; omega
      have hr2' : r ≤ sn := by omega
      have hrc : r ≤ sc := by have := hsd.2; simp only at this; omega
      have htake := Lib.hid (hsd.take r hr2')
      have hdrop := Lib.hid (hsd.drop r hr2')
      have hso1 : so.n ≤ 140737488351232 := by omega
      have hr3 : r ≤ 140737488351232 := by omega
      replace hfit := Lib.hid hfit
      obtain ⟨k, rfl⟩ : ∃ k', k = k' + 1 := ⟨k - 1, by have := hdl'.out; omega⟩
      have hst := Lib.hid (show (l ++ [⟨q.bare, true, q.off, os', ds'.take r⟩]) ++ cuts M p.bare p.more co k (q.off + r) co (ds'.drop r) = cuts M p.bare p.more co ds.length p.off os ds by
        have hR : (M - 20 - os'.length) / 8 * 8 = r := by rw [hol'.out]; exact hr0.out.symm
        rw [← htot.out, cuts_step (by have := hol'.out; have := hdl'.out; have := hfit.out; simp only at *; omega), hR, ← hqq]
        simp [Pk.bare])
      have hrt := Lib.hid (fun (so2 : Sl) (h1 : so2.n ≤ so.n) => right4_cut (p := q) (os := os') (co := co) (so := so2) (sd := ⟨some ⟨bd, od + r, none⟩, sn - r, sc - r⟩) (r := r) hq.out (by rw [hqd.out]; exact hr2) hr1 hr8 (by rw [hqd.out]) (by rw [hqo.out]; exact h1) hcv)
      have hgt : ((M : Int) < 20 + (so.n : Int) + (sn : Int)) := hfit.out
      have hr := fun V : Wd (RI p q w w.heap.size b8 B sx l so os') => (pk_at V.h.x.h0).1
      have hl := fun V : Wd (RI p q w w.heap.size b8 B sx l so os') => (pk_at V.h.x.h0).2.1
      go_wp2
      refine wp_region_in (RI p q w w.heap.size b8 B sx l so os') (by kernel_rfl) (by kernel_rfl) hI ?_
      repeat (any_goals (first | go_big_quiet_step ((first | (go_at_call 31; exact call_ins stab.out (fun V => hhead.out V.w V.h) _))) | quiet_step ((first | (go_at_call 31; exact call_ins stab.out (fun V => hhead.out V.w V.h) _)))))
      refine wpQuiet_nil ?_
      rintro _ ⟨V, rfl⟩
      have hV := V.h
      generalize V.w = W2 at *
      clear hr hl hI0 hI hrow hX hBr hso
      obtain ⟨hr, hl, _, _⟩ := pk_at hV.x.h0
      go_wp2_with (first | (go_at_call 31; (with_reducible refine (hhead.out _ hV).mono ?_); rintro e w3 ⟨rfl, hb⟩; have hV := hV.call hb; obtain ⟨hr, hl, _, _⟩ := pk_at hV.x.h0; clear hb) | (refine wpList_storeA_bx rfl 28 (.tmp 10) (.tmp 58) rfl _ _ rfl rfl (bs := []) (hV.x.alloc (pkA zPk) 28) (by rw [pkA_size]; exact i28) (by rw [pkA_size, pkA_size]) (pkA_one _) ?_; intro W4 hY hg; have hY : Bx w W4 [_, _, _] := hY; have hne10 := hV.fresh; have hV := (hV.alloc _).box (heap_alloc_new _ _) (by decide) hg hY.tail hne10; obtain ⟨hr, hl, hs, hd⟩ := pk_at hY.h1; obtain ⟨hr', hl', hs', hd'⟩ := pk_at hY.h0; clear hg) | (refine wpList_store_bx rfl 26 (.tmp 63) (.tmp 62) rfl _ 45 _ rfl rfl (bs := []) hY (size26 _) rfl rfl (by rw [pkA_size]; decide) _ (pkA_set_d _ _ _ _) ?_; intro W5 hY5 hg; have hY5 : Bx w W5 [_, _, _] := hY5; have hV := hV.box hY.h0 (by decide) hg hY5.tail hne10; obtain ⟨hr, hl, hs, hd⟩ := pk_at hY5.h1; obtain ⟨hr', hl', hs', hd'⟩ := pk_at hY5.h0; clear hg) | (refine wpList_store_bx rfl 4 (.tmp 64) (.const _) rfl _ 41 _ rfl rfl (bs := []) hY5 (size4 _) rfl rfl (by rw [pkA_size]; decide) _ (pkA_set_more _ _) ?_; intro W6 hY6 hg; have hY6 : Bx w W6 [_, _, _] := hY6; have hV := hV.box hY5.h0 (by decide) hg hY6.tail hne10; obtain ⟨hr, hl, hs, hd⟩ := pk_at hY6.h1; obtain ⟨hr', hl', hs', hd'⟩ := pk_at hY6.h0; clear hg) | (go_at_call 32; (with_reducible refine (recutown_any { q with more := true, d := ⟨some ⟨bd, od, none⟩, r, sc⟩ } os' (ds'.take r) _ (hV.pkin htake.out hso1 hr3 { q with more := true, d := ⟨some ⟨bd, od, none⟩, r, sc⟩ } hqo.out rfl)).mono ?_); rintro e w7 ⟨s1, s2, rfl, hs1, hs2, hb⟩; have hs1 := hs1.mono hV.s; have hs2 := hs2.mono hV.s; have hV := hV.call hb; obtain ⟨hr, hl, _, _⟩ := pk_at hV.x.h0; clear hb) | (refine wpList_build_pk rfl (.tmp 67) rfl { q with more := true, o := s1, d := s2 } rfl ?_) | (at_builtin; refine wpList_append_pk rfl _ _ rfl B _ l.length l rfl (hV.alloc _).r { q with more := true, o := s1, d := s2 } ⟨q.bare, true, q.off, os', ds'.take r⟩ _ rfl (heap_alloc_new _ _) ⟨rfl, rfl, rfl, hs1.alloc _, hs2.alloc _⟩ hln (size_le_alloc hV.s _) ?_; intro v' w8 hrow8 hb8' hk8; obtain ⟨-, sy, rfl, hsy⟩ := hrow8.form; replace hsy := Lib.hid hsy; have hV := (hV.alloc _).app hrow8 hb8' hk8 hlt8 hlt0; clear hrow8 hb8' hk8; obtain ⟨hr, hl, _, _⟩ := pk_at hV.x.h0))
      have hfz := fz_at hV.x.h0
      go_region
      obtain ⟨hY1, hg1⟩ := Bx.cell (bs := []) hV.x 43 (.int .i64 (q.off + r)) _ (pkA_set_off _ _)
      have hV1 := hV.box hV.x.h0 (by decide) hg1 hY1 (hV.old hlt8)
      obtain ⟨hY2, hg2⟩ := Bx.cell (bs := []) hV1.x 45 (.slice (some ⟨bd, od + r, none⟩) (sn - r) (sc - r)) _ (pkA_set_d _ _ _ _)
      have hV := (hV1.box hV1.x.h0 (by decide) hg2 hY2 (hV1.old hlt8)).drew
      clear hV1 hg1 hg2 hY1 hY2 hfz hr hl
      generalize World.drew (World.setCell (World.setCell _ _ _) _ _) = W9 at hV ⊢
      obtain ⟨hr, hl, _, _⟩ := pk_at hV.x.h0
      obtain ⟨hrp, hlp, _, _⟩ := pk_at hV.x.h1
      by_cases hl0 : l = []
      · have hE : ((sy.n : Int) == 1) = true := by rw [hsy.out, hl0]; rfl
        replace hl0 := Lib.hid hl0
        go_wp2_with (first | (go_at_call 27; (with_reducible refine (hcar _ (hS.below hV.x.bel) (hp.o.below hV.x.bel)).mono ?_); rintro e w10 ⟨s3, rfl, hs3, hb⟩; have hs3 := hs3.mono (show w.heap.size ≤ _ from hV.x.bel.size); have hV := hV.call hb; obtain ⟨hr, hl, _, _⟩ := pk_at hV.x.h0; clear hb) | (refine wpList_store_bx rfl 26 (.tmp 86) (.tmp 85) rfl _ 44 _ rfl rfl (bs := []) hV.x (size26 _) rfl rfl (by rw [pkA_size]; decide) _ (pkA_set_o _ _ _ _) ?_; intro W11 hY hg; have hs3 := hs3.box hV.x.h0 (by decide) hg; have hV := hV.box hV.x.h0 (by decide) hg hY (hV.old hlt8); clear hg))
        go_roundw
        case rel =>
          have hlen3 := hs3.bs.len
          have ho3 := hco'.out hl0.out
          subst hqq
          exact ⟨k, _, s3, _, _, co, ds'.drop r, hV.r, hV.x, hV.s, .inr hs3, hdrop.out, by have := hol.out; omega, by simp only; omega, hrt.out s3 (by have := hol'.out; rw [ho3] at this; omega), fun _ => rfl, fun h => by simp at h, hst.out, by have := hdl'.out; simp; omega, by have := hlk.out; simp; omega⟩
        case measure => simp only [lenOf]; rw [hsy.out, hsx.out]; have := hlk.out; omega
      · have hE : ((sy.n : Int) == 1) = false := by
          rw [hsy.out]; have := List.length_pos_iff.2 hl0; simp; omega
        replace hl0 := Lib.hid hl0
        go_wp2
        go_roundw
        case rel =>
          have ho3 := hco.out hl0.out
          subst hqq
          exact ⟨k, _, so, _, _, co, ds'.drop r, hV.r, hV.x, hV.s, ho3 ▸ hV.h, hdrop.out, hsn, by simp only; omega, hrt.out so (Nat.le_refl _), fun _ => rfl, fun h => by simp at h, hst.out, by have := hdl'.out; simp; omega, by have := hlk.out; simp; omega⟩
        case measure => simp only [lenOf]; rw [hsy.out, hsx.out]; have := hlk.out; omega
end Go.Proofs.YtleokgmflelkcaaDoor
namespace Go.Proofs.YtleokgmflelkcaaDoor
open Go Go.RowKit

theorem headF_nums {p : Pk} {os : List Int} (hl : os.length = p.o.n) : 0 ≤ headF p os ∧ headF p os ≤ 100000 := by
  unfold headF
  by_cases h : rightF p os = true
  · rw [if_pos h]
    unfold rightF at h
    by_cases h4 : p.v = 4
    · rw [if_pos h4] at h ⊢
      have := right4_nums h
      omega
    · rw [if_neg h4]
      unfold head6F
      split <;> decide
  · rw [if_neg h]; decide

/-- Recut of any packet; of Carry is asked only what it is asked for: on a right packet of IPv4 that is cut. -/
theorem recut_any (p : Pk) (os ds co : List Int) (mtu : Int) (w : World) (hp : PkIn w p os ds) (hS : Sh w)
    (hcar : right4F p os = true → mtu < 20 + p.o.n + ds.length → 68 ≤ mtu → p.df = false → co.length ≤ os.length ∧ validO co = true ∧ ∀ W, Sh W → Bs W p.o os → Calls Tryd.prog 27 #[.slice p.o.a p.o.n p.o.c] W (RS co W)) :
    Calls Tryd.prog 11 #[.agg (pkA p), .int .i64 mtu] w (RL (recutR p os ds co mtu) w) := by
  unfold recutR
  by_cases h1 : headF p os = 0 ∨ mtu < 68 ∨ mtu > 65535
  · rw [if_pos h1]; exact recut_err p os ds mtu w hp hS h1
  rw [if_neg h1]
  have hn := headF_nums hp.o.len
  have h1' : headF p os ≠ 0 ∧ 68 ≤ mtu ∧ mtu ≤ 65535 := ⟨fun h => h1 (.inl h), by omega, by omega⟩
  by_cases h2 : headF p os + ds.length ≤ mtu
  · rw [if_pos h2]; exact recut_whole p os ds mtu w hp hS h1'.1 h1'.2.1 h1'.2.2 h2 hn.1
  rw [if_neg h2]
  by_cases h3 : p.v ≠ 4 ∨ p.df = true
  · rw [if_pos h3]; exact recut_big p os ds mtu w hp hS h1'.1 h1'.2.1 h1'.2.2 h2 hn h3
  rw [if_neg h3]
  have h4 : p.v = 4 := by by_cases h : p.v = 4; exact h; exact absurd (.inl h) h3
  have h5 : p.df = false := by cases h : p.df; rfl; exact absurd (.inr h) h3
  have h6 := headF_right (os := os) h4
  have h7 : right4F p os = true := by
    cases h : right4F p os
    · rw [h] at h6; exact absurd (by simpa using h6) h1'.1
    · rfl
  rw [h7, if_pos rfl] at h6
  obtain ⟨hc1, hc2, hc3⟩ := hcar h7 (by omega) h1'.2.1 h5
  obtain ⟨M, rfl⟩ : ∃ M : Nat, mtu = M := ⟨mtu.toNat, by omega⟩
  rw [Int.toNat_natCast]
  exact recut_cut p os ds co M w hp hS h1'.2.1 h1'.2.2 h7 (by omega) h5 hc1 hc2 hc3
end Go.Proofs.YtleokgmflelkcaaDoor
