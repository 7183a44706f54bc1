/- The law's right: its parts. -/
import Derived.Test.YtleokgmflelkcaaDoorVB8
import Derived.Deep.DeepCutAuto
import Derived.Deep.RegionLaw
set_option linter.unusedSimpArgs false
set_option linter.unusedVariables false
namespace Go.Proofs.YtleokgmflelkcaaDoor
open Go Go.RowKit

/-- The first k bytes of an address of version 4. -/
def adrK (a : Adr) (k : Nat) : Adr := ⟨4, a.b.take k ++ List.replicate (16 - min k 16) 0, by have := a.hb; simp; omega, by
  intro x hx
  rcases List.mem_append.1 hx with h | h
  · exact a.hr x (List.mem_of_mem_take h)
  · rw [List.eq_of_mem_replicate h]; decide⟩
/-- right's packet ahead of its addresses. -/
def r0 (t pr tt i : Int) : Pk := ⟨4, t, 0, adrK zAdr 0, adrK zAdr 0, pr, tt, i, false, false, false, 0, ⟨none, 0, 0⟩, ⟨none, 0, 0⟩⟩
theorem r0_fold (t pr tt i : Int) : (#[.int .i64 4, .int .i64 t, .int .i64 0, .int .i64 4, .int .u8 0, .int .u8 0, .int .u8 0, .int .u8 0, .int .u8 0, .int .u8 0, .int .u8 0, .int .u8 0, .int .u8 0, .int .u8 0, .int .u8 0, .int .u8 0, .int .u8 0, .int .u8 0, .int .u8 0, .int .u8 0, .int .i64 4, .int .u8 0, .int .u8 0, .int .u8 0, .int .u8 0, .int .u8 0, .int .u8 0, .int .u8 0, .int .u8 0, .int .u8 0, .int .u8 0, .int .u8 0, .int .u8 0, .int .u8 0, .int .u8 0, .int .u8 0, .int .u8 0, .int .i64 pr, .int .i64 tt, .int .u32 i, .bool false, .bool false, .bool false, .int .i64 0, .slice none 0 0, .slice none 0 0] : Array Value) = pkA (r0 t pr tt i) := by unfold pkA; rfl

theorem adrK_set (a : Adr) (q : Pk) (k : Nat) (hk : k < 4) : (pkA { q with src := adrK a k }).setIfInBounds (4 + k) (.int .u8 (a.at k)) = pkA { q with src := adrK a (k + 1) } := by
  obtain ⟨v, b, hb, hr⟩ := a
  match b, hb with
  | [b0, b1, b2, b3, b4, b5, b6, b7, b8, b9, b10, b11, b12, b13, b14, b15], _ =>
    unfold pkA
    match k, hk with
    | 0, _ => rfl
    | 1, _ => rfl
    | 2, _ => rfl
    | 3, _ => rfl
theorem adrK_set' (a : Adr) (q : Pk) (k : Nat) (hk : k < 4) : (pkA { q with dst := adrK a k }).setIfInBounds (21 + k) (.int .u8 (a.at k)) = pkA { q with dst := adrK a (k + 1) } := by
  obtain ⟨v, b, hb, hr⟩ := a
  match b, hb with
  | [b0, b1, b2, b3, b4, b5, b6, b7, b8, b9, b10, b11, b12, b13, b14, b15], _ =>
    unfold pkA
    match k, hk with
    | 0, _ => rfl
    | 1, _ => rfl
    | 2, _ => rfl
    | 3, _ => rfl
theorem pkA_srcb (p : Pk) (k : Nat) (hk : k < 4) : (pkA p)[4 + k]? = some (.int .u8 (p.src.at k)) := by
  match k, hk with
  | 0, _ => exact pkA_4 p
  | 1, _ => exact pkA_5 p
  | 2, _ => exact pkA_6 p
  | 3, _ => exact pkA_7 p
theorem pkA_dstb (p : Pk) (k : Nat) (hk : k < 4) : (pkA p)[21 + k]? = some (.int .u8 (p.dst.at k)) := by
  match k, hk with
  | 0, _ => exact pkA_21 p
  | 1, _ => exact pkA_22 p
  | 2, _ => exact pkA_23 p
  | 3, _ => exact pkA_24 p

/-- rest, which leaves the world alone. -/
theorem lrest_q (n most : Int) (w : World) (h0 : 0 ≤ most) (h1 : most ≤ 65535) : Calls Tryd.prog 23 #[.int .i64 n, .int .i64 most] w fun e w' => e = .returned (.int .i64 (lrestF n most)) ∧ w = w' := by
  have hlo : -(most + 1) < n.tmod (most + 1) := by have := Int.lt_tmod_of_pos n (show 0 < most + 1 by omega); omega
  have hhi : n.tmod (most + 1) < most + 1 := Int.tmod_lt_of_pos n (by omega)
  have hf : lrestF n most = if n.tmod (most + 1) < 0 then n.tmod (most + 1) + most + 1 else n.tmod (most + 1) := by
    unfold lrestF
    have hm : n.tmod (most + 1) = if 0 ≤ n ∨ (most + 1) ∣ n then n % (most + 1) else n % (most + 1) - (most + 1) := by
      rw [Int.tmod_eq_emod]
      have : ((most + 1).natAbs : Int) = most + 1 := by omega
      split <;> simp_all
    have e0 : 0 ≤ n % (most + 1) := Int.emod_nonneg _ (by omega)
    have e1 : n % (most + 1) < most + 1 := Int.emod_lt_of_pos _ (by omega)
    split <;> rename_i h <;> rw [hm] at h ⊢ <;> split at h <;> simp_all <;> omega
  generalize lrestF n most = X at *
  replace hf := Lib.hid hf
  go_enter Tryd.func23, Tryd.ntmps23
  go_wp2
  · go_ret
    exact ⟨by rw [hf.out, if_pos (by assumption)]; rfl, rfl⟩
  · go_ret
    exact ⟨by rw [hf.out, if_neg (by omega)]; rfl, rfl⟩

/-- What right makes of a packet, whole. -/
def rightOs (os : List Int) : List Int := if validO os then os else []
def rightDs (os ds : List Int) : List Int := ds.take (min ds.length (65515 - (rightOs os).length))
def rightP (p : Pk) : Pk := { r0 (lrestF p.tos 255) (lrestF p.proto 255) (lrestF p.ttl 255) (p.id.tmod 65536) with src := adrK p.src 4, dst := adrK p.dst 4 }

def buildR (x0 x1 x2 x3 x4 x5 x6 : Value) : Sem Next := execOp (fun o => match o with | .tmp 0 => x0 | .tmp 1 => x1 | .tmp 2 => x2 | .tmp 3 => x3 | .tmp 4 => x4 | .tmp 5 => x5 | .tmp 6 => x6 | _ => undef) { dst := none, op := .build 28 #[(0, .tmp 0), (1, .tmp 1), (3, .tmp 2), (4, .tmp 3), (5, .tmp 4), (6, .tmp 5), (7, .tmp 6)], type := 28, pos := "", after := #[], guard := none }
theorem execOp_buildR (ev : Operand → Value) (d : Option Tmp) (y0 y1 y2 y3 y4 y5 y6 : Operand) (t : TypeId) (s : String) (af : Array Edge) (gd : Option (Nat × Bool)) : execOp ev { dst := d, op := .build 28 #[(0, y0), (1, y1), (3, y2), (4, y3), (5, y4), (6, y5), (7, y6)], type := t, pos := s, after := af, guard := gd } = buildR (ev y0) (ev y1) (ev y2) (ev y3) (ev y4) (ev y5) (ev y6) := by
  simp [execOp, buildR]
theorem run_buildR (t pr tt i : Int) (w : World) : (buildR (.int .i64 4) (.int .i64 t) (.agg #[.int .i64 4, .int .u8 0, .int .u8 0, .int .u8 0, .int .u8 0, .int .u8 0, .int .u8 0, .int .u8 0, .int .u8 0, .int .u8 0, .int .u8 0, .int .u8 0, .int .u8 0, .int .u8 0, .int .u8 0, .int .u8 0, .int .u8 0]) (.agg #[.int .i64 4, .int .u8 0, .int .u8 0, .int .u8 0, .int .u8 0, .int .u8 0, .int .u8 0, .int .u8 0, .int .u8 0, .int .u8 0, .int .u8 0, .int .u8 0, .int .u8 0, .int .u8 0, .int .u8 0, .int .u8 0, .int .u8 0]) (.int .i64 pr) (.int .i64 tt) (.int .u32 i)).run Tryd.prog w = .ok (.value (.agg (pkA (r0 t pr tt i)))) w := by
  unfold pkA
  kernel_rfl
attribute [local go_sem ↓] execOp_buildR
attribute [local go_sem] run_buildR
def RiRel (p : Pk) (w : World) (b5 : Nat) (i : Value) (wr : World) : Prop :=
  ∃ k : Nat, i = .int .i64 k ∧ k ≤ 4 ∧ Bx w wr [(b5, 28, pkA { r0 (lrestF p.tos 255) (lrestF p.proto 255) (lrestF p.ttl 255) (p.id.tmod 65536) with src := adrK p.src k, dst := adrK p.dst k }), (w.heap.size + 1, 28, pkA zPk), (w.heap.size, 28, pkA p)]
theorem step_append_sl {ops : Array Oper} {o : Oper} {a : Act} {W : World} {K : Act → World → Prop} {Q : Exit → Act → World → Prop} {E : Prop} (hg : o.guard = none) (sx x : Operand) (ho : o.op = .call { callee := .builtin .append, args := #[sx, x], argTypes := #[26, 26] }) (B : Nat) (s0 : Sl) (xs : List Int) (hs : a.eval sx = .slice s0.a s0.n s0.c)
    (hown : Own B W s0 xs) (s : Sl) (ys : List Int) (hx : a.eval x = .slice s.a s.n s.c) (hb : Bs W s ys) (h47 : s0.n + s.n ≤ 140737488355328) (hB : B ≤ W.heap.size)
    (h : ∀ s' W', Own B W' s' (xs ++ ys) → s'.n = s0.n + s.n → Below B W W' → K (a.put o.dst (.slice s'.a s'.n s'.c)) W') : if Region.wanted o (yielded ops a.tmps) = true then Oper.wp Tryd.prog o a W K Q else E := by
  have hw : Region.wanted o (yielded ops a.tmps) = true := by simp [Region.wanted, hg]
  rw [if_pos hw]
  have hr : bytesR (xs ++ ys) := fun z hz => by
    rcases List.mem_append.1 hz with hz | hz
    · exact hown.2 z hz
    · exact hb.rng z hz
  have fin : ∀ v' W', W'.ownsRow B 5 1 v' (s0.n + s.n) ((xs ++ ys).map (Value.int .u8)) → W.grownBy W' (Value.slice s0.a s0.n s0.c).ownBlock → K (a.put o.dst v') W' := by
    intro v' W' h1 h2
    have hbl : Below B W W' := (Below.refl _ _).grown h2 hB (ownBlock_ge hown.1)
    have h0 := h1
    rcases h1.2 with ⟨hv, hn⟩ | ⟨g, cap, cur, hv, _⟩
    · subst hv
      have hn0 : s0.n + s.n = 0 := hn
      exact h ⟨none, 0, 0⟩ W' ⟨by rw [hn] at h0; exact h0, hr⟩ hn0.symm hbl
    · subst hv
      exact h ⟨some ⟨g, 0, none⟩, s0.n + s.n, cap⟩ W' ⟨h0, hr⟩ rfl hbl
  obtain ⟨i0, hi, hz0, hz1, hz2⟩ := info_parts info5
  obtain ⟨hl, hle, hr2, hat⟩ := hb
  rcases hat with ⟨h2, h3⟩ | ⟨b, off, h1, h2, h3⟩
  · have hy : ys = [] := List.eq_nil_of_length_eq_zero (by omega)
    cases h1 : s.a with
    | some ad =>
      rw [h1] at hx
      exact wp_append_own W sx x 26 ho B 5 i0 (.int .u8 0) 1 1 Tryd.underlying26 hi hz0 hz1 hz2 rfl (by decide) _ s0.n _ hs hown.1 ad s.n s.c (ys.map (Value.int .u8)) hx (by rw [List.length_map, hl, Nat.mul_one])
        (fun j u hu => by rw [hy] at hu; simp at hu) (one_of_bytes ys) (by unfold maxLen; omega) (by omega) hB (fun v' w' h4 h5 _ => fin v' w' (by rwa [List.map_append]) h5)
    | none =>
    have hrun := run_append_owned_none (P := Tryd.prog) W B 26 o.type 5 i0 1 Tryd.underlying26 hi _ s0.n _ hown.1
    rw [h1, h2, h3] at hx
    unfold Oper.wp
    simp [execOp, ho, resolve, invoke, builtin, hs, hx, hrun, Result.andThen]
    exact fin _ _ (by rw [h2, hy]; simpa using hown.1) (World.grownBy.refl _ _)
  · rw [h1] at hx
    exact wp_append_own W sx x 26 ho B 5 i0 (.int .u8 0) 1 1 Tryd.underlying26 hi hz0 hz1 hz2 rfl (by decide) _ s0.n _ hs hown.1 ⟨b, off, none⟩ s.n s.c (ys.map (Value.int .u8)) hx (by rw [List.length_map, hl, Nat.mul_one])
      (cells_of_bs hl h3) (one_of_bytes ys) (by unfold maxLen; omega) (by omega) hB (fun v' w' h4 h5 _ => fin v' w' (by rwa [List.map_append]) h5)
theorem sliced_zero (a : Option Addr) (h m : Nat) : sliced a 0 h m 1 = .slice a h m := by
  unfold sliced
  cases a with
  | none => simp
  | some a => simp [Addr.add_zero']
attribute [local go_sem high] sliced_zero
theorem isBox_drew (W : World) (b : Nat) : isBox W.drew b = isBox W b := rfl
attribute [local go_sem ↓] storeCells_pk
theorem pkA_size_iff (q : Pk) : ((pkA q).size = 46) = True := by rw [pkA_size]; simp
attribute [local go_sem] run_storeP storeR_ok isBox_new isBox_drew pkA_size_iff r0_fold
set_option maxRecDepth 100000 in
set_option maxHeartbeats 2000000 in
theorem right_any (p : Pk) (os ds : List Int) (w : World) (hp : PkIn w p os ds) (hS : Sh w) : Calls Tryd.prog 22 #[.agg (pkA p), .bool true] w (RPk (rightP p) (rightOs os) (rightDs os ds) w) := by
  have hX := ((Bx.start w).alloc (pkA p) 28).alloc (pkA zPk) 28
  simp only [World.size_alloc] at hX
  obtain ⟨hr, hl, _, _⟩ := pk_at hX.h1
  go_enter Tryd.func22, Tryd.ntmps22
  go_upto_region 1 with fail
  generalize hW0 : World.alloc _ _ = W0 at hX hr hl ⊢
  clear hW0
  go_cut [5] (fun s5 wx => ∃ b5 : Nat, s5 = .pointer (some ⟨b5, 0, none⟩) ∧ Bx w wx [(b5, 28, pkA (r0 (lrestF p.tos 255) (lrestF p.proto 255) (lrestF p.ttl 255) (p.id.tmod 65536))), (w.heap.size + 1, 28, pkA zPk), (w.heap.size, 28, pkA p)])
  case first =>
    have hkeep := Lib.hid (fun (W : World) (hb : Below W0.heap.size W0 W) => (⟨hb, by rw [(pk_at (hX.call hb).h1).1 1 (by decide), pkA_1], by rw [(pk_at (hX.call hb).h1).1 37 (by decide), pkA_37], by rw [(pk_at (hX.call hb).h1).1 38 (by decide), pkA_38], by rw [(pk_at (hX.call hb).h1).1 39 (by decide), pkA_39]⟩ : Below W0.heap.size W0 W ∧ W.cell? ⟨w.heap.size, 1, none⟩ = some (.int .i64 p.tos) ∧ W.cell? ⟨w.heap.size, 37, none⟩ = some (.int .i64 p.proto) ∧ W.cell? ⟨w.heap.size, 38, none⟩ = some (.int .i64 p.ttl) ∧ W.cell? ⟨w.heap.size, 39, none⟩ = some (.int .u32 p.id)))
    clear hr hl
    go_region_held3 (fun W => Below W0.heap.size W0 W ∧ W.cell? ⟨w.heap.size, 1, none⟩ = some (.int .i64 p.tos) ∧ W.cell? ⟨w.heap.size, 37, none⟩ = some (.int .i64 p.proto) ∧ W.cell? ⟨w.heap.size, 38, none⟩ = some (.int .i64 p.ttl) ∧ W.cell? ⟨w.heap.size, 39, none⟩ = some (.int .u32 p.id)) ((refine hkeep.out _ ?_; first | exact (Below.refl _ _).drew | exact ((Below.refl _ _).alloc (Nat.le_refl _) _).drew | exact below_setRow ((Below.refl _ _).alloc (Nat.le_refl _) _).drew (Nat.le_refl _) | trace_state)) ((go_at_call 23; refine (lrest_q _ _ _ (by decide) (by decide)).mono ?_; rintro e w' ⟨rfl, rfl⟩))
    all_goals
      go_wp2_with fail
      go_meet
      first
        | exact ⟨_, rfl, ((hX.alloc (pkA zPk) 28).drew).set0 _⟩
        | exact ⟨_, rfl, ((hX.alloc (pkA zPk) 28).set0 _).drew⟩
        | exact ⟨_, rfl, (hX.drew.alloc (pkA zPk) 28).set0 _⟩
  case rest =>
    obtain ⟨b5, rfl, hX5⟩ := hcut
    clear hX hr hl
    go_wp2
    go_loopw [6] (fun i wr => RiRel p w b5 i wr) (fun i _ => 4 - (intOf i).toNat)
    case atStart => exact ⟨0, rfl, by omega, hX5⟩
    case round =>
      clear hX5
      obtain ⟨k, rfl, hk, hX⟩ := hrel
      obtain ⟨hr, hl, _, _⟩ := pk_at hX.h2
      by_cases hlt : k < 4
      · have h4 : k = 0 ∨ k = 1 ∨ k = 2 ∨ k = 3 := by omega
        rcases h4 with rfl | rfl | rfl | rfl
        · go_wp2_with (first | go_big_skip | (refine wpList_store_bx rfl 5 (.tmp 35) (.tmp 32) rfl b5 4 _ rfl rfl (bs := []) hX (size5 _) rfl rfl (by rw [pkA_size]; decide) _ (adrK_set p.src { r0 (lrestF p.tos 255) (lrestF p.proto 255) (lrestF p.ttl 255) (p.id.tmod 65536) with dst := adrK p.dst 0 } 0 (by decide)) ?_; intro W1 hX1 hg; have hX1 : Bx w W1 [_, _, _] := hX1; obtain ⟨hr, hl, _, _⟩ := pk_at hX1.h2; clear hg; dsimp only [Act.put]) | (refine wpList_store_bx rfl 5 (.tmp 44) (.tmp 41) rfl b5 21 _ rfl rfl (bs := []) hX1 (size5 _) rfl rfl (by rw [pkA_size]; decide) _ (adrK_set' p.dst { r0 (lrestF p.tos 255) (lrestF p.proto 255) (lrestF p.ttl 255) (p.id.tmod 65536) with src := adrK p.src 1 } 0 (by decide)) ?_; intro W2 hX2 hg; have hX2 : Bx w W2 [_, _, _] := hX2; clear hg; dsimp only [Act.put]))
          go_roundw
          case rel => exact ⟨1, rfl, by omega, hX2⟩
          case measure => simp [intOf]
        · go_wp2_with (first | go_big_skip | (refine wpList_store_bx rfl 5 (.tmp 35) (.tmp 32) rfl b5 5 _ rfl rfl (bs := []) hX (size5 _) rfl rfl (by rw [pkA_size]; decide) _ (adrK_set p.src { r0 (lrestF p.tos 255) (lrestF p.proto 255) (lrestF p.ttl 255) (p.id.tmod 65536) with dst := adrK p.dst 1 } 1 (by decide)) ?_; intro W1 hX1 hg; have hX1 : Bx w W1 [_, _, _] := hX1; obtain ⟨hr, hl, _, _⟩ := pk_at hX1.h2; clear hg; dsimp only [Act.put]) | (refine wpList_store_bx rfl 5 (.tmp 44) (.tmp 41) rfl b5 22 _ rfl rfl (bs := []) hX1 (size5 _) rfl rfl (by rw [pkA_size]; decide) _ (adrK_set' p.dst { r0 (lrestF p.tos 255) (lrestF p.proto 255) (lrestF p.ttl 255) (p.id.tmod 65536) with src := adrK p.src 2 } 1 (by decide)) ?_; intro W2 hX2 hg; have hX2 : Bx w W2 [_, _, _] := hX2; clear hg; dsimp only [Act.put]))
          go_roundw
          case rel => exact ⟨2, rfl, by omega, hX2⟩
          case measure => simp [intOf]
        · go_wp2_with (first | go_big_skip | (refine wpList_store_bx rfl 5 (.tmp 35) (.tmp 32) rfl b5 6 _ rfl rfl (bs := []) hX (size5 _) rfl rfl (by rw [pkA_size]; decide) _ (adrK_set p.src { r0 (lrestF p.tos 255) (lrestF p.proto 255) (lrestF p.ttl 255) (p.id.tmod 65536) with dst := adrK p.dst 2 } 2 (by decide)) ?_; intro W1 hX1 hg; have hX1 : Bx w W1 [_, _, _] := hX1; obtain ⟨hr, hl, _, _⟩ := pk_at hX1.h2; clear hg; dsimp only [Act.put]) | (refine wpList_store_bx rfl 5 (.tmp 44) (.tmp 41) rfl b5 23 _ rfl rfl (bs := []) hX1 (size5 _) rfl rfl (by rw [pkA_size]; decide) _ (adrK_set' p.dst { r0 (lrestF p.tos 255) (lrestF p.proto 255) (lrestF p.ttl 255) (p.id.tmod 65536) with src := adrK p.src 3 } 2 (by decide)) ?_; intro W2 hX2 hg; have hX2 : Bx w W2 [_, _, _] := hX2; clear hg; dsimp only [Act.put]))
          go_roundw
          case rel => exact ⟨3, rfl, by omega, hX2⟩
          case measure => simp [intOf]
        · go_wp2_with (first | go_big_skip | (refine wpList_store_bx rfl 5 (.tmp 35) (.tmp 32) rfl b5 7 _ rfl rfl (bs := []) hX (size5 _) rfl rfl (by rw [pkA_size]; decide) _ (adrK_set p.src { r0 (lrestF p.tos 255) (lrestF p.proto 255) (lrestF p.ttl 255) (p.id.tmod 65536) with dst := adrK p.dst 3 } 3 (by decide)) ?_; intro W1 hX1 hg; have hX1 : Bx w W1 [_, _, _] := hX1; obtain ⟨hr, hl, _, _⟩ := pk_at hX1.h2; clear hg; dsimp only [Act.put]) | (refine wpList_store_bx rfl 5 (.tmp 44) (.tmp 41) rfl b5 24 _ rfl rfl (bs := []) hX1 (size5 _) rfl rfl (by rw [pkA_size]; decide) _ (adrK_set' p.dst { r0 (lrestF p.tos 255) (lrestF p.proto 255) (lrestF p.ttl 255) (p.id.tmod 65536) with src := adrK p.src 4 } 3 (by decide)) ?_; intro W2 hX2 hg; have hX2 : Bx w W2 [_, _, _] := hX2; clear hg; dsimp only [Act.put]))
          go_roundw
          case rel => exact ⟨4, rfl, by omega, hX2⟩
          case measure => simp [intOf]
      · obtain rfl : k = 4 := by omega
        have hvalid := Lib.hid (fun (V : World) (hb : Below w.heap.size w V) => valid_any p.o os V (hp.o.below hb) hp.om (hS.below hb))
        have h3 := Lib.hid (show (⟨none, 0, 0⟩ : Sl).n + p.o.n ≤ 140737488355328 by have := hp.om; simp only; omega)
        have hX : Bx w _ [(b5, 28, pkA (rightP p)), (w.heap.size + 1, 28, pkA zPk), (w.heap.size, 28, pkA p)] := hX
        obtain ⟨hr5, hl5, _, _⟩ := pk_at hX.h0
        have h540 : (pkA (rightP p))[44]? = some (.slice none 0 0) := pkA_44 _
        have h545 : (pkA (rightP p))[45]? = some (.slice none 0 0) := pkA_45 _
        have hdm := hp.dm
        cases hv : validO os
        · rw [hv] at hvalid
          go_wp2_with (first | go_big_skip | (go_at_call 51; ((with_reducible refine (hvalid.out _ hX.bel).mono ?_); rintro e w1 ⟨rfl, hb⟩; have hX := hX.call hb; obtain ⟨hr, hl, _, _⟩ := pk_at hX.h2; obtain ⟨hr5, hl5, _, _⟩ := pk_at hX.h0; clear hb)))
          obtain ⟨n0, hn0, hn0b, hn0c⟩ : ∃ n0 : Nat, min (p.d.n : Int) 65515 = n0 ∧ n0 ≤ p.d.n ∧ n0 = min ds.length (65515 - (rightOs os).length) := ⟨min p.d.n 65515, by omega, by omega, by rw [hp.d.len, rightOs, hv]; simp⟩
          replace hn0c := Lib.hid hn0c
          have hbs := Lib.hid (fun (V : World) (hb : Below w1.heap.size w1 V) => Bs.take (show Bs V ⟨p.d.a, p.d.n, p.d.c⟩ ds from (hp.d.below (hX.bel.trans (hb.mono hX.bel.size)))) n0 hn0b)
          have h47 := Lib.hid (show (⟨none, 0, 0⟩ : Sl).n + (⟨p.d.a, n0, p.d.c⟩ : Sl).n ≤ 140737488355328 by simp only; omega)
          have hnc1 : (0 : Int) ≤ (n0 : Int) := by omega
          have hnc2 : (n0 : Int) ≤ (p.d.c : Int) := by have := hp.d.le; omega
          have hfz := fz_at hX.h0
          have hs1 : Own w.heap.size w1 ⟨none, 0, 0⟩ (rightOs os) := by unfold rightOs; rw [hv]; exact own_nil _ _
          go_region_law ((refine step_append_sl (by rfl) (.tmp 90) (.tmp 94) (by rfl) _ ⟨none, 0, 0⟩ [] (by rfl) (own_nil _ _) ⟨p.d.a, n0, p.d.c⟩ (ds.take n0) (by rfl) (hbs.out _ ((Below.refl _ _).drew)) h47.out (Nat.le_refl _) ?_; intro s2 W4 hs2 hn2 hb2; replace hn2 := Lib.hid hn2; have hB4 : Below w1.heap.size w1 W4 := (Below.refl _ _).drew.trans hb2; have hfz4 := fz_at (hX.call hB4).h0; obtain ⟨hr4, hl4, _, _⟩ := pk_at (hX.call hB4).h0))
          all_goals
            go_wp2_with fail
            obtain ⟨hY, hg⟩ := Bx.cell (bs := []) (hX.call hB4) 45 (.slice s2.a s2.n s2.c) _ (pkA_set_d _ _ _ _)
            have hs2 := (hs2.mono (show w.heap.size ≤ _ from hX.bel.size)).box (hX.call hB4).h0 (by decide) hg
            have hs1 := (hs1.below hB4).box (hX.call hB4).h0 (by decide) hg
            clear hg hfz4 hr4 hl4
            generalize World.setCell _ _ _ = W5 at hY hs2 hs1 ⊢
            obtain ⟨hr5, hl5, _, _⟩ := pk_at hY.h0
            go_wp2_with (first | (refine wpList_storeA_bx rfl 28 (.tmp 4) (.tmp 97) rfl _ _ rfl rfl (bs := [_]) hY (by rw [pkA_size]; exact i28) ((pkA_size _).trans (pkA_size _).symm) (pkA_one _) ?_; intro W6 hZ hg; have hs2 := hs2.box hY.h1 (by decide) hg; have hs1 := hs1.box hY.h1 (by decide) hg))
            exact bodyPost_ret (results_cell rfl _ _ _ _ _ rfl hZ.h1 (g28 _) (by rw [pkA_size]; exact i28)) rfl ⟨⟨none, 0, 0⟩, s2, rfl, hs1, by unfold rightDs; rw [← hn0c.out]; simpa using hs2, hZ.bel⟩
        · rw [hv] at hvalid
          have h40o : os.length ≤ 40 := by simp only [validO, Bool.and_eq_true, decide_eq_true_eq] at hv; exact hv.1.1
          go_wp2_with (first | go_big_skip | (go_at_call 51; ((with_reducible refine (hvalid.out _ hX.bel).mono ?_); rintro e w1 ⟨rfl, hb⟩; have hX := hX.call hb; obtain ⟨hr, hl, _, _⟩ := pk_at hX.h2; obtain ⟨hr5, hl5, _, _⟩ := pk_at hX.h0; clear hb)) | (at_builtin; refine wpList_append_sl rfl (.tmp 49) (.tmp 51) rfl _ ⟨none, 0, 0⟩ [] rfl (own_nil _ _) p.o os rfl (hp.o.below hX.bel) h3.out (Nat.le_refl _) ?_; intro s1 W1 hs1 hn1 hb1; replace hn1 := Lib.hid hn1; have hs1l := Lib.hid (show s1.n = os.length by have h1 := hn1.out; have h2 := hp.o.len; have h4 : (⟨none, 0, 0⟩ : Sl).n = 0 := rfl; omega); have h40 : s1.n ≤ 40 := (by rw [hs1l.out]; exact h40o); have hs1 := hs1.mono hX.bel.size; have hX := hX.call hb1; clear hb1) | (refine wpList_store_bx rfl 26 (.tmp 53) (.tmp 52) rfl b5 44 _ rfl rfl (bs := []) hX (size26 _) rfl rfl (by rw [pkA_size]; decide) _ (pkA_set_o _ _ _ _) ?_; intro W2 hX2 hg; have hX2 : Bx w W2 [_, _, _] := hX2; have hs1 := hs1.box hX.h0 (by decide) hg; obtain ⟨hr, hl, _, _⟩ := pk_at hX2.h2; obtain ⟨hr5, hl5, _, _⟩ := pk_at hX2.h0; clear hg; dsimp only [Act.put]))
          obtain ⟨n0, hn0, hn0b, hn0c⟩ : ∃ n0 : Nat, min (p.d.n : Int) (65515 - (s1.n : Int)) = n0 ∧ n0 ≤ p.d.n ∧ n0 = min ds.length (65515 - (rightOs os).length) := ⟨min p.d.n (65515 - s1.n), by omega, by omega, by rw [hp.d.len, rightOs, hv, if_pos rfl, ← hs1l.out]⟩
          replace hn0c := Lib.hid hn0c
          have hbs := Lib.hid (fun (V : World) (hb : Below W2.heap.size W2 V) => Bs.take (show Bs V ⟨p.d.a, p.d.n, p.d.c⟩ ds from (hp.d.below (hX2.bel.trans (hb.mono hX2.bel.size)))) n0 hn0b)
          have h47 := Lib.hid (show (⟨none, 0, 0⟩ : Sl).n + (⟨p.d.a, n0, p.d.c⟩ : Sl).n ≤ 140737488355328 by simp only; omega)
          have hnc1 : (0 : Int) ≤ (n0 : Int) := by omega
          have hnc2 : (n0 : Int) ≤ (p.d.c : Int) := by have := hp.d.le; omega
          have hfz := fz_at hX2.h0
          have hs1 : Own w.heap.size W2 s1 (rightOs os) := by unfold rightOs; rw [hv, if_pos rfl]; exact hs1
          go_region_law ((refine step_append_sl (by rfl) (.tmp 90) (.tmp 94) (by rfl) _ ⟨none, 0, 0⟩ [] (by rfl) (own_nil _ _) ⟨p.d.a, n0, p.d.c⟩ (ds.take n0) (by rfl) (hbs.out _ ((Below.refl _ _).drew)) h47.out (Nat.le_refl _) ?_; intro s2 W4 hs2 hn2 hb2; replace hn2 := Lib.hid hn2; have hB4 : Below W2.heap.size W2 W4 := (Below.refl _ _).drew.trans hb2; have hfz4 := fz_at (hX2.call hB4).h0; obtain ⟨hr4, hl4, _, _⟩ := pk_at (hX2.call hB4).h0))
          all_goals
            go_wp2_with fail
            obtain ⟨hY, hg⟩ := Bx.cell (bs := []) (hX2.call hB4) 45 (.slice s2.a s2.n s2.c) _ (pkA_set_d _ _ _ _)
            have hs2 := (hs2.mono (show w.heap.size ≤ _ from hX2.bel.size)).box (hX2.call hB4).h0 (by decide) hg
            have hs1 := (hs1.below hB4).box (hX2.call hB4).h0 (by decide) hg
            clear hg hfz4 hr4 hl4
            generalize World.setCell _ _ _ = W5 at hY hs2 hs1 ⊢
            obtain ⟨hr5, hl5, _, _⟩ := pk_at hY.h0
            go_wp2_with (first | (refine wpList_storeA_bx rfl 28 (.tmp 4) (.tmp 97) rfl _ _ rfl rfl (bs := [_]) hY (by rw [pkA_size]; exact i28) ((pkA_size _).trans (pkA_size _).symm) (pkA_one _) ?_; intro W6 hZ hg; have hs2 := hs2.box hY.h1 (by decide) hg; have hs1 := hs1.box hY.h1 (by decide) hg))
            exact bodyPost_ret (results_cell rfl _ _ _ _ _ rfl hZ.h1 (g28 _) (by rw [pkA_size]; exact i28)) rfl ⟨s1, s2, rfl, hs1, by unfold rightDs; rw [← hn0c.out]; simpa using hs2, hZ.bel⟩
end Go.Proofs.YtleokgmflelkcaaDoor
