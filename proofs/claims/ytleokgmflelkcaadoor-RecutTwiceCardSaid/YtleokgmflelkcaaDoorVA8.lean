/- '==' on addresses, keys and the other structs that are compared whole. -/
import Derived.Test.YtleokgmflelkcaaDoorVA0
import Derived.Stop.BytesEq
set_option linter.unusedSimpArgs false
set_option linter.unusedVariables false
namespace Go.Proofs.YtleokgmflelkcaaDoor
open Go Go.RowKit

theorem adr_eq_iff (a b : Adr) : a = b ↔ a.v = b.v ∧ a.b = b.b := by
  cases a; cases b; simp
def bytesU (a : Adr) : List UInt8 := a.b.map fun x => UInt8.ofNat x.toNat
theorem bytesU_len (a : Adr) : (bytesU a).length = 16 := by unfold bytesU; rw [List.length_map, a.hb]
theorem bytesU_inj (a b : Adr) (h : bytesU a = bytesU b) : a.b = b.b := by
  unfold bytesU at h
  have ha := a.hr
  have hb := b.hr
  generalize a.b = x at *
  generalize b.b = y at *
  induction x generalizing y with
  | nil => cases y with | nil => rfl | cons b ys => simp at h
  | cons a xs ih =>
    cases y with
    | nil => simp at h
    | cons b ys =>
      simp only [List.map_cons, List.cons.injEq] at h
      have h1 := ha a (by simp)
      have h2 := hb b (by simp)
      have h3 := congrArg UInt8.toNat h.1
      simp at h3
      have : a = b := by omega
      rw [this, ih (fun z hz => ha z (by simp [hz])) ys (fun z hz => hb z (by simp [hz])) h.2]
theorem cells16 (a : Adr) : (adrA a).toList = .int .i64 a.v :: (bytesU a).map _root_.Go.Extern.Stop.cell := by
  obtain ⟨v, b, hb, hr⟩ := a
  match b, hb with
  | [b0, b1, b2, b3, b4, b5, b6, b7, b8, b9, b10, b11, b12, b13, b14, b15], _ =>
    have h : ∀ x, 0 ≤ x ∧ x ≤ 255 → _root_.Go.Extern.Stop.cell (UInt8.ofNat x.toNat) = .int .u8 x := by
      intro x hx
      unfold _root_.Go.Extern.Stop.cell
      congr 1
      simp
      omega
    unfold adrA Adr.at bytesU
    simp only [List.map_cons, List.map_nil]
    rw [h b0 (hr _ (by simp)), h b1 (hr _ (by simp)), h b2 (hr _ (by simp)), h b3 (hr _ (by simp)), h b4 (hr _ (by simp)), h b5 (hr _ (by simp)), h b6 (hr _ (by simp)), h b7 (hr _ (by simp)), h b8 (hr _ (by simp)), h b9 (hr _ (by simp)), h b10 (hr _ (by simp)), h b11 (hr _ (by simp)), h b12 (hr _ (by simp)), h b13 (hr _ (by simp)), h b14 (hr _ (by simp)), h b15 (hr _ (by simp))]
    rfl
theorem agg22 (w : World) : (isAgg 22).run Tryd.prog w = .ok true w := by kernel_rfl
theorem size22 (w : World) : (sizeOf 22).run Tryd.prog w = .ok 16 w := by kernel_rfl
theorem size5 (w : World) : (sizeOf 5).run Tryd.prog w = .ok 1 w := by kernel_rfl
theorem agg3 (w : World) : (isAgg 3).run Tryd.prog w = .ok false w := by kernel_rfl
theorem agg4 (w : World) : (isAgg 4).run Tryd.prog w = .ok false w := by kernel_rfl
theorem agg25 (w : World) : (isAgg 25).run Tryd.prog w = .ok false w := by kernel_rfl
theorem agg24 (w : World) : (isAgg 24).run Tryd.prog w = .ok true w := by kernel_rfl
theorem size24 (w : World) : (sizeOf 24).run Tryd.prog w = .ok 17 w := by kernel_rfl
theorem part22 (a : Adr) (w : World) : (part 22 (adrA a) 1).run Tryd.prog w = .ok (.agg ((bytesU a).map _root_.Go.Extern.Stop.cell).toArray) w := by
  have e : (adrA a).extract 1 17 = ((bytesU a).map _root_.Go.Extern.Stop.cell).toArray := by
    apply Array.toList_inj.1
    rw [Array.toList_extract, cells16]
    have := bytesU_len a
    simp [List.extract, this]
    exact List.take_of_length_le (by rw [List.length_map, this]; exact Nat.le_refl _)
  unfold part
  rw [Sem.run_bind, agg22]
  simp only [Result.andThen_ok, if_true]
  rw [Sem.run_bind, size22]
  simp only [Result.andThen_ok, Sem.run_pure, Nat.reduceAdd, e]
theorem part_one {t : TypeId} {cs : Array Value} {off : Nat} {v : Value} (w : World) (h : (isAgg t).run Tryd.prog w = .ok false w) (hv : cs[off]? = some v) : (part t cs off).run Tryd.prog w = .ok v w := by
  unfold part
  rw [Sem.run_bind, h]
  simp only [Result.andThen_ok, Bool.false_eq_true, if_false, hv, Sem.run_pure]

/-- One field more of '=='. -/
theorem eqFields_step {d : Nat} {xs ys : Array Value} {f : Field} {fs : List Field} {x y : Value} {b c : Bool} {w : World} (hn : f.name ≠ "_") (hx : (part f.type xs f.offset).run Tryd.prog w = .ok x w)
    (hy : (part f.type ys f.offset).run Tryd.prog w = .ok y w) (he : (Op.equalIn d f.type x y).run Tryd.prog w = .ok b w) (hr : (Op.eqFields d xs ys fs).run Tryd.prog w = .ok c w) :
    (Op.eqFields d xs ys (f :: fs)).run Tryd.prog w = .ok (b && c) w := by
  simp only [Op.eqFields, hn, ne_eq, not_false_eq_true, if_true, Sem.run_bind, hx, hy, he, Result.andThen_ok]
  cases b <;> simp [hr]
theorem eqFields_nil (d : Nat) (xs ys : Array Value) (w : World) : (Op.eqFields d xs ys []).run Tryd.prog w = .ok true w := by simp [Op.eqFields]

theorem fields24 : (Tryd.prog.fieldsOf 24).toList = [⟨ "V", 3, 0, false, "", "", 0⟩, ⟨ "B", 22, 1, false, "", "", 8⟩] := by kernel_rfl

@[go_sem ↓] theorem adr_eqIn (d : Nat) (a b : Adr) (w : World) : (Op.equalIn (d + 4) 24 (.agg (adrA a)) (.agg (adrA b))).run Tryd.prog w = .ok (decide (a = b)) w := by
  rw [run_equalIn_struct w (d + 3) 24 _ _ (by kernel_rfl) Tryd.stoodInHeld24, fields24,
    eqFields_step (f := ⟨ "V", 3, 0, false, "", "", 0⟩) (b := a.v == b.v) (by simp) (part_one w (agg3 w) (adrA_0 a)) (part_one w (agg3 w) (adrA_0 b)) (run_equalIn_int w _ 3 .i64 .i64 _ _ Tryd.underlying3)
      (eqFields_step (f := ⟨ "B", 22, 1, false, "", "", 8⟩) (b := bytesU a == bytesU b) (by simp) (part22 a w) (part22 b w) (run_equalIn_bytes w (d + 1) 22 5 16 Tryd.underlying22 Tryd.underlying5 size5 _ _ (bytesU_len a) (bytesU_len b)) (eqFields_nil _ _ _ w))]
  congr 1
  rw [Bool.and_true, Bool.eq_iff_iff, Bool.and_eq_true, beq_iff_eq, beq_iff_eq, decide_eq_true_iff, adr_eq_iff]
  constructor
  · rintro ⟨h1, h2⟩; exact ⟨h1, bytesU_inj a b h2⟩
  · rintro ⟨h1, h2⟩; exact ⟨h1, by unfold bytesU; rw [h2]⟩
/-- A key. -/
structure Ky where
  v : Int
  src : Adr
  dst : Adr
  proto : Int
  id : Int
  deriving DecidableEq
def Pk.key (p : Pk) : Ky := ⟨p.v, p.src, p.dst, p.proto, p.id⟩
def kyA (k : Ky) : Array Value := #[(.int .i64 k.v), (.int .i64 k.src.v), (.int .u8 (k.src.at 0)), (.int .u8 (k.src.at 1)), (.int .u8 (k.src.at 2)), (.int .u8 (k.src.at 3)), (.int .u8 (k.src.at 4)), (.int .u8 (k.src.at 5)), (.int .u8 (k.src.at 6)), (.int .u8 (k.src.at 7)), (.int .u8 (k.src.at 8)), (.int .u8 (k.src.at 9)), (.int .u8 (k.src.at 10)), (.int .u8 (k.src.at 11)), (.int .u8 (k.src.at 12)), (.int .u8 (k.src.at 13)), (.int .u8 (k.src.at 14)), (.int .u8 (k.src.at 15)), (.int .i64 k.dst.v), (.int .u8 (k.dst.at 0)), (.int .u8 (k.dst.at 1)), (.int .u8 (k.dst.at 2)), (.int .u8 (k.dst.at 3)), (.int .u8 (k.dst.at 4)), (.int .u8 (k.dst.at 5)), (.int .u8 (k.dst.at 6)), (.int .u8 (k.dst.at 7)), (.int .u8 (k.dst.at 8)), (.int .u8 (k.dst.at 9)), (.int .u8 (k.dst.at 10)), (.int .u8 (k.dst.at 11)), (.int .u8 (k.dst.at 12)), (.int .u8 (k.dst.at 13)), (.int .u8 (k.dst.at 14)), (.int .u8 (k.dst.at 15)), (.int .i64 k.proto), (.int .u32 k.id)]
@[go_sem] theorem kyA_0 (k : Ky) : (kyA k)[0]? = some (.int .i64 k.v) := (rfl)
@[go_sem] theorem kyA_1 (k : Ky) : (kyA k)[1]? = some (.int .i64 k.src.v) := (rfl)
@[go_sem] theorem kyA_2 (k : Ky) : (kyA k)[2]? = some (.int .u8 (k.src.at 0)) := (rfl)
@[go_sem] theorem kyA_3 (k : Ky) : (kyA k)[3]? = some (.int .u8 (k.src.at 1)) := (rfl)
@[go_sem] theorem kyA_4 (k : Ky) : (kyA k)[4]? = some (.int .u8 (k.src.at 2)) := (rfl)
@[go_sem] theorem kyA_5 (k : Ky) : (kyA k)[5]? = some (.int .u8 (k.src.at 3)) := (rfl)
@[go_sem] theorem kyA_6 (k : Ky) : (kyA k)[6]? = some (.int .u8 (k.src.at 4)) := (rfl)
@[go_sem] theorem kyA_7 (k : Ky) : (kyA k)[7]? = some (.int .u8 (k.src.at 5)) := (rfl)
@[go_sem] theorem kyA_8 (k : Ky) : (kyA k)[8]? = some (.int .u8 (k.src.at 6)) := (rfl)
@[go_sem] theorem kyA_9 (k : Ky) : (kyA k)[9]? = some (.int .u8 (k.src.at 7)) := (rfl)
@[go_sem] theorem kyA_10 (k : Ky) : (kyA k)[10]? = some (.int .u8 (k.src.at 8)) := (rfl)
@[go_sem] theorem kyA_11 (k : Ky) : (kyA k)[11]? = some (.int .u8 (k.src.at 9)) := (rfl)
@[go_sem] theorem kyA_12 (k : Ky) : (kyA k)[12]? = some (.int .u8 (k.src.at 10)) := (rfl)
@[go_sem] theorem kyA_13 (k : Ky) : (kyA k)[13]? = some (.int .u8 (k.src.at 11)) := (rfl)
@[go_sem] theorem kyA_14 (k : Ky) : (kyA k)[14]? = some (.int .u8 (k.src.at 12)) := (rfl)
@[go_sem] theorem kyA_15 (k : Ky) : (kyA k)[15]? = some (.int .u8 (k.src.at 13)) := (rfl)
@[go_sem] theorem kyA_16 (k : Ky) : (kyA k)[16]? = some (.int .u8 (k.src.at 14)) := (rfl)
@[go_sem] theorem kyA_17 (k : Ky) : (kyA k)[17]? = some (.int .u8 (k.src.at 15)) := (rfl)
@[go_sem] theorem kyA_18 (k : Ky) : (kyA k)[18]? = some (.int .i64 k.dst.v) := (rfl)
@[go_sem] theorem kyA_19 (k : Ky) : (kyA k)[19]? = some (.int .u8 (k.dst.at 0)) := (rfl)
@[go_sem] theorem kyA_20 (k : Ky) : (kyA k)[20]? = some (.int .u8 (k.dst.at 1)) := (rfl)
@[go_sem] theorem kyA_21 (k : Ky) : (kyA k)[21]? = some (.int .u8 (k.dst.at 2)) := (rfl)
@[go_sem] theorem kyA_22 (k : Ky) : (kyA k)[22]? = some (.int .u8 (k.dst.at 3)) := (rfl)
@[go_sem] theorem kyA_23 (k : Ky) : (kyA k)[23]? = some (.int .u8 (k.dst.at 4)) := (rfl)
@[go_sem] theorem kyA_24 (k : Ky) : (kyA k)[24]? = some (.int .u8 (k.dst.at 5)) := (rfl)
@[go_sem] theorem kyA_25 (k : Ky) : (kyA k)[25]? = some (.int .u8 (k.dst.at 6)) := (rfl)
@[go_sem] theorem kyA_26 (k : Ky) : (kyA k)[26]? = some (.int .u8 (k.dst.at 7)) := (rfl)
@[go_sem] theorem kyA_27 (k : Ky) : (kyA k)[27]? = some (.int .u8 (k.dst.at 8)) := (rfl)
@[go_sem] theorem kyA_28 (k : Ky) : (kyA k)[28]? = some (.int .u8 (k.dst.at 9)) := (rfl)
@[go_sem] theorem kyA_29 (k : Ky) : (kyA k)[29]? = some (.int .u8 (k.dst.at 10)) := (rfl)
@[go_sem] theorem kyA_30 (k : Ky) : (kyA k)[30]? = some (.int .u8 (k.dst.at 11)) := (rfl)
@[go_sem] theorem kyA_31 (k : Ky) : (kyA k)[31]? = some (.int .u8 (k.dst.at 12)) := (rfl)
@[go_sem] theorem kyA_32 (k : Ky) : (kyA k)[32]? = some (.int .u8 (k.dst.at 13)) := (rfl)
@[go_sem] theorem kyA_33 (k : Ky) : (kyA k)[33]? = some (.int .u8 (k.dst.at 14)) := (rfl)
@[go_sem] theorem kyA_34 (k : Ky) : (kyA k)[34]? = some (.int .u8 (k.dst.at 15)) := (rfl)
@[go_sem] theorem kyA_35 (k : Ky) : (kyA k)[35]? = some (.int .i64 k.proto) := (rfl)
@[go_sem] theorem kyA_36 (k : Ky) : (kyA k)[36]? = some (.int .u32 k.id) := (rfl)
theorem kyA_size (k : Ky) : (kyA k).size = 37 := (rfl)
@[go_sem] theorem kyA_fold (k : Ky) : Value.agg #[(.int .i64 k.v), (.int .i64 k.src.v), (.int .u8 (k.src.at 0)), (.int .u8 (k.src.at 1)), (.int .u8 (k.src.at 2)), (.int .u8 (k.src.at 3)), (.int .u8 (k.src.at 4)), (.int .u8 (k.src.at 5)), (.int .u8 (k.src.at 6)), (.int .u8 (k.src.at 7)), (.int .u8 (k.src.at 8)), (.int .u8 (k.src.at 9)), (.int .u8 (k.src.at 10)), (.int .u8 (k.src.at 11)), (.int .u8 (k.src.at 12)), (.int .u8 (k.src.at 13)), (.int .u8 (k.src.at 14)), (.int .u8 (k.src.at 15)), (.int .i64 k.dst.v), (.int .u8 (k.dst.at 0)), (.int .u8 (k.dst.at 1)), (.int .u8 (k.dst.at 2)), (.int .u8 (k.dst.at 3)), (.int .u8 (k.dst.at 4)), (.int .u8 (k.dst.at 5)), (.int .u8 (k.dst.at 6)), (.int .u8 (k.dst.at 7)), (.int .u8 (k.dst.at 8)), (.int .u8 (k.dst.at 9)), (.int .u8 (k.dst.at 10)), (.int .u8 (k.dst.at 11)), (.int .u8 (k.dst.at 12)), (.int .u8 (k.dst.at 13)), (.int .u8 (k.dst.at 14)), (.int .u8 (k.dst.at 15)), (.int .i64 k.proto), (.int .u32 k.id)] = .agg (kyA k) := (rfl)
theorem kyA_x_src (k : Ky) : (kyA k).extract 1 18 = adrA k.src := by
  unfold kyA adrA
  rfl
theorem kyA_x_dst (k : Ky) : (kyA k).extract 18 35 = adrA k.dst := by
  unfold kyA adrA
  rfl
attribute [irreducible] kyA

/-- The struct 'bare'. -/
structure Br where
  v : Int
  tos : Int
  flow : Int
  src : Adr
  dst : Adr
  proto : Int
  ttl : Int
  id : Int
  df : Bool
  frag : Bool
  deriving DecidableEq
def Pk.bare (p : Pk) : Br := ⟨p.v, p.tos, p.flow, p.src, p.dst, p.proto, p.ttl, p.id, p.df, p.frag⟩
def brA (k : Br) : Array Value := #[(.int .i64 k.v), (.int .i64 k.tos), (.int .i64 k.flow), (.int .i64 k.src.v), (.int .u8 (k.src.at 0)), (.int .u8 (k.src.at 1)), (.int .u8 (k.src.at 2)), (.int .u8 (k.src.at 3)), (.int .u8 (k.src.at 4)), (.int .u8 (k.src.at 5)), (.int .u8 (k.src.at 6)), (.int .u8 (k.src.at 7)), (.int .u8 (k.src.at 8)), (.int .u8 (k.src.at 9)), (.int .u8 (k.src.at 10)), (.int .u8 (k.src.at 11)), (.int .u8 (k.src.at 12)), (.int .u8 (k.src.at 13)), (.int .u8 (k.src.at 14)), (.int .u8 (k.src.at 15)), (.int .i64 k.dst.v), (.int .u8 (k.dst.at 0)), (.int .u8 (k.dst.at 1)), (.int .u8 (k.dst.at 2)), (.int .u8 (k.dst.at 3)), (.int .u8 (k.dst.at 4)), (.int .u8 (k.dst.at 5)), (.int .u8 (k.dst.at 6)), (.int .u8 (k.dst.at 7)), (.int .u8 (k.dst.at 8)), (.int .u8 (k.dst.at 9)), (.int .u8 (k.dst.at 10)), (.int .u8 (k.dst.at 11)), (.int .u8 (k.dst.at 12)), (.int .u8 (k.dst.at 13)), (.int .u8 (k.dst.at 14)), (.int .u8 (k.dst.at 15)), (.int .i64 k.proto), (.int .i64 k.ttl), (.int .u32 k.id), (.bool k.df), (.bool k.frag)]
@[go_sem] theorem brA_0 (k : Br) : (brA k)[0]? = some (.int .i64 k.v) := (rfl)
@[go_sem] theorem brA_1 (k : Br) : (brA k)[1]? = some (.int .i64 k.tos) := (rfl)
@[go_sem] theorem brA_2 (k : Br) : (brA k)[2]? = some (.int .i64 k.flow) := (rfl)
@[go_sem] theorem brA_3 (k : Br) : (brA k)[3]? = some (.int .i64 k.src.v) := (rfl)
@[go_sem] theorem brA_4 (k : Br) : (brA k)[4]? = some (.int .u8 (k.src.at 0)) := (rfl)
@[go_sem] theorem brA_5 (k : Br) : (brA k)[5]? = some (.int .u8 (k.src.at 1)) := (rfl)
@[go_sem] theorem brA_6 (k : Br) : (brA k)[6]? = some (.int .u8 (k.src.at 2)) := (rfl)
@[go_sem] theorem brA_7 (k : Br) : (brA k)[7]? = some (.int .u8 (k.src.at 3)) := (rfl)
@[go_sem] theorem brA_8 (k : Br) : (brA k)[8]? = some (.int .u8 (k.src.at 4)) := (rfl)
@[go_sem] theorem brA_9 (k : Br) : (brA k)[9]? = some (.int .u8 (k.src.at 5)) := (rfl)
@[go_sem] theorem brA_10 (k : Br) : (brA k)[10]? = some (.int .u8 (k.src.at 6)) := (rfl)
@[go_sem] theorem brA_11 (k : Br) : (brA k)[11]? = some (.int .u8 (k.src.at 7)) := (rfl)
@[go_sem] theorem brA_12 (k : Br) : (brA k)[12]? = some (.int .u8 (k.src.at 8)) := (rfl)
@[go_sem] theorem brA_13 (k : Br) : (brA k)[13]? = some (.int .u8 (k.src.at 9)) := (rfl)
@[go_sem] theorem brA_14 (k : Br) : (brA k)[14]? = some (.int .u8 (k.src.at 10)) := (rfl)
@[go_sem] theorem brA_15 (k : Br) : (brA k)[15]? = some (.int .u8 (k.src.at 11)) := (rfl)
@[go_sem] theorem brA_16 (k : Br) : (brA k)[16]? = some (.int .u8 (k.src.at 12)) := (rfl)
@[go_sem] theorem brA_17 (k : Br) : (brA k)[17]? = some (.int .u8 (k.src.at 13)) := (rfl)
@[go_sem] theorem brA_18 (k : Br) : (brA k)[18]? = some (.int .u8 (k.src.at 14)) := (rfl)
@[go_sem] theorem brA_19 (k : Br) : (brA k)[19]? = some (.int .u8 (k.src.at 15)) := (rfl)
@[go_sem] theorem brA_20 (k : Br) : (brA k)[20]? = some (.int .i64 k.dst.v) := (rfl)
@[go_sem] theorem brA_21 (k : Br) : (brA k)[21]? = some (.int .u8 (k.dst.at 0)) := (rfl)
@[go_sem] theorem brA_22 (k : Br) : (brA k)[22]? = some (.int .u8 (k.dst.at 1)) := (rfl)
@[go_sem] theorem brA_23 (k : Br) : (brA k)[23]? = some (.int .u8 (k.dst.at 2)) := (rfl)
@[go_sem] theorem brA_24 (k : Br) : (brA k)[24]? = some (.int .u8 (k.dst.at 3)) := (rfl)
@[go_sem] theorem brA_25 (k : Br) : (brA k)[25]? = some (.int .u8 (k.dst.at 4)) := (rfl)
@[go_sem] theorem brA_26 (k : Br) : (brA k)[26]? = some (.int .u8 (k.dst.at 5)) := (rfl)
@[go_sem] theorem brA_27 (k : Br) : (brA k)[27]? = some (.int .u8 (k.dst.at 6)) := (rfl)
@[go_sem] theorem brA_28 (k : Br) : (brA k)[28]? = some (.int .u8 (k.dst.at 7)) := (rfl)
@[go_sem] theorem brA_29 (k : Br) : (brA k)[29]? = some (.int .u8 (k.dst.at 8)) := (rfl)
@[go_sem] theorem brA_30 (k : Br) : (brA k)[30]? = some (.int .u8 (k.dst.at 9)) := (rfl)
@[go_sem] theorem brA_31 (k : Br) : (brA k)[31]? = some (.int .u8 (k.dst.at 10)) := (rfl)
@[go_sem] theorem brA_32 (k : Br) : (brA k)[32]? = some (.int .u8 (k.dst.at 11)) := (rfl)
@[go_sem] theorem brA_33 (k : Br) : (brA k)[33]? = some (.int .u8 (k.dst.at 12)) := (rfl)
@[go_sem] theorem brA_34 (k : Br) : (brA k)[34]? = some (.int .u8 (k.dst.at 13)) := (rfl)
@[go_sem] theorem brA_35 (k : Br) : (brA k)[35]? = some (.int .u8 (k.dst.at 14)) := (rfl)
@[go_sem] theorem brA_36 (k : Br) : (brA k)[36]? = some (.int .u8 (k.dst.at 15)) := (rfl)
@[go_sem] theorem brA_37 (k : Br) : (brA k)[37]? = some (.int .i64 k.proto) := (rfl)
@[go_sem] theorem brA_38 (k : Br) : (brA k)[38]? = some (.int .i64 k.ttl) := (rfl)
@[go_sem] theorem brA_39 (k : Br) : (brA k)[39]? = some (.int .u32 k.id) := (rfl)
@[go_sem] theorem brA_40 (k : Br) : (brA k)[40]? = some (.bool k.df) := (rfl)
@[go_sem] theorem brA_41 (k : Br) : (brA k)[41]? = some (.bool k.frag) := (rfl)
theorem brA_size (k : Br) : (brA k).size = 42 := (rfl)
@[go_sem] theorem brA_fold (k : Br) : Value.agg #[(.int .i64 k.v), (.int .i64 k.tos), (.int .i64 k.flow), (.int .i64 k.src.v), (.int .u8 (k.src.at 0)), (.int .u8 (k.src.at 1)), (.int .u8 (k.src.at 2)), (.int .u8 (k.src.at 3)), (.int .u8 (k.src.at 4)), (.int .u8 (k.src.at 5)), (.int .u8 (k.src.at 6)), (.int .u8 (k.src.at 7)), (.int .u8 (k.src.at 8)), (.int .u8 (k.src.at 9)), (.int .u8 (k.src.at 10)), (.int .u8 (k.src.at 11)), (.int .u8 (k.src.at 12)), (.int .u8 (k.src.at 13)), (.int .u8 (k.src.at 14)), (.int .u8 (k.src.at 15)), (.int .i64 k.dst.v), (.int .u8 (k.dst.at 0)), (.int .u8 (k.dst.at 1)), (.int .u8 (k.dst.at 2)), (.int .u8 (k.dst.at 3)), (.int .u8 (k.dst.at 4)), (.int .u8 (k.dst.at 5)), (.int .u8 (k.dst.at 6)), (.int .u8 (k.dst.at 7)), (.int .u8 (k.dst.at 8)), (.int .u8 (k.dst.at 9)), (.int .u8 (k.dst.at 10)), (.int .u8 (k.dst.at 11)), (.int .u8 (k.dst.at 12)), (.int .u8 (k.dst.at 13)), (.int .u8 (k.dst.at 14)), (.int .u8 (k.dst.at 15)), (.int .i64 k.proto), (.int .i64 k.ttl), (.int .u32 k.id), (.bool k.df), (.bool k.frag)] = .agg (brA k) := (rfl)
theorem brA_x_src (k : Br) : (brA k).extract 3 20 = adrA k.src := by
  unfold brA adrA
  rfl
theorem brA_x_dst (k : Br) : (brA k).extract 20 37 = adrA k.dst := by
  unfold brA adrA
  rfl
attribute [irreducible] brA

theorem part_adr {cs : Array Value} {o : Nat} {x : Adr} (w : World) (h : cs.extract o (o + 17) = adrA x) : (part 24 cs o).run Tryd.prog w = .ok (.agg (adrA x)) w := by
  unfold part
  rw [Sem.run_bind, agg24]
  simp only [Result.andThen_ok, if_true]
  rw [Sem.run_bind, size24]
  simp only [Result.andThen_ok, Sem.run_pure, h]
theorem fields80 : (Tryd.prog.fieldsOf 80).toList = [⟨ "V", 3, 0, false, "", "", 0⟩, ⟨ "Src", 24, 1, false, "", "", 8⟩, ⟨ "Dst", 24, 18, false, "", "", 32⟩, ⟨ "Proto", 3, 35, false, "", "", 56⟩, ⟨ "ID", 25, 36, false, "", "", 64⟩] := by kernel_rfl
@[go_sem ↓] theorem kyA_eqIn (d : Nat) (a b : Ky) (w : World) : (Op.equalIn (d + 5) 80 (.agg (kyA a)) (.agg (kyA b))).run Tryd.prog w = .ok (decide (a = b)) w := by
  rw [run_equalIn_struct w (d + 4) 80 _ _ (by kernel_rfl) Tryd.stoodInHeld80, fields80]
  refine ((eqFields_step (f := ⟨ "V", 3, 0, false, "", "", 0⟩) (b := a.v == b.v) (by simp) (part_one w (agg3 w) (kyA_0 a)) (part_one w (agg3 w) (kyA_0 b)) (run_equalIn_int w _ 3 .i64 .i64 _ _ Tryd.underlying3) (eqFields_step (f := ⟨ "Src", 24, 1, false, "", "", 8⟩) (b := decide (a.src = b.src)) (by simp) (part_adr w (kyA_x_src a)) (part_adr w (kyA_x_src b)) (adr_eqIn d a.src b.src w) (eqFields_step (f := ⟨ "Dst", 24, 18, false, "", "", 32⟩) (b := decide (a.dst = b.dst)) (by simp) (part_adr w (kyA_x_dst a)) (part_adr w (kyA_x_dst b)) (adr_eqIn d a.dst b.dst w) (eqFields_step (f := ⟨ "Proto", 3, 35, false, "", "", 56⟩) (b := a.proto == b.proto) (by simp) (part_one w (agg3 w) (kyA_35 a)) (part_one w (agg3 w) (kyA_35 b)) (run_equalIn_int w _ 3 .i64 .i64 _ _ Tryd.underlying3) (eqFields_step (f := ⟨ "ID", 25, 36, false, "", "", 64⟩) (b := a.id == b.id) (by simp) (part_one w (agg25 w) (kyA_36 a)) (part_one w (agg25 w) (kyA_36 b)) (run_equalIn_int w _ 25 .u32 .u32 _ _ Tryd.underlying25) (eqFields_nil _ _ _ w))))))).trans ?_
  congr 1
  rw [Bool.eq_iff_iff, decide_eq_true_iff]
  simp only [Bool.and_eq_true, beq_iff_eq, decide_eq_true_iff, and_true]
  cases a; cases b; simp
theorem fields59 : (Tryd.prog.fieldsOf 59).toList = [⟨ "v", 3, 0, false, "", "mosaic/recut", 0⟩, ⟨ "tos", 3, 1, false, "", "mosaic/recut", 8⟩, ⟨ "flow", 3, 2, false, "", "mosaic/recut", 16⟩, ⟨ "src", 24, 3, false, "", "mosaic/recut", 24⟩, ⟨ "dst", 24, 20, false, "", "mosaic/recut", 48⟩, ⟨ "proto", 3, 37, false, "", "mosaic/recut", 72⟩, ⟨ "ttl", 3, 38, false, "", "mosaic/recut", 80⟩, ⟨ "id", 25, 39, false, "", "mosaic/recut", 88⟩, ⟨ "df", 4, 40, false, "", "mosaic/recut", 92⟩, ⟨ "frag", 4, 41, false, "", "mosaic/recut", 93⟩] := by kernel_rfl
@[go_sem ↓] theorem brA_eqIn (d : Nat) (a b : Br) (w : World) : (Op.equalIn (d + 5) 59 (.agg (brA a)) (.agg (brA b))).run Tryd.prog w = .ok (decide (a = b)) w := by
  rw [run_equalIn_struct w (d + 4) 59 _ _ (by kernel_rfl) Tryd.stoodInHeld59, fields59]
  refine ((eqFields_step (f := ⟨ "v", 3, 0, false, "", "mosaic/recut", 0⟩) (b := a.v == b.v) (by simp) (part_one w (agg3 w) (brA_0 a)) (part_one w (agg3 w) (brA_0 b)) (run_equalIn_int w _ 3 .i64 .i64 _ _ Tryd.underlying3) (eqFields_step (f := ⟨ "tos", 3, 1, false, "", "mosaic/recut", 8⟩) (b := a.tos == b.tos) (by simp) (part_one w (agg3 w) (brA_1 a)) (part_one w (agg3 w) (brA_1 b)) (run_equalIn_int w _ 3 .i64 .i64 _ _ Tryd.underlying3) (eqFields_step (f := ⟨ "flow", 3, 2, false, "", "mosaic/recut", 16⟩) (b := a.flow == b.flow) (by simp) (part_one w (agg3 w) (brA_2 a)) (part_one w (agg3 w) (brA_2 b)) (run_equalIn_int w _ 3 .i64 .i64 _ _ Tryd.underlying3) (eqFields_step (f := ⟨ "src", 24, 3, false, "", "mosaic/recut", 24⟩) (b := decide (a.src = b.src)) (by simp) (part_adr w (brA_x_src a)) (part_adr w (brA_x_src b)) (adr_eqIn d a.src b.src w) (eqFields_step (f := ⟨ "dst", 24, 20, false, "", "mosaic/recut", 48⟩) (b := decide (a.dst = b.dst)) (by simp) (part_adr w (brA_x_dst a)) (part_adr w (brA_x_dst b)) (adr_eqIn d a.dst b.dst w) (eqFields_step (f := ⟨ "proto", 3, 37, false, "", "mosaic/recut", 72⟩) (b := a.proto == b.proto) (by simp) (part_one w (agg3 w) (brA_37 a)) (part_one w (agg3 w) (brA_37 b)) (run_equalIn_int w _ 3 .i64 .i64 _ _ Tryd.underlying3) (eqFields_step (f := ⟨ "ttl", 3, 38, false, "", "mosaic/recut", 80⟩) (b := a.ttl == b.ttl) (by simp) (part_one w (agg3 w) (brA_38 a)) (part_one w (agg3 w) (brA_38 b)) (run_equalIn_int w _ 3 .i64 .i64 _ _ Tryd.underlying3) (eqFields_step (f := ⟨ "id", 25, 39, false, "", "mosaic/recut", 88⟩) (b := a.id == b.id) (by simp) (part_one w (agg25 w) (brA_39 a)) (part_one w (agg25 w) (brA_39 b)) (run_equalIn_int w _ 25 .u32 .u32 _ _ Tryd.underlying25) (eqFields_step (f := ⟨ "df", 4, 40, false, "", "mosaic/recut", 92⟩) (b := a.df == b.df) (by simp) (part_one w (agg4 w) (brA_40 a)) (part_one w (agg4 w) (brA_40 b)) (run_equalIn_bool' w _ 4 _ _ Tryd.underlying4) (eqFields_step (f := ⟨ "frag", 4, 41, false, "", "mosaic/recut", 93⟩) (b := a.frag == b.frag) (by simp) (part_one w (agg4 w) (brA_41 a)) (part_one w (agg4 w) (brA_41 b)) (run_equalIn_bool' w _ 4 _ _ Tryd.underlying4) (eqFields_nil _ _ _ w)))))))))))).trans ?_
  congr 1
  rw [Bool.eq_iff_iff, decide_eq_true_iff]
  simp only [Bool.and_eq_true, beq_iff_eq, decide_eq_true_iff, and_true]
  cases a; cases b; simp
end Go.Proofs.YtleokgmflelkcaaDoor
