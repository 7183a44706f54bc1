/- Arguments opened: addresses, slices of bytes, packets. -/
import Derived.Test.YtleokgmflelkcaaDoorVA22
import Derived.ProofKit
import Derived.OpenShut
import Derived.SizedLaws
set_option linter.unusedSimpArgs false
set_option linter.unusedVariables false
namespace Go.Proofs.YtleokgmflelkcaaDoor
open Go Go.RowKit Go.ChangeShapes Go.WideShapes Go.ChangeAt

theorem cells3 : Tryd.prog.cellsOf 3 = 1 := by kernel_rfl
theorem cells4 : Tryd.prog.cellsOf 4 = 1 := by kernel_rfl
theorem cells5 : Tryd.prog.cellsOf 5 = 1 := by kernel_rfl
theorem cells22 : Tryd.prog.cellsOf 22 = 16 := by kernel_rfl
theorem cells24 : Tryd.prog.cellsOf 24 = 17 := by kernel_rfl
theorem cells25 : Tryd.prog.cellsOf 25 = 1 := by kernel_rfl
theorem cells26 : Tryd.prog.cellsOf 26 = 1 := by kernel_rfl
theorem cells28 : Tryd.prog.cellsOf 28 = 46 := by kernel_rfl

theorem adrA_list (a : Adr) : (adrA a).toList = .int .i64 a.v :: a.b.map (Value.int .u8) := by
  obtain ⟨v, b, hb, hr⟩ := a
  match b, hb with
  | [b0, b1, b2, b3, b4, b5, b6, b7, b8, b9, b10, b11, b12, b13, b14, b15], _ =>
    unfold adrA
    rfl
theorem pkA_list (p : Pk) : (pkA p).toList = [.int .i64 p.v] ++ ([.int .i64 p.tos] ++ ([.int .i64 p.flow] ++ ((adrA p.src).toList ++ ((adrA p.dst).toList ++ ([.int .i64 p.proto] ++ ([.int .i64 p.ttl] ++ ([.int .u32 p.id] ++ ([.bool p.df] ++ ([.bool p.more] ++ ([.bool p.frag] ++ ([.int .i64 p.off] ++ ([.slice p.o.a p.o.n p.o.c] ++ [.slice p.d.a p.d.n p.d.c])))))))))))) := by
  unfold pkA adrA
  rfl

theorem bytes_of : ∀ l : List Value, (∀ i, i < l.length → ∃ n : Int, (0 ≤ n ∧ n ≤ 255) ∧ l[i]? = some (.int .u8 n)) → ∃ b : List Int, b.length = l.length ∧ l = b.map (Value.int .u8) ∧ ∀ x ∈ b, 0 ≤ x ∧ x ≤ 255
  | [], _ => ⟨[], rfl, rfl, fun x h => by cases h⟩
  | v :: l, h => by
    obtain ⟨n, hn, h0⟩ := h 0 (by simp)
    simp only [List.getElem?_cons_zero, Option.some.injEq] at h0
    obtain ⟨b, h1, h2, h3⟩ := bytes_of l (fun i hi => by
      have := h (i + 1) (by simp; omega)
      simpa using this)
    refine ⟨n :: b, by simp [h1], by rw [h0, List.map_cons, ← h2], fun x hx => ?_⟩
    rcases List.mem_cons.1 hx with rfl | hx
    · exact hn
    · exact h3 x hx

section
variable {H : Type} {enc : TypeId × Value → H} {W : World} {base : Nat} {spare : Nat → Bool} {held : Bool}

theorem one_of_take {cs : List Value} {k : Nat} {v : Value} (h : (cs.drop k).take 1 = [v]) : cs[k]? = some v := by
  have := congrArg (·[0]?) h
  simpa using this
theorem open_adr {fuel : Nat} {cs : List Value} {x : DataW H × List MemPlace} (h : DataW.trod enc Tryd.prog W base spare held fuel 24 cs = some x) : ∃ a : Adr, cs = (adrA a).toList := by
  obtain ⟨xs, n, -, -, hl, hxl, hg⟩ := DataW.trod_struct Tryd.underlying24 h
  rw [cells24] at hl
  have g0 : DataW.trod enc Tryd.prog W base spare held n 3 ((cs.drop 0).take (Tryd.prog.cellsOf 3)) = xs[0]? := hg 0 _ rfl
  have g1 : DataW.trod enc Tryd.prog W base spare held n 22 ((cs.drop 1).take (Tryd.prog.cellsOf 22)) = xs[1]? := hg 1 _ rfl
  rw [cells3, List.getElem?_eq_getElem (by rw [hxl]; decide)] at g0
  rw [cells22, List.getElem?_eq_getElem (by rw [hxl]; decide)] at g1
  obtain ⟨v, hv, -, -⟩ := DataW.trod_int Tryd.underlying3 g0
  obtain ⟨ys, m, -, -, hl2, hyl, hy⟩ := DataW.trod_array Tryd.underlying22 g1
  have hlen : ((cs.drop 1).take 16).length = 16 := by simp; omega
  obtain ⟨b, hb1, hb2, hb3⟩ := bytes_of ((cs.drop 1).take 16) (fun i hi => by
    have := hy i (by omega)
    rw [cells5, List.getElem?_eq_getElem (by rw [hyl]; omega), Nat.mul_one] at this
    obtain ⟨z, hz, -, hw⟩ := DataW.trod_int Tryd.underlying5 this
    exact ⟨z, bounds_u8 hw, one_of_take hz⟩)
  refine ⟨⟨v, b, by omega, hb3⟩, ?_⟩
  rw [adrA_list]
  show cs = Value.int .i64 v :: b.map (Value.int .u8)
  rw [← hb2]
  have e : cs = cs.take 1 ++ (cs.drop 1).take 16 := by
    rw [List.take_of_length_le (l := cs.drop 1) (by simp; omega), List.take_append_drop]
  rw [List.drop_zero] at hv
  exact e.trans (by rw [hv]; rfl)

theorem lt_of_shape {b : Nat} {x : TypeId × Nat} (h : W.shape? b = some x) : b < W.heap.size := by
  unfold World.shape? at h
  by_cases hb : b < W.heap.size
  · exact hb
  · rw [Array.getElem?_eq_none (by omega)] at h
    simp at h
theorem cell_plain {w : World} {a : Addr} {v : Value} (h : w.cell? a = some v) : a.spot = none ∧ a.block < w.heap.size := by
  unfold World.cell? at h
  split at h
  · rename_i c t f hh
    refine ⟨?_, (Array.getElem?_eq_some_iff.1 hh).1⟩
    cases hs : a.spot with
    | none => rfl
    | some s => rw [hs] at h; simp at h
  · cases h
set_option maxRecDepth 100000 in
/-- A slice of bytes that came in. -/
theorem open_bs {fuel : Nat} {v : Value} {x : DataW H × List MemPlace} (h : DataW.trod enc Tryd.prog W base (fun _ => true) held fuel 26 [v] = some x)
    (hw : ∀ n ∈ x.1.weights Tryd.prog 26, n ≤ reachBytes) : ∃ (s : Sl) (xs : List Int), v = .slice s.a s.n s.c ∧ Bs W s xs ∧ s.n ≤ 140737488351232 := by
  rcases open_ints Tryd.underlying26 Tryd.underlying5 cells5 h with ⟨hcs, hx⟩ | ⟨a, len, cap, zs, hcs, _, hl, hm, hz, hx, hcell, hwz⟩
  · simp only [List.cons.injEq, and_true] at hcs
    subst hcs
    exact ⟨⟨none, 0, 0⟩, [], rfl, ⟨rfl, Nat.le_refl _, (fun x h => by cases h), .inl ⟨rfl, rfl⟩⟩, by decide⟩
  · simp only [List.cons.injEq, and_true] at hcs
    subst hcs
    simp only [if_true] at hz
    have hbytes : Tryd.prog.bytesOf 5 = 1 := by kernel_rfl
    have hwt := hw ((zs.take len).length + (zs.drop len).length) (by
      rw [hx]
      simp only [DataW.weights, Tryd.underlying26, hbytes, Nat.mul_one, lits, List.length_map, List.mem_cons, true_or])
    have hcap : cap ≤ 140737488351232 := by
      have : reachBytes = 140737488351232 := rfl
      rw [List.length_take, List.length_drop] at hwt
      omega
    by_cases hc0 : cap = 0
    · exact ⟨⟨some a, len, cap⟩, zs.take len, rfl, ⟨by simp only [List.length_take]; omega, hl, fun y hy => bounds_u8 (hwz y (List.mem_of_mem_take hy)), .inl ⟨by simp only; omega, hc0⟩⟩, by simp only; omega⟩
    have h0 := hcell 0 (by omega)
    rw [Addr.add_zero'] at h0
    obtain ⟨hspot, hlt⟩ := cell_plain h0
    obtain ⟨b, o, sp⟩ := a
    simp only at hspot hlt
    subst hspot
    refine ⟨⟨some ⟨b, o, none⟩, len, cap⟩, zs.take len, rfl, ⟨by simp only [List.length_take]; omega, hl, fun y hy => bounds_u8 (hwz y (List.mem_of_mem_take hy)), .inr ⟨b, o, rfl, hlt, fun i hi => ?_⟩⟩, by simp only; omega⟩
    simp only at hi
    have := hcell i (by omega)
    have hadd : (⟨b, o, none⟩ : Addr).add i = ⟨b, o + i, none⟩ := by unfold Addr.add; split <;> simp_all
    rw [hadd] at this
    rw [this]
    unfold bAt
    rw [List.getD_eq_getElem?_getD, List.getD_eq_getElem?_getD, List.getElem?_take, if_pos hi]
set_option maxRecDepth 100000 in
/-- A packet that came in, as a row of 46 cells. -/
theorem open_pk {fuel : Nat} {cs : List Value} {x : DataW H × List MemPlace} (h : DataW.trod enc Tryd.prog W base (fun _ => true) held fuel 28 cs = some x)
    (hw : ∀ n ∈ x.1.weights Tryd.prog 28, n ≤ reachBytes) : ∃ (p : Pk) (os ds : List Int), cs = (pkA p).toList ∧ PkIn W p os ds := by
  obtain ⟨xs, n, -, hx, hl, hxl, hg⟩ := DataW.trod_struct Tryd.underlying28 h
  rw [cells28] at hl
  have g0 : DataW.trod enc Tryd.prog W base (fun _ => true) held n 3 ((cs.drop 0).take (Tryd.prog.cellsOf 3)) = xs[0]? := hg 0 _ rfl
  rw [cells3, List.getElem?_eq_getElem (by rw [hxl]; decide)] at g0
  have g1 : DataW.trod enc Tryd.prog W base (fun _ => true) held n 3 ((cs.drop 1).take (Tryd.prog.cellsOf 3)) = xs[1]? := hg 1 _ rfl
  rw [cells3, List.getElem?_eq_getElem (by rw [hxl]; decide)] at g1
  have g2 : DataW.trod enc Tryd.prog W base (fun _ => true) held n 3 ((cs.drop 2).take (Tryd.prog.cellsOf 3)) = xs[2]? := hg 2 _ rfl
  rw [cells3, List.getElem?_eq_getElem (by rw [hxl]; decide)] at g2
  have g3 : DataW.trod enc Tryd.prog W base (fun _ => true) held n 24 ((cs.drop 3).take (Tryd.prog.cellsOf 24)) = xs[3]? := hg 3 _ rfl
  rw [cells24, List.getElem?_eq_getElem (by rw [hxl]; decide)] at g3
  have g4 : DataW.trod enc Tryd.prog W base (fun _ => true) held n 24 ((cs.drop 20).take (Tryd.prog.cellsOf 24)) = xs[4]? := hg 4 _ rfl
  rw [cells24, List.getElem?_eq_getElem (by rw [hxl]; decide)] at g4
  have g5 : DataW.trod enc Tryd.prog W base (fun _ => true) held n 3 ((cs.drop 37).take (Tryd.prog.cellsOf 3)) = xs[5]? := hg 5 _ rfl
  rw [cells3, List.getElem?_eq_getElem (by rw [hxl]; decide)] at g5
  have g6 : DataW.trod enc Tryd.prog W base (fun _ => true) held n 3 ((cs.drop 38).take (Tryd.prog.cellsOf 3)) = xs[6]? := hg 6 _ rfl
  rw [cells3, List.getElem?_eq_getElem (by rw [hxl]; decide)] at g6
  have g7 : DataW.trod enc Tryd.prog W base (fun _ => true) held n 25 ((cs.drop 39).take (Tryd.prog.cellsOf 25)) = xs[7]? := hg 7 _ rfl
  rw [cells25, List.getElem?_eq_getElem (by rw [hxl]; decide)] at g7
  have g8 : DataW.trod enc Tryd.prog W base (fun _ => true) held n 4 ((cs.drop 40).take (Tryd.prog.cellsOf 4)) = xs[8]? := hg 8 _ rfl
  rw [cells4, List.getElem?_eq_getElem (by rw [hxl]; decide)] at g8
  have g9 : DataW.trod enc Tryd.prog W base (fun _ => true) held n 4 ((cs.drop 41).take (Tryd.prog.cellsOf 4)) = xs[9]? := hg 9 _ rfl
  rw [cells4, List.getElem?_eq_getElem (by rw [hxl]; decide)] at g9
  have g10 : DataW.trod enc Tryd.prog W base (fun _ => true) held n 4 ((cs.drop 42).take (Tryd.prog.cellsOf 4)) = xs[10]? := hg 10 _ rfl
  rw [cells4, List.getElem?_eq_getElem (by rw [hxl]; decide)] at g10
  have g11 : DataW.trod enc Tryd.prog W base (fun _ => true) held n 3 ((cs.drop 43).take (Tryd.prog.cellsOf 3)) = xs[11]? := hg 11 _ rfl
  rw [cells3, List.getElem?_eq_getElem (by rw [hxl]; decide)] at g11
  have g12 : DataW.trod enc Tryd.prog W base (fun _ => true) held n 26 ((cs.drop 44).take (Tryd.prog.cellsOf 26)) = xs[12]? := hg 12 _ rfl
  rw [cells26, List.getElem?_eq_getElem (by rw [hxl]; decide)] at g12
  have g13 : DataW.trod enc Tryd.prog W base (fun _ => true) held n 26 ((cs.drop 45).take (Tryd.prog.cellsOf 26)) = xs[13]? := hg 13 _ rfl
  rw [cells26, List.getElem?_eq_getElem (by rw [hxl]; decide)] at g13
  obtain ⟨v, e0, -, -⟩ := DataW.trod_int Tryd.underlying3 g0
  obtain ⟨tos, e1, -, -⟩ := DataW.trod_int Tryd.underlying3 g1
  obtain ⟨flow, e2, -, -⟩ := DataW.trod_int Tryd.underlying3 g2
  obtain ⟨src, e3⟩ := open_adr g3
  obtain ⟨dst, e4⟩ := open_adr g4
  obtain ⟨proto, e5, -, -⟩ := DataW.trod_int Tryd.underlying3 g5
  obtain ⟨ttl, e6, -, -⟩ := DataW.trod_int Tryd.underlying3 g6
  obtain ⟨id, e7, -, -⟩ := DataW.trod_int Tryd.underlying25 g7
  obtain ⟨df, e8, -⟩ := DataW.trod_bool Tryd.underlying4 g8
  obtain ⟨more, e9, -⟩ := DataW.trod_bool Tryd.underlying4 g9
  obtain ⟨frag, e10, -⟩ := DataW.trod_bool Tryd.underlying4 g10
  obtain ⟨off, e11, -, -⟩ := DataW.trod_int Tryd.underlying3 g11
  have hw' : ∀ (i t : Nat) (d : DataW H), (#[3, 3, 3, 24, 24, 3, 3, 25, 4, 4, 4, 3, 26, 26] : Array Nat)[i]? = some t → (xs.map (·.1))[i]? = some d → ∀ n ∈ d.weights Tryd.prog t, n ≤ reachBytes := by
    intro i t d ht hd k hk
    refine hw k ?_
    rw [hx]
    simp only [DataW.weights, Tryd.underlying28]
    exact DataW.weights_mem_each (by simpa using ht) hd k hk
  obtain ⟨w12, f12⟩ : ∃ v, (cs.drop 44).take 1 = [v] := by
    have : ((cs.drop 44).take 1).length = 1 := by simp; omega
    exact List.length_eq_one_iff.1 this
  rw [f12] at g12
  obtain ⟨o, os, e12, b12, m12⟩ := open_bs g12 (hw' 12 26 _ rfl (by rw [List.getElem?_map, List.getElem?_eq_getElem (by rw [hxl]; decide)]; rfl))
  rw [e12] at f12
  obtain ⟨w13, f13⟩ : ∃ v, (cs.drop 45).take 1 = [v] := by
    have : ((cs.drop 45).take 1).length = 1 := by simp; omega
    exact List.length_eq_one_iff.1 this
  rw [f13] at g13
  obtain ⟨d, ds, e13, b13, m13⟩ := open_bs g13 (hw' 13 26 _ rfl (by rw [List.getElem?_map, List.getElem?_eq_getElem (by rw [hxl]; decide)]; rfl))
  rw [e13] at f13
  refine ⟨⟨v, tos, flow, src, dst, proto, ttl, id, df, more, frag, off, o, d⟩, os, ds, ?_, ⟨b12, b13, m12, m13⟩⟩
  rw [pkA_list]
  have sp : ∀ k m : Nat, cs.drop k = (cs.drop k).take m ++ cs.drop (k + m) := fun k m => by rw [← List.drop_drop, List.take_append_drop]
  have h0 : cs = cs.drop 0 := rfl
  rw [h0, sp 0 1, e0, sp 1 1, e1, sp 2 1, e2, sp 3 17, e3, sp 20 17, e4, sp 37 1, e5, sp 38 1, e6, sp 39 1, e7, sp 40 1, e8, sp 41 1, e9, sp 42 1, e10, sp 43 1, e11, sp 44 1, f12, sp 45 1, f13, List.drop_eq_nil_of_le (by omega)]
  simp only [List.append_nil]
end
end Go.Proofs.YtleokgmflelkcaaDoor
