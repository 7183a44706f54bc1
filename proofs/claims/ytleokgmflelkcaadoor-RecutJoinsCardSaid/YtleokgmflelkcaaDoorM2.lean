/- Plain lists: options as the chapter parses, checks, lays and carries them. -/
import Derived.Test.YtleokgmflelkcaaDoorA2
namespace Go.Proofs.YtleokgmflelkcaaDoor
open Go

abbrev OptL := Int × List Int

def parseO (xs : List Int) : Option (List OptL) :=
  match xs with
  | [] => some []
  | k :: r =>
    if k = 0 then (if zeros (k :: r) then some [] else none)
    else if k = 1 then (parseO r).map ((1, []) :: ·)
    else match r with
      | [] => none
      | n :: d => if n < 2 ∨ n > d.length + 2 then none else (parseO (d.drop (n.toNat - 2))).map ((k, d.take (n.toNat - 2)) :: ·)
termination_by xs.length
decreasing_by all_goals (simp_wf; try omega)

theorem parse_cons (k : Int) (r : List Int) : parseO (k :: r) = if k = 0 then (if zeros (k :: r) then some [] else none)
    else if k = 1 then (parseO r).map ((1, []) :: ·)
    else match r with
      | [] => none
      | n :: d => if n < 2 ∨ n > d.length + 2 then none else (parseO (d.drop (n.toNat - 2))).map ((k, d.take (n.toNat - 2)) :: ·) := by rw [parseO.eq_def]
theorem parse_nil : parseO [] = some [] := by rw [parseO]

theorem drop_bAt (xs : List Int) (k : Nat) (h : k < xs.length) : xs.drop k = bAt xs k :: xs.drop (k + 1) := by
  unfold bAt
  rw [List.drop_eq_getElem_cons h, List.getD_eq_getElem?_getD, List.getElem?_eq_getElem h]; rfl

/-- What is left to parse from a place on. -/
def restO (xs : List Int) (k : Nat) : Option (List OptL) := parseO (xs.drop k)

theorem rest_end (xs : List Int) (k : Nat) (h : xs.length ≤ k) : restO xs k = some [] := by
  unfold restO; rw [List.drop_eq_nil_of_le h, parse_nil]
theorem rest_zero (xs : List Int) (k : Nat) (h : k < xs.length) (h0 : bAt xs k = 0) : restO xs k = if zeros (xs.drop k) then some [] else none := by
  unfold restO
  rw [drop_bAt xs k h, parse_cons, if_pos h0]
theorem rest_one (xs : List Int) (k : Nat) (h : k < xs.length) (h1 : bAt xs k = 1) : restO xs k = (restO xs (k + 1)).map ((1, []) :: ·) := by
  unfold restO
  rw [drop_bAt xs k h, parse_cons, if_neg (by rw [h1]; decide), if_pos h1]
theorem rest_last (xs : List Int) (k : Nat) (h : k + 1 = xs.length) (h0 : bAt xs k ≠ 0) (h1 : bAt xs k ≠ 1) : restO xs k = none := by
  unfold restO
  rw [drop_bAt xs k (by omega), List.drop_eq_nil_of_le (by omega), parse_cons, if_neg h0, if_neg h1]
theorem rest_bad (xs : List Int) (k : Nat) (h : k + 1 < xs.length) (h0 : bAt xs k ≠ 0) (h1 : bAt xs k ≠ 1) (hn : bAt xs (k + 1) < 2 ∨ bAt xs (k + 1) > (xs.length : Int) - k) : restO xs k = none := by
  unfold restO
  rw [drop_bAt xs k (by omega), drop_bAt xs (k + 1) h, parse_cons, if_neg h0, if_neg h1]
  dsimp only
  rw [if_pos]
  simp only [List.length_drop]
  omega
theorem rest_long (xs : List Int) (k n : Nat) (h : k + 1 < xs.length) (h0 : bAt xs k ≠ 0) (h1 : bAt xs k ≠ 1) (hn : bAt xs (k + 1) = n) (h2 : 2 ≤ n) (h3 : k + n ≤ xs.length) :
    restO xs k = (restO xs (k + n)).map ((bAt xs k, (xs.drop (k + 2)).take (n - 2)) :: ·) := by
  unfold restO
  rw [drop_bAt xs k (by omega), drop_bAt xs (k + 1) h, parse_cons, if_neg h0, if_neg h1]
  dsimp only
  rw [if_neg (by simp only [List.length_drop]; omega), hn]
  have e : xs.drop (k + n) = (xs.drop (k + 1 + 1)).drop ((n : Int).toNat - 2) := by
    rw [List.drop_drop]; congr 1; omega
  rw [e]
  have e2 : (n : Int).toNat - 2 = n - 2 := by omega
  rw [e2]

def validO (xs : List Int) : Bool := decide (xs.length ≤ 40) && decide (xs.length % 4 = 0) && (parseO xs).isSome
end Go.Proofs.YtleokgmflelkcaaDoor
