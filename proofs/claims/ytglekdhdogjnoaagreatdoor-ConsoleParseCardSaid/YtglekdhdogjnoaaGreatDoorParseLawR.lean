/- The reference's reader of parts, as plain data: what its functions answer, and that the parts of an input's line are read as the input. -/
import Derived.Test.YtglekdhdogjnoaaGreatDoorParseLawC
namespace Go.Proofs.YtglekdhdogjnoaaGreatDoor
open Go.RowKit
set_option linter.unusedSimpArgs false
/-- The digits of a number, from the place behind some of them; a dash may stand first. -/
def numF : Bool → List UInt8 → Int → Option Int
  | _, [], n => some n
  | first, c :: r, n => if first = true ∧ c.toNat = 45 then numF false r n else if c.toNat < 48 ∨ 57 < c.toNat then none else numF false r (10 * n + ((c.toNat : Int) - 48))
def numSign (l : List UInt8) (n : Int) : Int := if l.head? = some 45 then -n else n
def numR (p : PPart) : Int × Bool :=
  if p.quoted = true ∨ p.text.size < 1 ∨ 14 < p.text.size then (0, false)
  else match numF true p.text.data.toList 0 with
    | none => (0, false)
    | some n => (numSign p.text.data.toList n, decide (itoaS (numSign p.text.data.toList n) = p.text))
theorem numF_dig (c : UInt8) (r : List UInt8) (n : Int) (b : Bool) (h : 48 ≤ c.toNat ∧ c.toNat ≤ 57) : numF b (c :: r) n = numF false r (10 * n + ((c.toNat : Int) - 48)) := by
  rw [numF, if_neg (by omega), if_neg (by omega)]
def intsR : List PPart → Option (List Int)
  | [] => some []
  | p :: ps => if (numR p).2 = true then (intsR ps).map ((numR p).1 :: ·) else none
def listR : List PPart → Option (List File)
  | p :: q :: r => if p.quoted = true ∧ q.quoted = true then (listR r).map ((p.text, q.text) :: ·) else none
  | _ => some []
def namedR (l : List PPart) (n : Nat) : Option (ByteArray × List Int) :=
  match l with
  | [] => none
  | p :: ps => if ps.length < n ∨ p.quoted = false then none else (intsR (ps.take n)).map fun xs => (p.text, xs)
def inputR (k : Int) (l : List PPart) : PAct × Bool :=
  if k = 1 ∨ k = 2 ∨ k = 6 ∨ k = 7 then
    match namedR l (if k = 1 ∨ k = 6 then 2 else 1) with
    | none => (act0 k, false)
    | some (who, x) =>
      if k = 1 then
        (match listR (l.drop 3) with
        | none => (⟨k, who, 0, x.getD 0 0, x.getD 1 0, 0, [], []⟩, false)
        | some fs => (⟨k, who, 0, x.getD 0 0, x.getD 1 0, 0, fs, []⟩, decide ((l.drop 3).length % 2 = 0)))
      else if k = 6 then (⟨k, who, 0, 0, x.getD 1 0, x.getD 0 0, [], []⟩, decide (l.length = 3))
      else (⟨k, who, x.getD 0 0, 0, 0, 0, [], []⟩, decide (l.length = 2))
  else
    match intsR l with
    | none => (act0 k, false)
    | some x => if k = 3 then (act0 k, decide (x.length = 0)) else if k = 4 then (⟨k, ⟨#[]⟩, 0, 0, 0, 0, [], x⟩, true) else if x.length = 1 then (⟨k, ⟨#[]⟩, 0, 0, 0, x.getD 0 0, [], []⟩, true) else (act0 k, false)
end Go.Proofs.YtglekdhdogjnoaaGreatDoor
