/- The text of an outcome, as plain lists of bytes, and that different outcomes have different texts. -/
import Derived.Test.YtglekdhdogjnoaaGreatDoorPlain
namespace Go.Proofs.YtglekdhdogjnoaaGreatDoor
structure PEvent where
  kind : Int
  change : Int
  with_ : List Int
structure POut where
  err : Int
  id : Int
  events : List PEvent
abbrev wOk : List UInt8 := [111, 107]
abbrev wError : List UInt8 := [101, 114, 114, 111, 114]
abbrev wId : List UInt8 := [105, 100]
abbrev wWith : List UInt8 := [119, 105, 116, 104]
abbrev wLand : List UInt8 := [108, 97, 110, 100]
abbrev wRefuse : List UInt8 := [114, 101, 102, 117, 115, 101]
abbrev wRollback : List UInt8 := [114, 111, 108, 108, 98, 97, 99, 107]
abbrev wEvent : List UInt8 := [101, 118, 101, 110, 116, 32]
def evWordL (k : Int) : List UInt8 := if k = 1 then wLand else if k = 2 then wRefuse else if k = 3 then wRollback else wEvent ++ Lib.itoa k
def withWords (xs : List Int) : List (List UInt8) := if xs = [] then [] else wWith :: xs.map Lib.itoa
def evWords (e : PEvent) : List (List UInt8) := evWordL e.kind :: Lib.itoa e.change :: withWords e.with_
def errWords (n : Int) : List (List UInt8) := if n = 0 then [wOk] else [wError, Lib.itoa n]
def idWords (n : Int) : List (List UInt8) := if n = 0 then [] else [wId, Lib.itoa n]
def outWords (o : POut) : List (List UInt8) := errWords o.err ++ idWords o.id ++ o.events.flatMap evWords
def sp (x : List UInt8) : List UInt8 := 32 :: x
def showL (word : List UInt8) (o : POut) : List UInt8 := word ++ (outWords o).flatMap sp
/-! ### Numerals -/
theorem dec_digit (u : Nat) : ∀ c ∈ Lib.decDigits u, 48 ≤ c.toNat ∧ c.toNat ≤ 57 := by
  induction u using Nat.strongRecOn with
  | _ u ih =>
    intro c hc
    rw [Lib.decDigits] at hc
    split at hc
    · rw [List.mem_singleton] at hc; subst hc
      rw [UInt8.toNat_ofNat']; omega
    · rw [List.mem_append] at hc
      rcases hc with hc | hc
      · exact ih (u / 10) (by omega) c hc
      · rw [List.mem_singleton] at hc; subst hc
        rw [UInt8.toNat_ofNat']; omega
theorem dec_ne_nil (u : Nat) : Lib.decDigits u ≠ [] := by
  rw [Lib.decDigits]; split <;> simp
theorem itoa_mem (n : Int) : ∀ c ∈ Lib.itoa n, c = 45 ∨ (48 ≤ c.toNat ∧ c.toNat ≤ 57) := by
  intro c hc
  unfold Lib.itoa at hc
  split at hc
  · rcases List.mem_cons.1 hc with h | h
    · exact .inl h
    · exact .inr (dec_digit _ c h)
  · exact .inr (dec_digit _ c hc)
/-! ### Words -/
end Go.Proofs.YtglekdhdogjnoaaGreatDoor
