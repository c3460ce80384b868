/- Plain facts about byte strings and decimal numerals, with no program in sight. -/
import Derived.Lib.ItoaNum
import Derived.Lib.Hide
import Derived.Lib.Join
namespace Go.Proofs.YtglekdhdogjnoaaDoor
/-- A string of bytes, of a list. A plain definition: the walk does not look behind it. -/
def S (l : List UInt8) : ByteArray := ⟨l.toArray⟩
theorem S_size (l : List UInt8) : (S l).size = l.length := by simp [S, ByteArray.size]
theorem S_list (l : List UInt8) : (S l).data.toList = l := by simp [S]
theorem S_of (b : ByteArray) : S b.data.toList = b := by cases b; simp [S]
theorem S_append (a b : List UInt8) : S a ++ S b = S (a ++ b) := by
  apply ByteArray.ext; simp [S, ByteArray.data_append]
theorem S_lit_app (a : Array UInt8) (b : List UInt8) : (⟨a⟩ : ByteArray) ++ S b = S (a.toList ++ b) := by
  rw [← S_append, show S a.toList = (⟨a⟩ : ByteArray) from by simp [S]]
theorem S_extract (l : List UInt8) (i j : Nat) : (S l).extract i j = S ((l.take j).drop i) := by
  apply ByteArray.ext
  simp only [S, ByteArray.data_extract, List.extract_toArray, List.extract_eq_take_drop]
  congr 1
  rw [List.drop_take]

theorem itoa_one (n : Int) (h0 : 0 ≤ n) (h : n < 10) : Lib.itoa n = [UInt8.ofNat (48 + n.toNat)] := by
  unfold Lib.itoa
  rw [if_neg (by omega), Lib.decDigits, dif_pos (by omega)]
theorem decDigits_le (u : Nat) (h : u < 10 ^ 19) : (Lib.decDigits u).length ≤ 19 := by
  have key : ∀ k u : Nat, u < 10 ^ (k + 1) → (Lib.decDigits u).length ≤ k + 1 := by
    intro k
    induction k with
    | zero => intro u h; rw [Lib.decDigits, dif_pos (by simpa using h)]; simp
    | succ k ih =>
      intro u h
      rw [Lib.decDigits]
      split
      · simp
      · have := ih (u / 10) (by rw [Nat.pow_succ] at h; omega)
        simp; omega
  exact key 18 u h
theorem itoa_le (n : Int) (h0 : -9223372036854775808 ≤ n) (h1 : n ≤ 9223372036854775807) : (Lib.itoa n).length ≤ 20 := by
  unfold Lib.itoa
  split
  · have := decDigits_le n.natAbs (by omega); simp; omega
  · have := decDigits_le n.toNat (by omega); omega
def largeB (n : Int) : Bool := decide (n < -1099511627776) || decide (1099511627776 < n)
def hexD (n : Nat) : UInt8 := if n < 10 then UInt8.ofNat (48 + n) else UInt8.ofNat (87 + n)
def escB (c : UInt8) : List UInt8 :=
  if c.toNat = 34 ∨ c.toNat = 92 then [92, c] else if c.toNat = 10 then [92, 110] else if c.toNat < 32 ∨ 126 < c.toNat then [92, 120, hexD (c.toNat / 16), hexD (c.toNat % 16)] else [c]
def quoteL (l : List UInt8) : List UInt8 := 34 :: l.flatMap escB ++ [34]
theorem escB_le (c : UInt8) : (escB c).length ≤ 4 := by unfold escB; split <;> (try split) <;> (try split) <;> simp
theorem quote_le (l : List UInt8) : (l.flatMap escB).length ≤ 4 * l.length := by
  induction l with
  | nil => simp
  | cons c l ih => have := escB_le c; simp only [List.flatMap_cons, List.length_append, List.length_cons]; omega
/-- What has been written behind k bytes. -/
def qs (s : ByteArray) (k : Nat) : ByteArray := S (34 :: (s.data.toList.take k).flatMap escB)
theorem qs_size (s : ByteArray) (k : Nat) : (qs s k).size ≤ 4 * k + 1 := by
  have := quote_le (s.data.toList.take k)
  have h2 := List.length_take_le k s.data.toList
  simp only [qs, S_size, List.length_cons]; omega
theorem take_snoc (s : ByteArray) (k : Nat) (h : k < s.size) : s.data.toList.take (k + 1) = s.data.toList.take k ++ [s[k]] := by
  rw [List.take_succ_eq_append_getElem (by simpa using h)]; rfl
theorem esc1 {c : UInt8} (h : c.toNat = 34 ∨ c.toNat = 92) : escB c = [92, c] := by rw [escB, if_pos h]
theorem esc2 {c : UInt8} (h : c.toNat = 10) : escB c = [92, 110] := by rw [escB, if_neg (by omega), if_pos h]
theorem esc3 {c : UInt8} (h3 : ¬ c.toNat = 10) (h : c.toNat < 32 ∨ 126 < c.toNat) : escB c = [92, 120, hexD (c.toNat / 16), hexD (c.toNat % 16)] := by
  rw [escB, if_neg (by omega), if_neg h3, if_pos h]
theorem esc4 {c : UInt8} (h1 : ¬ c.toNat = 34) (h2 : ¬ c.toNat = 92) (h3 : ¬ c.toNat = 10) (h : ¬ (c.toNat < 32 ∨ 126 < c.toNat)) : escB c = [c] := by
  rw [escB, if_neg (by omega), if_neg h3, if_neg h]
theorem beq_t {a : Nat} {n : Int} (h : (a : Int) = n) : ((a : Int) == n) = true := by rw [beq_iff_eq]; exact h
theorem beq_f {a : Nat} {n : Int} (h : ¬ (a : Int) = n) : ((a : Int) == n) = false := by rw [beq_eq_false_iff_ne]; exact h
def I64 (n : Int) : Prop := -9223372036854775808 ≤ n ∧ n ≤ 9223372036854775807
def numsL (xs : List Int) : List UInt8 := xs.flatMap fun x => 32 :: Lib.itoa x
def ns (xs : List Int) (k : Nat) : ByteArray := S (numsL (xs.take k))
theorem numsL_le (xs : List Int) (h : ∀ x ∈ xs, I64 x) : (numsL xs).length ≤ 21 * xs.length := by
  induction xs with
  | nil => simp [numsL]
  | cons x xs ih =>
    have h1 := itoa_le x (h x (by simp)).1 (h x (by simp)).2
    have h2 := ih (fun y hy => h y (by simp [hy]))
    simp only [numsL, List.flatMap_cons, List.length_append, List.length_cons] at *; omega
end Go.Proofs.YtglekdhdogjnoaaDoor
