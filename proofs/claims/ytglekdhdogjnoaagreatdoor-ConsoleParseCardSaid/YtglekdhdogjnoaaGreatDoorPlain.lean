/- Plain facts about byte strings and decimal numerals, with no program in sight. -/
import Derived.Lib.ItoaNum
import Derived.Lib.Hide
import Derived.Lib.Join
namespace Go.Proofs.YtglekdhdogjnoaaGreatDoor
/-- A string of bytes, of a list. A plain definition: the walk does not look behind it. -/
def S (l : List UInt8) : ByteArray := ⟨l.toArray⟩
theorem S_size (l : List UInt8) : (S l).size = l.length := by simp [S, ByteArray.size]
theorem S_list (l : List UInt8) : (S l).data.toList = l := by simp [S]
theorem S_of (b : ByteArray) : S b.data.toList = b := by cases b; simp [S]
theorem S_append (a b : List UInt8) : S a ++ S b = S (a ++ b) := by
  apply ByteArray.ext; simp [S, ByteArray.data_append]
theorem S_app_lit (a : List UInt8) (b : Array UInt8) : S a ++ (⟨b⟩ : ByteArray) = S (a ++ b.toList) := by
  rw [← S_append, show S b.toList = (⟨b⟩ : ByteArray) from by simp [S]]
theorem S_lit_app (a : Array UInt8) (b : List UInt8) : (⟨a⟩ : ByteArray) ++ S b = S (a.toList ++ b) := by
  rw [← S_append, show S a.toList = (⟨a⟩ : ByteArray) from by simp [S]]
theorem S_extract (l : List UInt8) (i j : Nat) : (S l).extract i j = S ((l.take j).drop i) := by
  apply ByteArray.ext
  simp only [S, ByteArray.data_extract, List.extract_toArray, List.extract_eq_take_drop]
  congr 1
  rw [List.drop_take]

theorem digs_fin : ∀ d : Fin 10, (⟨#[48, 49, 50, 51, 52, 53, 54, 55, 56, 57]⟩ : ByteArray).extract d.val (d.val + 1) = S [UInt8.ofNat (48 + d.val)] := by decide +kernel
theorem dig_at (n : Int) (h0 : 0 ≤ n) (h1 : n < 10) : (⟨#[48, 49, 50, 51, 52, 53, 54, 55, 56, 57]⟩ : ByteArray).extract n.toNat (n + 1).toNat = S [UInt8.ofNat (48 + n.toNat)] := by
  have := digs_fin ⟨n.toNat, by omega⟩
  rw [show (n + 1).toNat = n.toNat + 1 by omega]
  exact this

theorem itoa_last (n : Int) (h : n.tdiv 10 ≠ 0) : Lib.itoa n = Lib.itoa (n.tdiv 10) ++ [UInt8.ofNat (48 + (n.tmod 10).natAbs)] := by
  unfold Lib.itoa
  by_cases hn : n < 0
  · have e1 : n.tdiv 10 = - ((n.natAbs / 10 : Nat) : Int) := by
      rw [show n = - (n.natAbs : Int) by omega, Int.neg_tdiv]; simp
    have e2 : (n.tmod 10).natAbs = n.natAbs % 10 := by
      rw [Int.natAbs_tmod]; rfl
    have h1 : n.tdiv 10 < 0 := by omega
    rw [if_pos hn, if_pos h1, e2, Lib.decDigits, dif_neg (by omega), show (n.tdiv 10).natAbs = n.natAbs / 10 by omega]
    simp
  · have e1 : n.tdiv 10 = ((n.toNat / 10 : Nat) : Int) := by
      rw [Int.tdiv_eq_ediv_of_nonneg (by omega)]; omega
    have e2 : (n.tmod 10).natAbs = n.toNat % 10 := by
      rw [Int.natAbs_tmod, show n.natAbs = n.toNat by omega]; rfl
    rw [if_neg hn, if_neg (by omega), e2, Lib.decDigits, dif_neg (by omega), show (n.tdiv 10).toNat = n.toNat / 10 by omega]
theorem itoa_pos (n : Int) (h : 10 ≤ n) : Lib.itoa n = Lib.itoa (n / 10) ++ [UInt8.ofNat (48 + (n % 10).toNat)] := by
  have := itoa_last n (by rw [Int.tdiv_eq_ediv_of_nonneg (by omega)]; omega)
  rw [this, Int.tdiv_eq_ediv_of_nonneg (by omega), Int.tmod_eq_emod_of_nonneg (by omega), show (n % 10).natAbs = (n % 10).toNat by omega]
theorem itoa_one (n : Int) (h0 : 0 ≤ n) (h : n < 10) : Lib.itoa n = [UInt8.ofNat (48 + n.toNat)] := by
  unfold Lib.itoa
  rw [if_neg (by omega), Lib.decDigits, dif_pos (by omega)]
theorem itoa_one_neg (n : Int) (h0 : n < 0) (h : -10 < n) : Lib.itoa n = [45, UInt8.ofNat (48 + (-n).toNat)] := by
  unfold Lib.itoa
  rw [if_pos (by omega), Lib.decDigits, dif_pos (by omega), show n.natAbs = (-n).toNat by omega]
theorem decDigits_le (u : Nat) (h : u < 10 ^ 19) : (Lib.decDigits u).length ≤ 19 := by
  have key : ∀ k u : Nat, u < 10 ^ (k + 1) → (Lib.decDigits u).length ≤ k + 1 := by
    intro k
    induction k with
    | zero => intro u h; rw [Lib.decDigits, dif_pos (by simpa using h)]; simp
    | succ k ih =>
      intro u h
      rw [Lib.decDigits]
      split
      · simp
      · have := ih (u / 10) (by rw [Nat.pow_succ] at h; omega)
        simp; omega
  exact key 18 u h
theorem itoa_le (n : Int) (h0 : -9223372036854775808 ≤ n) (h1 : n ≤ 9223372036854775807) : (Lib.itoa n).length ≤ 20 := by
  unfold Lib.itoa
  split
  · have := decDigits_le n.natAbs (by omega); simp; omega
  · have := decDigits_le n.toNat (by omega); omega
def largeB (n : Int) : Bool := decide (n < -1099511627776) || decide (1099511627776 < n)
def hexD (n : Nat) : UInt8 := if n < 10 then UInt8.ofNat (48 + n) else UInt8.ofNat (87 + n)
def escB (c : UInt8) : List UInt8 :=
  if c.toNat = 34 ∨ c.toNat = 92 then [92, c] else if c.toNat = 10 then [92, 110] else if c.toNat < 32 ∨ 126 < c.toNat then [92, 120, hexD (c.toNat / 16), hexD (c.toNat % 16)] else [c]
def quoteL (l : List UInt8) : List UInt8 := 34 :: l.flatMap escB ++ [34]
theorem escB_le (c : UInt8) : (escB c).length ≤ 4 := by unfold escB; split <;> (try split) <;> (try split) <;> simp
theorem quote_le (l : List UInt8) : (l.flatMap escB).length ≤ 4 * l.length := by
  induction l with
  | nil => simp
  | cons c l ih => have := escB_le c; simp only [List.flatMap_cons, List.length_append, List.length_cons]; omega
/-- What has been written behind k bytes. -/
def qs (s : ByteArray) (k : Nat) : ByteArray := S (34 :: (s.data.toList.take k).flatMap escB)
theorem qs_size (s : ByteArray) (k : Nat) : (qs s k).size ≤ 4 * k + 1 := by
  have := quote_le (s.data.toList.take k)
  have h2 := List.length_take_le k s.data.toList
  simp only [qs, S_size, List.length_cons]; omega
theorem take_snoc (s : ByteArray) (k : Nat) (h : k < s.size) : s.data.toList.take (k + 1) = s.data.toList.take k ++ [s[k]] := by
  rw [List.take_succ_eq_append_getElem (by simpa using h)]; rfl
theorem ext_one (s : ByteArray) (k : Nat) (h : k < s.size) : s.extract k (k + 1) = S [s[k]] := by
  conv => lhs; rw [← S_of s]
  rw [S_extract, take_snoc s k h, List.drop_append_of_le_length (by simp; omega), List.drop_eq_nil_of_le (by simp; omega)]
  rfl
theorem qs_succ (s : ByteArray) (k : Nat) (h : k < s.size) : qs s (k + 1) = qs s k ++ S (escB s[k]) := by
  rw [qs, take_snoc s k h, List.flatMap_append, qs, S_append]; simp
theorem qs_end (s : ByteArray) (k : Nat) (h : s.size ≤ k) : qs s k ++ ⟨#[34]⟩ = S (quoteL s.data.toList) := by
  rw [qs, List.take_of_length_le (by simpa using h), S_app_lit]; rfl
theorem hex_fin : ∀ d : Fin 16, (⟨#[48, 49, 50, 51, 52, 53, 54, 55, 56, 57, 97, 98, 99, 100, 101, 102]⟩ : ByteArray).extract d.val (d.val + 1) = S [hexD d.val] := by decide +kernel
theorem hex_at (n : Nat) (h1 : n < 16) : (⟨#[48, 49, 50, 51, 52, 53, 54, 55, 56, 57, 97, 98, 99, 100, 101, 102]⟩ : ByteArray).extract n (n + 1) = S [hexD n] := hex_fin ⟨n, h1⟩
theorem esc1 {c : UInt8} (h : c.toNat = 34 ∨ c.toNat = 92) : escB c = [92, c] := by rw [escB, if_pos h]
theorem esc2 {c : UInt8} (h : c.toNat = 10) : escB c = [92, 110] := by rw [escB, if_neg (by omega), if_pos h]
theorem esc3 {c : UInt8} (h3 : ¬ c.toNat = 10) (h : c.toNat < 32 ∨ 126 < c.toNat) : escB c = [92, 120, hexD (c.toNat / 16), hexD (c.toNat % 16)] := by
  rw [escB, if_neg (by omega), if_neg h3, if_pos h]
theorem esc4 {c : UInt8} (h1 : ¬ c.toNat = 34) (h2 : ¬ c.toNat = 92) (h3 : ¬ c.toNat = 10) (h : ¬ (c.toNat < 32 ∨ 126 < c.toNat)) : escB c = [c] := by
  rw [escB, if_neg (by omega), if_neg h3, if_neg h]
theorem qs1 (s : ByteArray) (k : Nat) (hk : k < s.size) (h : s[k].toNat = 34 ∨ s[k].toNat = 92) : qs s k ++ ⟨#[92]⟩ ++ s.extract k (k + 1) = qs s (k + 1) := by
  rw [qs_succ s k hk, esc1 h, ext_one s k hk, ByteArray.append_assoc, S_lit_app]; rfl
theorem qs2 (s : ByteArray) (k : Nat) (hk : k < s.size) (h : s[k].toNat = 10) : qs s k ++ ⟨#[92, 110]⟩ = qs s (k + 1) := by
  rw [qs_succ s k hk, esc2 h]; rfl
theorem qs3 (s : ByteArray) (k : Nat) (hk : k < s.size) (h3 : ¬ s[k].toNat = 10) (h : s[k].toNat < 32 ∨ 126 < s[k].toNat) :
    qs s k ++ ⟨#[92, 120]⟩ ++ (⟨#[48, 49, 50, 51, 52, 53, 54, 55, 56, 57, 97, 98, 99, 100, 101, 102]⟩ : ByteArray).extract (s[k].toNat / 16) (s[k].toNat / 16 + 1) ++ (⟨#[48, 49, 50, 51, 52, 53, 54, 55, 56, 57, 97, 98, 99, 100, 101, 102]⟩ : ByteArray).extract (s[k].toNat % 16) (s[k].toNat % 16 + 1) = qs s (k + 1) := by
  have hc := s[k].toNat_lt
  rw [qs_succ s k hk, esc3 h3 h, hex_at _ (by omega), hex_at _ (by omega), ByteArray.append_assoc, ByteArray.append_assoc, S_append, S_lit_app]; rfl
theorem qs4 (s : ByteArray) (k : Nat) (hk : k < s.size) (h1 : ¬ s[k].toNat = 34) (h2 : ¬ s[k].toNat = 92) (h3 : ¬ s[k].toNat = 10) (h : ¬ (s[k].toNat < 32 ∨ 126 < s[k].toNat)) : qs s k ++ s.extract k (k + 1) = qs s (k + 1) := by
  rw [qs_succ s k hk, esc4 h1 h2 h3 h, ext_one s k hk]
theorem beq_t {a : Nat} {n : Int} (h : (a : Int) = n) : ((a : Int) == n) = true := by rw [beq_iff_eq]; exact h
theorem beq_f {a : Nat} {n : Int} (h : ¬ (a : Int) = n) : ((a : Int) == n) = false := by rw [beq_eq_false_iff_ne]; exact h
def I64 (n : Int) : Prop := -9223372036854775808 ≤ n ∧ n ≤ 9223372036854775807
def numsL (xs : List Int) : List UInt8 := xs.flatMap fun x => 32 :: Lib.itoa x
def ns (xs : List Int) (k : Nat) : ByteArray := S (numsL (xs.take k))
theorem numsL_le (xs : List Int) (h : ∀ x ∈ xs, I64 x) : (numsL xs).length ≤ 21 * xs.length := by
  induction xs with
  | nil => simp [numsL]
  | cons x xs ih =>
    have h1 := itoa_le x (h x (by simp)).1 (h x (by simp)).2
    have h2 := ih (fun y hy => h y (by simp [hy]))
    simp only [numsL, List.flatMap_cons, List.length_append, List.length_cons] at *; omega
theorem ns_size (xs : List Int) (h : ∀ x ∈ xs, I64 x) (k : Nat) : (ns xs k).size ≤ 21 * xs.length := by
  have := numsL_le (xs.take k) (fun x hx => h x (List.mem_of_mem_take hx))
  have h2 := List.length_take_le' k xs
  rw [ns, S_size]; omega
theorem ns_succ (xs : List Int) (k : Nat) (x : Int) (h : xs[k]? = some x) : ns xs k ++ ⟨#[32]⟩ ++ S (Lib.itoa x) = ns xs (k + 1) := by
  rw [ns, ns, List.take_add_one, h, numsL, numsL, List.flatMap_append, ByteArray.append_assoc, S_lit_app, S_append]
  simp
theorem ns_end (xs : List Int) (k : Nat) (h : xs.length ≤ k) : ns xs k = S (numsL xs) := by
  rw [ns, List.take_of_length_le h]
end Go.Proofs.YtglekdhdogjnoaaGreatDoor
