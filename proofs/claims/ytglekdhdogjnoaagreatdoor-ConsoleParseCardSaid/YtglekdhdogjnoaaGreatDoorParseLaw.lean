/- Lines and their parts, as plain lists of bytes: what is parsed, and that the line of an input is parsed to it. -/
import Derived.Test.YtglekdhdogjnoaaGreatDoorRefB
import Derived.Test.YtglekdhdogjnoaaGreatDoorShowLaw
import Derived.Lib.AtoiAll
namespace Go.Proofs.YtglekdhdogjnoaaGreatDoor
open Go.RowKit
structure PPart where
  quoted : Bool
  text : ByteArray
def hexV (c : UInt8) : Option Nat := if 48 ≤ c.toNat ∧ c.toNat ≤ 57 then some (c.toNat - 48) else if 97 ≤ c.toNat ∧ c.toNat ≤ 102 then some (c.toNat - 87) else none
def hexPair (l : List UInt8) : Option UInt8 :=
  match l with
  | h :: g :: _ => (match hexV h, hexV g with | some a, some b => some (UInt8.ofNat (16 * a + b)) | _, _ => none)
  | _ => none
/-- The byte behind a backslash, and how many bytes stand for it. -/
def unesc (l : List UInt8) : Option (UInt8 × Nat) :=
  match l with
  | [] => none
  | c :: r => if c.toNat = 34 ∨ c.toNat = 92 then some (c, 1) else if c.toNat = 110 then some (10, 1) else if c.toNat = 120 then (hexPair r).map fun b => (b, 3) else none
/-- The same, as the reference has it: any other byte stands for itself. -/
def unescR (l : List UInt8) : Option (UInt8 × Nat) :=
  match l with
  | [] => none
  | c :: r => if c.toNat = 110 then some (10, 1) else match (if c.toNat = 120 then hexPair r else none) with | some b => some (b, 3) | none => some (c, 1)
def unqF (e : List UInt8 → Option (UInt8 × Nat)) : Nat → List UInt8 → Option (List UInt8 × List UInt8)
  | 0, _ => none
  | _ + 1, [] => none
  | f + 1, c :: r => if c.toNat = 34 then some ([], r) else if c.toNat = 92 then (match e r with | none => none | some (b, n) => (unqF e f (r.drop n)).map fun x => (b :: x.1, x.2)) else (unqF e f r).map fun x => (c :: x.1, x.2)
def Esc (e : List UInt8 → Option (UInt8 × Nat)) : Prop := ∀ (c : UInt8) (t rest : List UInt8), escB c = 92 :: t → e (t ++ rest) = some (c, t.length)
theorem hexV_D : ∀ n : Fin 16, hexV (hexD n.val) = some n.val := by decide +kernel
theorem hexPair_D (c : UInt8) (rest : List UInt8) : hexPair (hexD (c.toNat / 16) :: hexD (c.toNat % 16) :: rest) = some c := by
  have hc := c.toNat_lt
  have h1 := hexV_D ⟨c.toNat / 16, by omega⟩
  have h2 := hexV_D ⟨c.toNat % 16, by omega⟩
  simp only at h1 h2
  simp only [hexPair, h1, h2]
  congr 1
  apply UInt8.toNat_inj.1
  rw [UInt8.toNat_ofNat']; omega
theorem esc_cases (c : UInt8) : ((c.toNat = 34 ∨ c.toNat = 92) ∧ escB c = [92, c]) ∨ (c.toNat = 10 ∧ escB c = [92, 110]) ∨ (escB c = [92, 120, hexD (c.toNat / 16), hexD (c.toNat % 16)]) ∨ (c.toNat ≠ 34 ∧ c.toNat ≠ 92 ∧ escB c = [c]) := by
  by_cases h1 : c.toNat = 34 ∨ c.toNat = 92
  · exact .inl ⟨h1, esc1 h1⟩
  by_cases h2 : c.toNat = 10
  · exact .inr (.inl ⟨h2, esc2 h2⟩)
  by_cases h3 : c.toNat < 32 ∨ 126 < c.toNat
  · exact .inr (.inr (.inl (esc3 h2 h3)))
  · exact .inr (.inr (.inr ⟨by omega, by omega, esc4 (by omega) (by omega) h2 h3⟩))
theorem u92 : (92 : UInt8).toNat = 92 := rfl
theorem u34 : (34 : UInt8).toNat = 34 := rfl
theorem u110 : (110 : UInt8).toNat = 110 := rfl
theorem u120 : (120 : UInt8).toNat = 120 := rfl
theorem esc_unesc : Esc unesc := by
  intro c t rest h
  rcases esc_cases c with ⟨h1, e⟩ | ⟨h1, e⟩ | e | ⟨h1, h2, e⟩
  · rw [e] at h; obtain ⟨-, rfl⟩ := List.cons.inj h
    simp only [List.cons_append, List.nil_append, unesc, h1, if_true, List.length_cons, List.length_nil]
  · rw [e] at h; obtain ⟨-, rfl⟩ := List.cons.inj h
    have : c = 10 := by apply UInt8.toNat_inj.1; rw [h1]; rfl
    subst this
    simp [unesc, u110]
  · rw [e] at h; obtain ⟨-, rfl⟩ := List.cons.inj h
    simp [unesc, u120, hexPair_D]
  · rw [e] at h; obtain ⟨h, -⟩ := List.cons.inj h
    rw [h] at h2; exact absurd u92 h2
theorem unq_enc {e : List UInt8 → Option (UInt8 × Nat)} (he : Esc e) : ∀ (t rest : List UInt8) (f : Nat), t.length < f → unqF e f (t.flatMap escB ++ 34 :: rest) = some (t, rest)
  | [], rest, f + 1, _ => by simp [unqF, u34]
  | c :: t, rest, f + 1, hf => by
    have ih := unq_enc he t rest f (by simpa using hf)
    rw [List.flatMap_cons, List.append_assoc]
    rcases esc_cases c with ⟨h1, e1⟩ | ⟨h1, e1⟩ | e1 | ⟨h1, h2, e1⟩
    · have := he c _ (t.flatMap escB ++ 34 :: rest) e1
      rw [e1]
      simp only [List.cons_append, unqF, u92, Nat.reduceEqDiff, if_false, if_true]
      rw [show (c :: ([] ++ (t.flatMap escB ++ 34 :: rest))) = [c] ++ (t.flatMap escB ++ 34 :: rest) from rfl, this]
      simp [ih]
    · have := he c _ (t.flatMap escB ++ 34 :: rest) e1
      rw [e1]
      simp only [List.cons_append, unqF, u92, Nat.reduceEqDiff, if_false, if_true]
      rw [show (110 :: ([] ++ (t.flatMap escB ++ 34 :: rest))) = [110] ++ (t.flatMap escB ++ 34 :: rest) from rfl, this]
      simp [ih]
    · have := he c _ (t.flatMap escB ++ 34 :: rest) e1
      rw [e1]
      simp only [List.cons_append, unqF, u92, Nat.reduceEqDiff, if_false, if_true]
      rw [show (120 :: hexD (c.toNat / 16) :: hexD (c.toNat % 16) :: ([] ++ (t.flatMap escB ++ 34 :: rest))) = [120, hexD (c.toNat / 16), hexD (c.toNat % 16)] ++ (t.flatMap escB ++ 34 :: rest) from rfl, this]
      simp [ih]
    · rw [e1]
      simp only [List.cons_append, List.nil_append, unqF, h1, h2, if_false, ih, Option.map_some]
theorem unqF_le {e : List UInt8 → Option (UInt8 × Nat)} : ∀ (f : Nat) (l t r : List UInt8), unqF e f l = some (t, r) → t.length + r.length < l.length
  | 0, l, t, r, h => by simp [unqF] at h
  | f + 1, [], t, r, h => by simp [unqF] at h
  | f + 1, c :: l, t, r, h => by
    simp only [unqF] at h
    split at h
    · simp at h; obtain ⟨rfl, rfl⟩ := h; simp
    split at h
    · split at h
      · simp at h
      · rename_i b n hb
        simp only [Option.map_eq_some_iff, Prod.mk.injEq] at h
        obtain ⟨x, hx, rfl, rfl⟩ := h
        have := unqF_le f _ _ _ hx
        simp at this ⊢; omega
    · simp only [Option.map_eq_some_iff, Prod.mk.injEq] at h
      obtain ⟨x, hx, rfl, rfl⟩ := h
      have := unqF_le f _ _ _ hx
      simp at this ⊢; omega
def notSp (c : UInt8) : Bool := c.toNat != 32
/-- The first part of a line, and what follows it. -/
def partF (e : List UInt8 → Option (UInt8 × Nat)) (l : List UInt8) : Option (PPart × List UInt8) :=
  match l with
  | [] => some (⟨false, S []⟩, [])
  | c :: r => if c.toNat = 34 then (unqF e (r.length + 1) r).map fun x => (⟨true, S x.1⟩, x.2) else some (⟨false, S ((c :: r).takeWhile notSp)⟩, (c :: r).dropWhile notSp)
def splitF (e : List UInt8 → Option (UInt8 × Nat)) : Nat → List UInt8 → Option (List PPart)
  | 0, _ => none
  | f + 1, l =>
    match partF e l with
    | none => none
    | some (p, []) => some [p]
    | some (p, c :: r) => if c.toNat = 32 then (splitF e f r).map (p :: ·) else none
def encP (p : PPart) : List UInt8 := if p.quoted then quoteL p.text.data.toList else p.text.data.toList
def joinP : List PPart → List UInt8
  | [] => []
  | p :: ps => encP p ++ ps.flatMap fun q => 32 :: encP q
def GoodP (p : PPart) : Prop := p.quoted = false → (∀ c ∈ p.text.data.toList, notSp c = true) ∧ (∀ c, p.text.data.toList.head? = some c → c.toNat ≠ 34)
theorem takeW {l r : List UInt8} (h : ∀ c ∈ l, notSp c = true) (hr : r = [] ∨ ∃ t, r = 32 :: t) : (l ++ r).takeWhile notSp = l ∧ (l ++ r).dropWhile notSp = r := by
  induction l with
  | nil =>
    rcases hr with rfl | ⟨t, rfl⟩
    · exact ⟨rfl, rfl⟩
    · have : notSp 32 = false := by decide
      simp [this]
  | cons c l ih =>
    have h1 := h c (by simp)
    obtain ⟨a, b⟩ := ih (fun x hx => h x (by simp [hx]))
    simp [h1, a, b]
theorem part_enc {e : List UInt8 → Option (UInt8 × Nat)} (he : Esc e) (p : PPart) (hp : GoodP p) (r : List UInt8) (hr : r = [] ∨ ∃ t, r = 32 :: t) : partF e (encP p ++ r) = some (p, r) := by
  obtain ⟨q, t⟩ := p
  cases q
  · obtain ⟨h1, h2⟩ := hp rfl
    simp only [encP, Bool.false_eq_true, if_false] at *
    obtain ⟨a, b⟩ := takeW h1 hr
    cases hl : t.data.toList ++ r with
    | nil =>
      rw [List.append_eq_nil_iff] at hl
      have ht : t = S [] := by rw [← S_of t, hl.1]
      rw [partF, hl.2, ht]
    | cons c l =>
      have hc : c.toNat ≠ 34 := by
        cases ht : t.data.toList with
        | nil =>
          rw [ht] at hl
          rcases hr with rfl | ⟨s, rfl⟩
          · simp at hl
          · simp at hl; rw [← hl.1]; decide
        | cons d s =>
          rw [ht] at hl
          simp at hl
          rw [← hl.1]; exact h2 d (by rw [ht]; rfl)
      rw [partF]
      simp only [hc, if_false]
      rw [← hl, a, b, S_of]
  · have hq : encP ⟨true, t⟩ ++ r = 34 :: (t.data.toList.flatMap escB ++ 34 :: r) := by simp [encP, quoteL]
    rw [hq, partF]
    simp only [u34, if_true]
    have hlen : ∀ l : List UInt8, l.length ≤ (l.flatMap escB).length := by
      intro l
      induction l with
      | nil => simp
      | cons c l ih =>
        have : 1 ≤ (escB c).length := by rcases esc_cases c with ⟨_, e⟩ | ⟨_, e⟩ | e | ⟨_, _, e⟩ <;> rw [e] <;> simp
        simp only [List.flatMap_cons, List.length_append, List.length_cons]; omega
    rw [unq_enc he _ _ _ (by have := hlen t.data.toList; simp only [List.length_append]; omega)]
    simp [S_of]
theorem flat_head (ps : List PPart) : (ps.flatMap fun q => 32 :: encP q) = [] ∨ ∃ t, (ps.flatMap fun q => 32 :: encP q) = 32 :: t := by
  cases ps with
  | nil => exact .inl rfl
  | cons p ps => exact .inr ⟨_, by simp only [List.flatMap_cons, List.cons_append]; rfl⟩
theorem u32 : (32 : UInt8).toNat = 32 := rfl
theorem split_enc {e : List UInt8 → Option (UInt8 × Nat)} (he : Esc e) : ∀ (p : PPart) (ps : List PPart) (f : Nat), GoodP p → (∀ q ∈ ps, GoodP q) → ps.length < f → splitF e f (joinP (p :: ps)) = some (p :: ps)
  | p, [], f + 1, hp, _, _ => by
    have := part_enc he p hp [] (.inl rfl)
    rw [List.append_nil] at this
    simp only [splitF, joinP, List.flatMap_nil, List.append_nil, this]
  | p, q :: ps, f + 1, hp, hps, hf => by
    have h1 := part_enc he p hp _ (flat_head (q :: ps))
    have ih := split_enc he q ps f (hps q (by simp)) (fun x hx => hps x (by simp [hx])) (by simpa using hf)
    simp only [splitF, joinP, h1]
    simp only [List.flatMap_cons, List.cons_append, u32, if_true]
    rw [show encP q ++ (ps.flatMap fun q => 32 :: encP q) = joinP (q :: ps) from rfl, ih]
    rfl
/-- What a part weighs in its line. -/
def wt (p : PPart) : Nat := p.text.size + if p.quoted then 3 else 1
def wts (ps : List PPart) : Nat := (ps.map wt).sum
theorem take_drop_len (l : List UInt8) : (l.takeWhile notSp).length + (l.dropWhile notSp).length = l.length := by
  rw [← List.length_append, List.takeWhile_append_dropWhile]
theorem partF_le {e : List UInt8 → Option (UInt8 × Nat)} {l r : List UInt8} {p : PPart} (h : partF e l = some (p, r)) : wt p + r.length ≤ l.length + 1 := by
  unfold partF at h
  split at h
  · simp at h; obtain ⟨rfl, rfl⟩ := h; simp [wt, S_size]
  · split at h
    · simp only [Option.map_eq_some_iff, Prod.mk.injEq] at h
      obtain ⟨x, hx, rfl, rfl⟩ := h
      have := unqF_le _ _ _ _ hx
      simp [wt, S_size]; omega
    · simp only [Option.some.injEq, Prod.mk.injEq] at h
      obtain ⟨rfl, rfl⟩ := h
      rename_i c r' _
      have := take_drop_len (c :: r')
      simp only [wt, S_size, Bool.false_eq_true, if_false]; omega
theorem splitF_le {e : List UInt8 → Option (UInt8 × Nat)} : ∀ (f : Nat) (l : List UInt8) (ps : List PPart), splitF e f l = some ps → wts ps ≤ l.length + 1
  | 0, l, ps, h => by simp [splitF] at h
  | f + 1, l, ps, h => by
    simp only [splitF] at h
    split at h
    · simp at h
    · rename_i p hp
      simp at h; subst h
      have := partF_le hp
      simp [wts] at *; omega
    · rename_i p c r hp
      split at h
      · simp only [Option.map_eq_some_iff] at h
        obtain ⟨qs, hq, rfl⟩ := h
        have h1 := partF_le hp
        have h2 := splitF_le f r qs hq
        simp [wts] at *; omega
      · simp at h
/-! ### Numerals are read back -/
theorem parse_snoc (c : UInt8) (v : Nat) : ∀ (l : List UInt8) (acc : Nat), Lib.parseUint10 acc l = .ok v → Lib.parseUint10 acc (l ++ [c]) = Lib.parseUint10 v [c]
  | [], acc, h => by
    simp only [Lib.parseUint10] at h
    obtain rfl : acc = v := by injection h
    rfl
  | d :: l, acc, h => by
    rw [Lib.parseUint10] at h
    rw [List.cons_append, Lib.parseUint10]
    split at h
    · rename_i hd
      rw [if_pos hd]
      split at h
      · cases h
      · rename_i h1
        rw [if_neg h1]
        split at h
        · cases h
        · rename_i h2
          rw [if_neg h2]
          exact parse_snoc c v l _ h
    · cases h
theorem parse_dec (u : Nat) (h : u < 9223372036854775808) : Lib.parseUint10 0 (Lib.decDigits u) = .ok u := by
  induction u using Nat.strongRecOn with
  | _ u ih =>
    rw [Lib.decDigits]
    have dig : ∀ d : Nat, d < 10 → (UInt8.ofNat (48 + d)).toNat = 48 + d := by intro d hd; rw [UInt8.toNat_ofNat']; omega
    split
    · rename_i hu
      simp only [Lib.parseUint10, dig u hu]
      rw [if_pos (by omega), if_neg (by omega), if_neg (by omega)]
      congr 1; omega
    · rename_i hu
      rw [parse_snoc _ _ _ _ (ih (u / 10) (by omega) (by omega))]
      simp only [Lib.parseUint10, dig (u % 10) (by omega)]
      rw [if_pos (by omega), if_neg (by omega), if_neg (by omega)]
      congr 1; omega
theorem mag_dec (u : Nat) (h : u < 9223372036854775808) : Lib.parseMag (Lib.decDigits u) = .ok u := by
  unfold Lib.parseMag
  rw [if_neg (dec_ne_nil u), parse_dec u h]
theorem atoi_itoa (n : Int) (h0 : -9223372036854775807 ≤ n) (h1 : n ≤ 9223372036854775807) : Lib.atoiAll (Lib.itoa n) = .ok n := by
  unfold Lib.itoa
  split
  · have h45 : (45 : UInt8).toNat = 45 := rfl
    simp only [Lib.atoiAll, h45, or_true, if_true, mag_dec n.natAbs (by omega), not_true_eq_false, false_and, if_false, true_and]
    rw [if_neg (by omega)]
    congr 1; omega
  · cases hd : Lib.decDigits n.toNat with
    | nil => exact absurd hd (dec_ne_nil _)
    | cons c r =>
      have hc := dec_digit n.toNat c (by rw [hd]; simp)
      have hm := mag_dec n.toNat (by omega)
      rw [hd] at hm
      simp only [Lib.atoiAll]
      rw [if_neg (by omega), hm]
      simp only []
      rw [if_neg (by omega), if_neg (by omega), if_neg (by omega)]
      congr 1; omega
end Go.Proofs.YtglekdhdogjnoaaGreatDoor
