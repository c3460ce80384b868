/- More of the plain laws of parsing: what the reference reads from the line of an input; sizes. -/
import Derived.Test.YtglekdhdogjnoaaGreatDoorParseLawR
namespace Go.Proofs.YtglekdhdogjnoaaGreatDoor
open Go.RowKit
set_option linter.unusedSimpArgs false
theorem esc_unescR : Esc unescR := by
  intro c t rest h
  rcases esc_cases c with ⟨h1, e⟩ | ⟨h1, e⟩ | e | ⟨h1, h2, e⟩
  · rw [e] at h; obtain ⟨-, rfl⟩ := List.cons.inj h
    have n1 : ¬ c.toNat = 110 := by omega
    have n2 : ¬ c.toNat = 120 := by omega
    simp [unescR, n1, n2]
  · rw [e] at h; obtain ⟨-, rfl⟩ := List.cons.inj h
    have : c = 10 := by apply UInt8.toNat_inj.1; rw [h1]; rfl
    subst this
    simp [unescR, u110]
  · rw [e] at h; obtain ⟨-, rfl⟩ := List.cons.inj h
    simp [unescR, u120, hexPair_D]
  · rw [e] at h; obtain ⟨h, -⟩ := List.cons.inj h
    rw [h] at h2; exact absurd u92 h2
theorem splitF_ne {e : List UInt8 → Option (UInt8 × Nat)} : ∀ (f : Nat) (l : List UInt8) (ps : List PPart), splitF e f l = some ps → ps ≠ []
  | 0, l, ps, h => by simp [splitF] at h
  | f + 1, l, ps, h => by
    simp only [splitF] at h
    split at h
    · simp at h
    · simp at h; subst h; simp
    · split at h
      · simp only [Option.map_eq_some_iff] at h
        obtain ⟨qs, hq, rfl⟩ := h
        simp
      · simp at h
theorem numF_snoc (c : UInt8) (hc : 48 ≤ c.toNat ∧ c.toNat ≤ 57) : ∀ (l : List UInt8) (n v : Int), (∀ d ∈ l, 48 ≤ d.toNat ∧ d.toNat ≤ 57) → numF false l n = some v → numF false (l ++ [c]) n = some (10 * v + ((c.toNat : Int) - 48))
  | [], n, v, _, h => by
    simp only [numF, Option.some.injEq] at h; subst h
    rw [List.nil_append, numF_dig c [] _ _ hc]; rfl
  | d :: l, n, v, hl, h => by
    rw [numF_dig d l _ _ (hl d (by simp))] at h
    rw [List.cons_append, numF_dig d _ _ _ (hl d (by simp))]
    exact numF_snoc c hc l _ v (fun x hx => hl x (by simp [hx])) h
theorem numF_dec (u : Nat) : numF false (Lib.decDigits u) 0 = some (u : Int) := by
  induction u using Nat.strongRecOn with
  | _ u ih =>
    have dig : ∀ d : Nat, d < 10 → (UInt8.ofNat (48 + d)).toNat = 48 + d := by intro d hd; rw [UInt8.toNat_ofNat']; omega
    rw [Lib.decDigits]
    split
    · rename_i hu
      rw [numF_dig _ _ _ _ (by rw [dig u hu]; omega), dig u hu]
      simp only [numF, Option.some.injEq]; omega
    · rename_i hu
      have hd := dig (u % 10) (by omega)
      rw [numF_snoc _ (by rw [hd]; omega) _ _ _ (fun d h => dec_digit _ d h) (ih (u / 10) (by omega)), hd]
      congr 1; omega
theorem numF_first (l : List UInt8) (h : ∀ c, l.head? = some c → 48 ≤ c.toNat ∧ c.toNat ≤ 57) (n : Int) : numF true l n = numF false l n := by
  cases l with
  | nil => rfl
  | cons c r => rw [numF_dig c r n true (h c rfl), numF_dig c r n false (h c rfl)]
theorem dec_len : ∀ (k u : Nat), u < 10 ^ (k + 1) → (Lib.decDigits u).length ≤ k + 1
  | 0, u, h => by rw [Lib.decDigits, dif_pos (by simpa using h)]; simp
  | k + 1, u, h => by
    rw [Lib.decDigits]
    split
    · simp
    · have := dec_len k (u / 10) (by rw [Nat.pow_succ] at h; omega)
      simp only [List.length_append, List.length_cons, List.length_nil]; omega
theorem itoa_len (n : Int) (h : largeB n = false) : 1 ≤ (Lib.itoa n).length ∧ (Lib.itoa n).length ≤ 14 := by
  simp only [largeB, Bool.or_eq_false_iff, decide_eq_false_iff_not] at h
  unfold Lib.itoa
  split
  · have := dec_len 12 n.natAbs (by omega)
    simp only [List.length_cons]; omega
  · have := dec_len 12 n.toNat (by omega)
    have h2 : Lib.decDigits n.toNat ≠ [] := dec_ne_nil _
    have := List.length_pos_iff.2 h2
    omega
theorem numR_num (n : Int) (h : largeB n = false) : numR (numPart n) = (n, true) := by
  obtain ⟨h1, h2⟩ := itoa_len n h
  have e1 : (numPart n).text = S (Lib.itoa n) := rfl
  have e2 : (numPart n).text.data.toList = Lib.itoa n := S_list _
  have e3 : (numPart n).text.size = (Lib.itoa n).length := S_size _
  have e4 : (numPart n).quoted = false := rfl
  have key : ∃ m, numF true (Lib.itoa n) 0 = some m ∧ numSign (Lib.itoa n) m = n := by
    unfold Lib.itoa
    split
    · refine ⟨n.natAbs, ?_, ?_⟩
      · have : (45 : UInt8).toNat = 45 := rfl
        rw [numF, if_pos ⟨rfl, this⟩, numF_dec]
      · simp only [numSign, List.head?_cons, if_true]; omega
    · refine ⟨n.toNat, ?_, ?_⟩
      · rw [numF_first _ (fun c hc => dec_digit _ c (List.mem_of_mem_head? hc)), numF_dec]
      · unfold numSign
        rw [if_neg, Int.toNat_of_nonneg (by omega)]
        intro e
        have := dec_digit _ 45 (List.mem_of_mem_head? e)
        exact absurd this (by decide)
  obtain ⟨m, k1, k2⟩ := key
  have hn : ¬ ((numPart n).quoted = true ∨ (numPart n).text.size < 1 ∨ 14 < (numPart n).text.size) := by
    rw [e3, e4]; intro h
    rcases h with h | h | h
    · cases h
    · omega
    · omega
  unfold numR
  rw [if_neg hn, e2, k1]
  simp only [k2]
  rw [e1]
  simp [itoaS]
theorem intsR_nums (xs : List Int) (h : xs.any largeB = false) : intsR (xs.map numPart) = some xs := by
  induction xs with
  | nil => rfl
  | cons x xs ih =>
    simp only [List.any_cons, Bool.or_eq_false_iff] at h
    rw [List.map_cons, intsR, numR_num x h.1, ih h.2]
    rfl
theorem intsR_len : ∀ (l : List PPart) (xs : List Int), intsR l = some xs → xs.length = l.length
  | [], xs, h => by simp [intsR] at h; subst h; rfl
  | p :: ps, xs, h => by
    rw [intsR] at h
    split at h
    · simp only [Option.map_eq_some_iff] at h
      obtain ⟨ys, hy, rfl⟩ := h
      simp [intsR_len ps ys hy]
    · simp at h
theorem listR_files (fs : List File) : listR (fs.flatMap fileParts) = some fs := by
  induction fs with
  | nil => rfl
  | cons f fs ih =>
    simp only [List.flatMap_cons, fileParts, List.cons_append, List.nil_append, listR, and_self, if_true]
    rw [ih]
    rfl
theorem files_even (fs : List File) : (fs.flatMap fileParts).length % 2 = 0 := by
  induction fs with
  | nil => rfl
  | cons f fs ih =>
    simp only [List.flatMap_cons, List.length_append, fileParts, List.length_cons, List.length_nil] at *
    omega
theorem namedR_len {l : List PPart} {n : Nat} {who : ByteArray} {xs : List Int} (h : namedR l n = some (who, xs)) : xs.length = n ∧ n + 1 ≤ l.length := by
  unfold namedR at h
  split at h
  · simp at h
  · split at h
    · simp at h
    · rename_i hn
      simp only [Option.map_eq_some_iff, Prod.mk.injEq] at h
      obtain ⟨ys, hy, -, rfl⟩ := h
      have := intsR_len _ _ hy
      simp only [List.length_take] at this
      simp only [List.length_cons]
      omega
theorem intsR_one (n : Int) (h : largeB n = false) (ps : List PPart) : intsR (numPart n :: ps) = (intsR ps).map (n :: ·) := by
  rw [intsR, numR_num n h]; rfl
theorem ints1 (n : Int) (h : largeB n = false) : intsR [numPart n] = some [n] := by rw [intsR_one n h]; rfl
theorem ints2 (m n : Int) (h : largeB m = false) (h2 : largeB n = false) : intsR [numPart m, numPart n] = some [m, n] := by rw [intsR_one m h, ints1 n h2]; rfl
theorem inputR_line (A : PAct) (h : Fine A) : inputR A.kind (restParts A) = (A, true) := by
  have x := h.extra
  have hk1 := h.k1
  have hk8 := h.k8
  have ka : A.kind = 1 ∨ A.kind = 2 ∨ A.kind = 3 ∨ A.kind = 4 ∨ A.kind = 5 ∨ A.kind = 6 ∨ A.kind = 7 ∨ A.kind = 8 := by omega
  unfold inputR restParts
  rcases ka with k | k | k | k | k | k | k | k
  · rw [k]
    simp only [true_or, if_true, List.cons_append, List.nil_append, namedR, List.length_cons, List.take_succ_cons, List.take_zero, ints2 _ _ h.priority h.at_, Option.map_some, List.drop_succ_cons, List.drop_zero, listR_files, files_even, List.getD_cons_zero, List.getD_cons_succ, decide_true]
    rw [if_neg (by simp)]
    refine Prod.ext (act_ext k.symm rfl ?_ rfl rfl ?_ rfl ?_) rfl
    · exact (x.change (by omega) (by omega)).symm
    · exact (x.count (by omega) (by omega) (by omega)).symm
    · exact (x.picks (by omega)).symm
  · rw [k]
    simp [namedR, ints1 _ h.change]
    refine act_ext k.symm rfl rfl ?_ ?_ ?_ ?_ ?_
    · exact (x.priority (by omega)).symm
    · exact (x.at_ (by omega) (by omega)).symm
    · exact (x.count (by omega) (by omega) (by omega)).symm
    · exact (x.files (by omega)).symm
    · exact (x.picks (by omega)).symm
  · rw [k]
    simp [intsR, act0]
    refine act_ext k.symm ?_ ?_ ?_ ?_ ?_ ?_ ?_
    · exact (x.who (by omega) (by omega) (by omega) (by omega)).symm
    · exact (x.change (by omega) (by omega)).symm
    · exact (x.priority (by omega)).symm
    · exact (x.at_ (by omega) (by omega)).symm
    · exact (x.count (by omega) (by omega) (by omega)).symm
    · exact (x.files (by omega)).symm
    · exact (x.picks (by omega)).symm
  · rw [k]
    simp [intsR_nums _ h.picks]
    refine act_ext k.symm ?_ ?_ ?_ ?_ ?_ ?_ rfl
    · exact (x.who (by omega) (by omega) (by omega) (by omega)).symm
    · exact (x.change (by omega) (by omega)).symm
    · exact (x.priority (by omega)).symm
    · exact (x.at_ (by omega) (by omega)).symm
    · exact (x.count (by omega) (by omega) (by omega)).symm
    · exact (x.files (by omega)).symm
  · rw [k]
    simp [ints1 _ h.count]
    refine act_ext k.symm ?_ ?_ ?_ ?_ rfl ?_ ?_
    · exact (x.who (by omega) (by omega) (by omega) (by omega)).symm
    · exact (x.change (by omega) (by omega)).symm
    · exact (x.priority (by omega)).symm
    · exact (x.at_ (by omega) (by omega)).symm
    · exact (x.files (by omega)).symm
    · exact (x.picks (by omega)).symm
  · rw [k]
    simp [namedR, ints2 _ _ h.count h.at_]
    refine act_ext k.symm rfl ?_ ?_ rfl rfl ?_ ?_
    · exact (x.change (by omega) (by omega)).symm
    · exact (x.priority (by omega)).symm
    · exact (x.files (by omega)).symm
    · exact (x.picks (by omega)).symm
  · rw [k]
    simp [namedR, ints1 _ h.change]
    refine act_ext k.symm rfl rfl ?_ ?_ ?_ ?_ ?_
    · exact (x.priority (by omega)).symm
    · exact (x.at_ (by omega) (by omega)).symm
    · exact (x.count (by omega) (by omega) (by omega)).symm
    · exact (x.files (by omega)).symm
    · exact (x.picks (by omega)).symm
  · rw [k]
    simp [ints1 _ h.count]
    refine act_ext k.symm ?_ ?_ ?_ ?_ rfl ?_ ?_
    · exact (x.who (by omega) (by omega) (by omega) (by omega)).symm
    · exact (x.change (by omega) (by omega)).symm
    · exact (x.priority (by omega)).symm
    · exact (x.at_ (by omega) (by omega)).symm
    · exact (x.files (by omega)).symm
    · exact (x.picks (by omega)).symm
theorem listR_small : ∀ (l : List PPart) (fs : List File), listR l = some fs → 6 * fs.length ≤ wts l ∧ ∀ f ∈ fs, f.1.size ≤ wts l ∧ f.2.size ≤ wts l
  | [], fs, h => by simp [listR] at h; subst h; simp
  | [p], fs, h => by simp [listR] at h; subst h; simp
  | p :: q :: r, fs, h => by
    rw [listR] at h
    split at h
    · rename_i hq
      simp only [Option.map_eq_some_iff] at h
      obtain ⟨gs, hg, rfl⟩ := h
      obtain ⟨i1, i2⟩ := listR_small r gs hg
      have w1 := wt_quoted p hq.1
      have w2 := wt_quoted q hq.2
      simp only [wts_cons, List.length_cons]
      refine ⟨by omega, ?_⟩
      intro f hf
      rcases List.mem_cons.1 hf with rfl | hf
      · exact ⟨by simp only; omega, by simp only; omega⟩
      · have := i2 f hf; omega
    · simp at h
theorem wts_drop : ∀ (n : Nat) (l : List PPart), wts (l.drop n) ≤ wts l
  | 0, l => by simp
  | n + 1, [] => by simp
  | n + 1, p :: l => by have := wts_drop n l; rw [List.drop_succ_cons, wts_cons]; omega
theorem inputR_small (k : Int) (l : List PPart) (h : wts l ≤ 500) : Small (inputR k l).1 := by
  have s0 : Small (act0 k) := ⟨by simp [act0, ByteArray.size], by simp [act0], by simp [act0], by simp [act0]⟩
  unfold inputR
  split
  · split
    · exact s0
    · rename_i who x hx
      have hw : who.size ≤ 500 := by
        generalize (if k = 1 ∨ k = 6 then 2 else 1) = n at hx
        unfold namedR at hx
        split at hx
        · simp at hx
        · rename_i p ps
          split at hx
          · simp at hx
          · simp only [Option.map_eq_some_iff, Prod.mk.injEq] at hx
            obtain ⟨_, _, rfl, _⟩ := hx
            have := wt_pos p
            rw [wts_cons] at h
            omega
      split
      · split
        · exact ⟨by simp only; omega, by simp, by simp, by simp⟩
        · rename_i fs hfs
          obtain ⟨i1, i2⟩ := listR_small _ fs hfs
          have hd := wts_drop 3 l
          refine ⟨by simp only; omega, by simp only; omega, ?_, by simp⟩
          intro f hf
          have := i2 f hf
          exact ⟨by omega, by omega⟩
      · split
        · exact ⟨by simp only; omega, by simp, by simp, by simp⟩
        · exact ⟨by simp only; omega, by simp, by simp, by simp⟩
  · split
    · exact s0
    · rename_i x hx
      have := intsR_len _ _ hx
      have := (parts_wts l).1
      split
      · exact s0
      · split
        · exact ⟨by simp [ByteArray.size], by simp, by simp, by simp only; omega⟩
        · split
          · exact ⟨by simp [ByteArray.size], by simp, by simp, by simp⟩
          · exact s0
end Go.Proofs.YtglekdhdogjnoaaGreatDoor
