/- The reference's number, walked. -/
import Derived.Test.YtglekdhdogjnoaaGreatDoorRdB
import Derived.Test.YtglekdhdogjnoaaGreatDoorParseLawR
namespace Go.Proofs.YtglekdhdogjnoaaGreatDoor
open Go.RowKit
set_option linter.unusedSimpArgs false
/-- What stands at the head of the loop over the bytes of a numeral. -/
structure NuInv (l : List UInt8) (k : Nat) (n : Int) : Prop where
  eq : numF true l 0 = numF (decide (k = 0)) (l.drop k) n
  lo : 0 ≤ n
  hi : n < 10 ^ k
theorem NuInv.start (l : List UInt8) : NuInv l 0 0 := ⟨by simp, by omega, by decide⟩
theorem NuInv.dash {l : List UInt8} {n : Int} {c : UInt8} (h : NuInv l 0 n) (hd : l.drop 0 = c :: l.drop 1) (hc : c.toNat = 45) : NuInv l 1 n := by
  refine ⟨?_, h.lo, by have := h.hi; simp at this ⊢; omega⟩
  rw [h.eq, hd, decide_eq_true rfl, numF, if_pos ⟨rfl, hc⟩]; rfl
theorem NuInv.dig {l : List UInt8} {k : Nat} {n : Int} {c : UInt8} (h : NuInv l k n) (hd : l.drop k = c :: l.drop (k + 1)) (hc : 48 ≤ c.toNat ∧ c.toNat ≤ 57) : NuInv l (k + 1) (10 * n + ((c.toNat : Int) - 48)) := by
  have a := h.lo
  have b := h.hi
  refine ⟨?_, by omega, ?_⟩
  · rw [h.eq, hd, numF_dig c _ _ _ hc]; simp
  · rw [Int.pow_succ]
    generalize (10 : Int) ^ k = T at *
    omega
theorem NuInv.stuck {l : List UInt8} {k : Nat} {n : Int} {c : UInt8} (h : NuInv l k n) (hd : l.drop k = c :: l.drop (k + 1)) (h1 : ¬ (k = 0 ∧ c.toNat = 45)) (hc : c.toNat < 48 ∨ 57 < c.toNat) : numF true l 0 = none := by
  rw [h.eq, hd, numF, if_neg (by simpa using h1), if_pos hc]
theorem NuInv.over {l : List UInt8} {k : Nat} {n : Int} (h : NuInv l k n) (hk : l.length ≤ k) : numF true l 0 = some n := by
  rw [h.eq, List.drop_eq_nil_of_le hk]; cases k <;> rfl
theorem NuInv.small {l : List UInt8} {k : Nat} {n : Int} (h : NuInv l k n) (hk : k ≤ 14) : n < 100000000000000 := by
  have b := h.hi
  have c : (10 : Int) ^ k ≤ 10 ^ 14 := by
    have := Nat.pow_le_pow_right (n := 10) (by omega) hk
    exact_mod_cast this
  have d : (10 : Int) ^ 14 = 100000000000000 := by decide
  omega
theorem endE_tmp2R {P : Program} {n : Nat} {σ : Env} {w : World} {fn : Func} {R : Ending → World → Prop} {t u : Tmp} (h : fn.results = #[.tmp t, .tmp u]) (hR : R (.returned (.tuple #[σ t, σ u])) w) : endE P n fn R .ret σ w := by
  intro a ha
  refine ⟨.tuple #[σ t, σ u], ?_, hR⟩
  have e : ∀ i, a.tmps[i]?.getD undef = σ i := fun i => by rw [← congrFun ha.get i, Array.getD_eq_getD_getElem?]
  simp [results, h, e]
theorem str_inj {x y : ByteArray} (h : x.toList = y.toList) : x = y := by
  rw [ByteArray.toList_eq, ByteArray.toList_eq] at h
  rw [← S_of x, h, S_of]
theorem str_beq (x y : ByteArray) : (x.toList == y.toList) = decide (x = y) := by
  by_cases h : x = y
  · subst h; simp
  · rw [decide_eq_false h, beq_eq_false_iff_ne]
    exact fun e => h (str_inj e)
set_option maxHeartbeats 4000000 in
set_option maxRecDepth 100000 in
theorem number_any (q : Bool) (t : ByteArray) (w : World) (ht : t.size ≤ 10000000) :
    Calls Tryz.prog 70 #[.agg #[.bool q, .string t]] w fun e w' => e = .returned (.tuple #[.int .i64 (numR ⟨q, t⟩).1, .bool (numR ⟨q, t⟩).2]) ∧ Grow w w' := by
  have HR : Hid (∀ n b, numR ⟨q, t⟩ = (n, b) → Ending.returned (.tuple #[.int .i64 n, .bool b]) = .returned (.tuple #[.int .i64 (numR ⟨q, t⟩).1, .bool (numR ⟨q, t⟩).2])) := fun n b h => by rw [h]
  have HG := Lib.hid (Grow.alloc w (.cells #[.bool q, .string t] 57))
  cases q with
  | true =>
    have HV := Lib.hid (show numR ⟨true, t⟩ = (0, false) by unfold numR; rw [if_pos (.inl rfl)])
    refine calls_of_wE Tryz.func70 rfl Tryz.ntmps70 (by simp) ?_
    repeat' (first | with_reducible (first | refine wE_seq (fun K hK => ?_) | refine wE_block ?_ | refine wE_skip ?_ | refine wE_ret ?_ | refine wE_exit ?_) | ((with_reducible refine wE_region ?_ ?_); (kernel_rfl); simp only [ls, stripO]) | ((with_reducible refine wS_step (fun K hK => ?_)); simp [go_sem, lk, upd, envOf, stepS_value, stepS_skip, stepS_enter, ↓IntWalk.iteOmega, *]; (try go_ints); refine hK.out _ _ ?_; clear hK K) | ((with_reducible refine wS_unit (fun K hK => ?_)); simp [go_sem, lk, upd, envOf, stepS_value, stepS_skip, stepS_enter, ↓IntWalk.iteOmega, *]; (try go_ints); refine hK.out _ _ ?_; clear hK K) | ((with_reducible refine wS_skip ?_ ?_); (focus (simp [lk, upd, envOf, *]; done))) | ((with_reducible refine wS_want ?_ ?_); (focus (simp [lk, upd, envOf, *]; done))) | ((with_reducible refine wS_split (fun hc => ?_) (fun hc => ?_)) <;> simp [lk, upd, envOf, *] at hc <;> try (exfalso; omega)) | with_reducible refine wS_nil ?_ | simp only [thenE, blockE, ↓reduceIte, Nat.reduceEqDiff] | ((with_reducible refine hK.out _ _ ?_); clear hK K) | ((with_reducible refine wE_if ?_ (fun hc => ?_) (fun hc => ?_)); (focus (simp [lk, upd, envOf, *]; done)); all_goals (simp [lk, upd, envOf, *] at hc <;> try (exfalso; omega))) | (clear hK; clear K))
    exact endE_tmp2R rfl ⟨by rw [← HR.out 0 false HV.out]; simp [upd], HG.out⟩
  | false =>
  by_cases h1 : t.size < 1
  · have HV := Lib.hid (show numR ⟨false, t⟩ = (0, false) by unfold numR; rw [if_pos (.inr (.inl h1))])
    have i1 : (t.size : Int) < 1 := by omega
    refine calls_of_wE Tryz.func70 rfl Tryz.ntmps70 (by simp) ?_
    repeat' (first | with_reducible (first | refine wE_seq (fun K hK => ?_) | refine wE_block ?_ | refine wE_skip ?_ | refine wE_ret ?_ | refine wE_exit ?_) | ((with_reducible refine wE_region ?_ ?_); (kernel_rfl); simp only [ls, stripO]) | ((with_reducible refine wS_step (fun K hK => ?_)); simp [go_sem, lk, upd, envOf, stepS_value, stepS_skip, stepS_enter, ↓IntWalk.iteOmega, *]; (try go_ints); refine hK.out _ _ ?_; clear hK K) | ((with_reducible refine wS_unit (fun K hK => ?_)); simp [go_sem, lk, upd, envOf, stepS_value, stepS_skip, stepS_enter, ↓IntWalk.iteOmega, *]; (try go_ints); refine hK.out _ _ ?_; clear hK K) | ((with_reducible refine wS_skip ?_ ?_); (focus (simp [lk, upd, envOf, *]; done))) | ((with_reducible refine wS_want ?_ ?_); (focus (simp [lk, upd, envOf, *]; done))) | ((with_reducible refine wS_split (fun hc => ?_) (fun hc => ?_)) <;> simp [lk, upd, envOf, *] at hc <;> try (exfalso; omega)) | with_reducible refine wS_nil ?_ | simp only [thenE, blockE, ↓reduceIte, Nat.reduceEqDiff] | ((with_reducible refine hK.out _ _ ?_); clear hK K) | ((with_reducible refine wE_if ?_ (fun hc => ?_) (fun hc => ?_)); (focus (simp [lk, upd, envOf, *]; done)); all_goals (simp [lk, upd, envOf, *] at hc <;> try (exfalso; omega))) | (clear hK; clear K))
    exact endE_tmp2R rfl ⟨by rw [← HR.out 0 false HV.out]; simp [upd], HG.out⟩
  have i1 : ¬ (t.size : Int) < 1 := by omega
  by_cases h2 : 14 < t.size
  · have HV := Lib.hid (show numR ⟨false, t⟩ = (0, false) by unfold numR; rw [if_pos (.inr (.inr h2))])
    have i2 : (14 : Int) < t.size := by omega
    refine calls_of_wE Tryz.func70 rfl Tryz.ntmps70 (by simp) ?_
    repeat' (first | with_reducible (first | refine wE_seq (fun K hK => ?_) | refine wE_block ?_ | refine wE_skip ?_ | refine wE_ret ?_ | refine wE_exit ?_) | ((with_reducible refine wE_region ?_ ?_); (kernel_rfl); simp only [ls, stripO]) | ((with_reducible refine wS_step (fun K hK => ?_)); simp [go_sem, lk, upd, envOf, stepS_value, stepS_skip, stepS_enter, ↓IntWalk.iteOmega, *]; (try go_ints); refine hK.out _ _ ?_; clear hK K) | ((with_reducible refine wS_unit (fun K hK => ?_)); simp [go_sem, lk, upd, envOf, stepS_value, stepS_skip, stepS_enter, ↓IntWalk.iteOmega, *]; (try go_ints); refine hK.out _ _ ?_; clear hK K) | ((with_reducible refine wS_skip ?_ ?_); (focus (simp [lk, upd, envOf, *]; done))) | ((with_reducible refine wS_want ?_ ?_); (focus (simp [lk, upd, envOf, *]; done))) | ((with_reducible refine wS_split (fun hc => ?_) (fun hc => ?_)) <;> simp [lk, upd, envOf, *] at hc <;> try (exfalso; omega)) | with_reducible refine wS_nil ?_ | simp only [thenE, blockE, ↓reduceIte, Nat.reduceEqDiff] | ((with_reducible refine hK.out _ _ ?_); clear hK K) | ((with_reducible refine wE_if ?_ (fun hc => ?_) (fun hc => ?_)); (focus (simp [lk, upd, envOf, *]; done)); all_goals (simp [lk, upd, envOf, *] at hc <;> try (exfalso; omega))) | (clear hK; clear K))
    exact endE_tmp2R rfl ⟨by rw [← HR.out 0 false HV.out]; simp [upd], HG.out⟩
  have i2 : ¬ (14 : Int) < t.size := by omega
  have HN := Lib.hid (show numR ⟨false, t⟩ = (match numF true t.data.toList 0 with | none => (0, false) | some n => (numSign t.data.toList n, decide (itoaS (numSign t.data.toList n) = t))) by
    have hn : ¬ ((PPart.mk false t).quoted = true ∨ (PPart.mk false t).text.size < 1 ∨ 14 < (PPart.mk false t).text.size) := by
      rintro (h | h | h)
      · cases h
      · exact h1 h
      · exact h2 h
    unfold numR; rw [if_neg hn]
    rfl)
  have HSZ := Lib.hid (show t.data.toList.length = t.size by simp)
  have c0 : (w.alloc (.cells #[.bool false, .string t] 57)).cell? ⟨w.heap.size, 0, none⟩ = some (.bool false) := by simp [go_sem]
  have c1 : (w.alloc (.cells #[.bool false, .string t] 57)).cell? ⟨w.heap.size, 1, none⟩ = some (.string t) := by simp [go_sem]
  refine calls_of_wE Tryz.func70 rfl Tryz.ntmps70 (by simp) ?_
  repeat' (first | with_reducible (first | refine wE_seq (fun K hK => ?_) | refine wE_block ?_ | refine wE_skip ?_ | refine wE_ret ?_ | refine wE_exit ?_) | simp only [thenE, blockE, ↓reduceIte, Nat.reduceEqDiff] | ((with_reducible refine hK.out _ _ ?_); clear hK K) | ((with_reducible refine wE_if ?_ (fun hc => ?_) (fun hc => ?_)); (focus (simp [lk, upd, envOf, *]; done)); all_goals (simp [lk, upd, envOf, *] at hc <;> try (exfalso; omega))) | (clear hK; clear K))
  ((with_reducible refine wE_region ?_ ?_); (kernel_rfl); simp only [ls, stripO])
  repeat' (first | ((with_reducible refine wS_step (fun K hK => ?_)); simp [go_sem, lk, upd, envOf, stepS_value, stepS_skip, stepS_enter, ↓IntWalk.iteOmega, *]; (try go_ints); refine hK.out _ _ ?_; clear hK K) | ((with_reducible refine wS_unit (fun K hK => ?_)); simp [go_sem, lk, upd, envOf, stepS_value, stepS_skip, stepS_enter, ↓IntWalk.iteOmega, *]; (try go_ints); refine hK.out _ _ ?_; clear hK K) | ((with_reducible refine wS_skip ?_ ?_); (focus (simp [lk, upd, envOf, *]; done))) | ((with_reducible refine wS_want ?_ ?_); (focus (simp [lk, upd, envOf, *]; done))) | ((with_reducible refine wS_split (fun hc => ?_) (fun hc => ?_)) <;> simp [lk, upd, envOf, *] at hc <;> try (exfalso; omega)) | with_reducible refine wS_nil ?_)
  generalize w.alloc (.cells #[.bool false, .string t] 57) = w0 at *
  repeat' (first | with_reducible (first | refine wE_seq (fun K hK => ?_) | refine wE_block ?_ | refine wE_skip ?_ | refine wE_ret ?_ | refine wE_exit ?_) | ((with_reducible refine wE_region ?_ ?_); (kernel_rfl); simp only [ls, stripO]) | ((with_reducible refine wS_step (fun K hK => ?_)); simp [go_sem, lk, upd, envOf, stepS_value, stepS_skip, stepS_enter, ↓IntWalk.iteOmega, *]; (try go_ints); refine hK.out _ _ ?_; clear hK K) | ((with_reducible refine wS_unit (fun K hK => ?_)); simp [go_sem, lk, upd, envOf, stepS_value, stepS_skip, stepS_enter, ↓IntWalk.iteOmega, *]; (try go_ints); refine hK.out _ _ ?_; clear hK K) | ((with_reducible refine wS_skip ?_ ?_); (focus (simp [lk, upd, envOf, *]; done))) | ((with_reducible refine wS_want ?_ ?_); (focus (simp [lk, upd, envOf, *]; done))) | ((with_reducible refine wS_split (fun hc => ?_) (fun hc => ?_)) <;> simp [lk, upd, envOf, *] at hc <;> try (exfalso; omega)) | with_reducible refine wS_nil ?_ | simp only [thenE, blockE, ↓reduceIte, Nat.reduceEqDiff] | ((with_reducible refine hK.out _ _ ?_); clear hK K) | ((with_reducible refine wE_if ?_ (fun hc => ?_) (fun hc => ?_)); (focus (simp [lk, upd, envOf, *]; done)); all_goals (simp [lk, upd, envOf, *] at hc <;> try (exfalso; omega))) | (clear hK; clear K))
  refine wE_loop (fun (k : Nat) σ w' => k ≤ t.size ∧ σ 1 = .pointer (some ⟨w.heap.size, 0, none⟩) ∧ σ 5 = .int .i64 k ∧ (∃ n, σ 4 = .int .i64 n ∧ NuInv t.data.toList k n) ∧ w0 = w') (fun k => t.size - k) 0 ?_ ?_
  · exact ⟨by omega, by simp [upd], by simp [upd], ⟨0, by simp [upd], NuInv.start _⟩, rfl⟩
  rintro k σ _ ⟨hk, e1, e5, ⟨n, e4, hI⟩, rfl⟩
  have HI := Lib.hid hI
  have hlo := hI.lo
  have hhi := hI.small (by omega)
  clear hI
  by_cases hlt : k < t.size
  · have HD := Lib.hid (drop_atR t k hlt)
    have hc255 := t[k].toNat_lt
    by_cases c45 : t[k].toNat = 45
    · have t45 : ((t[k].toNat : Int) == 45) = true := beq_t (by omega)
      by_cases k0 : k = 0
      · subst k0
        have HI' := Lib.hid (HI.out.dash HD.out c45)
        clear c45
        repeat' (first | with_reducible (first | refine wE_seq (fun K hK => ?_) | refine wE_block ?_ | refine wE_skip ?_ | refine wE_ret ?_ | refine wE_exit ?_) | ((with_reducible refine wE_region ?_ ?_); (kernel_rfl); simp only [ls, stripO]) | ((with_reducible refine wS_step (fun K hK => ?_)); simp [go_sem, lk, upd, envOf, stepS_value, stepS_skip, stepS_enter, ↓IntWalk.iteOmega, *]; (try go_ints); refine hK.out _ _ ?_; clear hK K) | ((with_reducible refine wS_unit (fun K hK => ?_)); simp [go_sem, lk, upd, envOf, stepS_value, stepS_skip, stepS_enter, ↓IntWalk.iteOmega, *]; (try go_ints); refine hK.out _ _ ?_; clear hK K) | ((with_reducible refine wS_skip ?_ ?_); (focus (simp [lk, upd, envOf, *]; done))) | ((with_reducible refine wS_want ?_ ?_); (focus (simp [lk, upd, envOf, *]; done))) | ((with_reducible refine wS_split (fun hc => ?_) (fun hc => ?_)) <;> simp [lk, upd, envOf, *] at hc <;> try (exfalso; omega)) | with_reducible refine wS_nil ?_ | simp only [thenE, blockE, ↓reduceIte, Nat.reduceEqDiff] | ((with_reducible refine hK.out _ _ ?_); clear hK K) | ((with_reducible refine wE_if ?_ (fun hc => ?_) (fun hc => ?_)); (focus (simp [lk, upd, envOf, *]; done)); all_goals (simp [lk, upd, envOf, *] at hc <;> try (exfalso; omega))) | (clear hK; clear K))
        refine ⟨0 + 1, ⟨by omega, by simp [upd, *], by simp [upd], ⟨n, by simp [upd, *], HI'.out⟩, trivial⟩, by omega⟩
      · have k0' : ((k : Int) == 0) = false := beq_f (by omega)
        have HV := Lib.hid (HI.out.stuck HD.out (fun h => k0 h.1) (.inl (by omega)))
        have HV2 := Lib.hid (show numR ⟨false, t⟩ = (0, false) by rw [HN.out, HV.out])
        have l48 : (t[k].toNat : Int) < 48 := by omega
        clear k0 c45
        repeat' (first | with_reducible (first | refine wE_seq (fun K hK => ?_) | refine wE_block ?_ | refine wE_skip ?_ | refine wE_ret ?_ | refine wE_exit ?_) | ((with_reducible refine wE_region ?_ ?_); (kernel_rfl); simp only [ls, stripO]) | ((with_reducible refine wS_step (fun K hK => ?_)); simp [go_sem, lk, upd, envOf, stepS_value, stepS_skip, stepS_enter, ↓IntWalk.iteOmega, *]; (try go_ints); refine hK.out _ _ ?_; clear hK K) | ((with_reducible refine wS_unit (fun K hK => ?_)); simp [go_sem, lk, upd, envOf, stepS_value, stepS_skip, stepS_enter, ↓IntWalk.iteOmega, *]; (try go_ints); refine hK.out _ _ ?_; clear hK K) | ((with_reducible refine wS_skip ?_ ?_); (focus (simp [lk, upd, envOf, *]; done))) | ((with_reducible refine wS_want ?_ ?_); (focus (simp [lk, upd, envOf, *]; done))) | ((with_reducible refine wS_split (fun hc => ?_) (fun hc => ?_)) <;> simp [lk, upd, envOf, *] at hc <;> try (exfalso; omega)) | with_reducible refine wS_nil ?_ | simp only [thenE, blockE, ↓reduceIte, Nat.reduceEqDiff] | ((with_reducible refine hK.out _ _ ?_); clear hK K) | ((with_reducible refine wE_if ?_ (fun hc => ?_) (fun hc => ?_)); (focus (simp [lk, upd, envOf, *]; done)); all_goals (simp [lk, upd, envOf, *] at hc <;> try (exfalso; omega))) | (clear hK; clear K))
        exact endE_tmp2R rfl ⟨by rw [← HR.out 0 false HV2.out]; simp [upd], HG.out⟩
    · have t45 : ((t[k].toNat : Int) == 45) = false := beq_f (by omega)
      by_cases l48 : t[k].toNat < 48
      · have HV := Lib.hid (HI.out.stuck HD.out (fun h => c45 h.2) (.inl (by omega)))
        have HV2 := Lib.hid (show numR ⟨false, t⟩ = (0, false) by rw [HN.out, HV.out])
        have l48' : (t[k].toNat : Int) < 48 := by omega
        clear c45
        repeat' (first | with_reducible (first | refine wE_seq (fun K hK => ?_) | refine wE_block ?_ | refine wE_skip ?_ | refine wE_ret ?_ | refine wE_exit ?_) | ((with_reducible refine wE_region ?_ ?_); (kernel_rfl); simp only [ls, stripO]) | ((with_reducible refine wS_step (fun K hK => ?_)); simp [go_sem, lk, upd, envOf, stepS_value, stepS_skip, stepS_enter, ↓IntWalk.iteOmega, *]; (try go_ints); refine hK.out _ _ ?_; clear hK K) | ((with_reducible refine wS_unit (fun K hK => ?_)); simp [go_sem, lk, upd, envOf, stepS_value, stepS_skip, stepS_enter, ↓IntWalk.iteOmega, *]; (try go_ints); refine hK.out _ _ ?_; clear hK K) | ((with_reducible refine wS_skip ?_ ?_); (focus (simp [lk, upd, envOf, *]; done))) | ((with_reducible refine wS_want ?_ ?_); (focus (simp [lk, upd, envOf, *]; done))) | ((with_reducible refine wS_split (fun hc => ?_) (fun hc => ?_)) <;> simp [lk, upd, envOf, *] at hc <;> try (exfalso; omega)) | with_reducible refine wS_nil ?_ | simp only [thenE, blockE, ↓reduceIte, Nat.reduceEqDiff] | ((with_reducible refine hK.out _ _ ?_); clear hK K) | ((with_reducible refine wE_if ?_ (fun hc => ?_) (fun hc => ?_)); (focus (simp [lk, upd, envOf, *]; done)); all_goals (simp [lk, upd, envOf, *] at hc <;> try (exfalso; omega))) | (clear hK; clear K))
        exact endE_tmp2R rfl ⟨by rw [← HR.out 0 false HV2.out]; simp [upd], HG.out⟩
      have l48' : ¬ (t[k].toNat : Int) < 48 := by omega
      by_cases l57 : 57 < t[k].toNat
      · have HV := Lib.hid (HI.out.stuck HD.out (fun h => c45 h.2) (.inr (by omega)))
        have HV2 := Lib.hid (show numR ⟨false, t⟩ = (0, false) by rw [HN.out, HV.out])
        have l57' : (57 : Int) < (t[k].toNat : Int) := by omega
        clear c45
        repeat' (first | with_reducible (first | refine wE_seq (fun K hK => ?_) | refine wE_block ?_ | refine wE_skip ?_ | refine wE_ret ?_ | refine wE_exit ?_) | ((with_reducible refine wE_region ?_ ?_); (kernel_rfl); simp only [ls, stripO]) | ((with_reducible refine wS_step (fun K hK => ?_)); simp [go_sem, lk, upd, envOf, stepS_value, stepS_skip, stepS_enter, ↓IntWalk.iteOmega, *]; (try go_ints); refine hK.out _ _ ?_; clear hK K) | ((with_reducible refine wS_unit (fun K hK => ?_)); simp [go_sem, lk, upd, envOf, stepS_value, stepS_skip, stepS_enter, ↓IntWalk.iteOmega, *]; (try go_ints); refine hK.out _ _ ?_; clear hK K) | ((with_reducible refine wS_skip ?_ ?_); (focus (simp [lk, upd, envOf, *]; done))) | ((with_reducible refine wS_want ?_ ?_); (focus (simp [lk, upd, envOf, *]; done))) | ((with_reducible refine wS_split (fun hc => ?_) (fun hc => ?_)) <;> simp [lk, upd, envOf, *] at hc <;> try (exfalso; omega)) | with_reducible refine wS_nil ?_ | simp only [thenE, blockE, ↓reduceIte, Nat.reduceEqDiff] | ((with_reducible refine hK.out _ _ ?_); clear hK K) | ((with_reducible refine wE_if ?_ (fun hc => ?_) (fun hc => ?_)); (focus (simp [lk, upd, envOf, *]; done)); all_goals (simp [lk, upd, envOf, *] at hc <;> try (exfalso; omega))) | (clear hK; clear K))
        exact endE_tmp2R rfl ⟨by rw [← HR.out 0 false HV2.out]; simp [upd], HG.out⟩
      have l57' : ¬ (57 : Int) < (t[k].toNat : Int) := by omega
      have HI' := Lib.hid (HI.out.dig HD.out ⟨by omega, by omega⟩)
      clear c45
      repeat' (first | with_reducible (first | refine wE_seq (fun K hK => ?_) | refine wE_block ?_ | refine wE_skip ?_ | refine wE_ret ?_ | refine wE_exit ?_) | ((with_reducible refine wE_region ?_ ?_); (kernel_rfl); simp only [ls, stripO]) | ((with_reducible refine wS_step (fun K hK => ?_)); simp [go_sem, lk, upd, envOf, stepS_value, stepS_skip, stepS_enter, ↓IntWalk.iteOmega, *]; (try go_ints); refine hK.out _ _ ?_; clear hK K) | ((with_reducible refine wS_unit (fun K hK => ?_)); simp [go_sem, lk, upd, envOf, stepS_value, stepS_skip, stepS_enter, ↓IntWalk.iteOmega, *]; (try go_ints); refine hK.out _ _ ?_; clear hK K) | ((with_reducible refine wS_skip ?_ ?_); (focus (simp [lk, upd, envOf, *]; done))) | ((with_reducible refine wS_want ?_ ?_); (focus (simp [lk, upd, envOf, *]; done))) | ((with_reducible refine wS_split (fun hc => ?_) (fun hc => ?_)) <;> simp [lk, upd, envOf, *] at hc <;> try (exfalso; omega)) | with_reducible refine wS_nil ?_ | simp only [thenE, blockE, ↓reduceIte, Nat.reduceEqDiff] | ((with_reducible refine hK.out _ _ ?_); clear hK K) | ((with_reducible refine wE_if ?_ (fun hc => ?_) (fun hc => ?_)); (focus (simp [lk, upd, envOf, *]; done)); all_goals (simp [lk, upd, envOf, *] at hc <;> try (exfalso; omega))) | (clear hK; clear K))
      refine ⟨k + 1, ⟨by omega, by simp [upd, *], by simp [upd], ⟨_, by simp [upd], HI'.out⟩, trivial⟩, by omega⟩
  · have HV := Lib.hid (HI.out.over (by have := HSZ.out; omega))
    have hpos : 0 < t.size := by omega
    have HH := Lib.hid (show t.data.toList.head? = some t[0] by
      have := drop_atR t 0 hpos
      rw [List.drop_zero] at this
      rw [this]; rfl)
    by_cases c45 : t[0].toNat = 45
    · have t45 : ((t[0].toNat : Int) == 45) = true := beq_t (by omega)
      have hb : t[0] = 45 := by apply UInt8.toNat_inj.1; rw [c45]; rfl
      have HM := Lib.hid (show numSign t.data.toList n = -n by unfold numSign; rw [HH.out]; rw [if_pos (by rw [hb])])
      have HV2 := Lib.hid (show numR ⟨false, t⟩ = (-n, decide (itoaS (-n) = t)) by rw [HN.out, HV.out]; simp only [HM.out])
      have HDC := Lib.hid (fun w' => decimal_any ((-n).natAbs + 1) (-n) w' (by omega) (by omega) (by omega))
      clear c45 hb
      repeat' (first | with_reducible (first | refine wE_seq (fun K hK => ?_) | refine wE_block ?_ | refine wE_skip ?_ | refine wE_ret ?_ | refine wE_exit ?_) | ((with_reducible refine wE_region ?_ ?_); (kernel_rfl); simp only [ls, stripO]) | ((with_reducible refine wS_step (fun K hK => ?_)); simp [go_sem, lk, upd, envOf, stepS_value, stepS_skip, stepS_enter, ↓IntWalk.iteOmega, *]; (try go_ints); refine hK.out _ _ ?_; clear hK K) | ((with_reducible refine wS_unit (fun K hK => ?_)); simp [go_sem, lk, upd, envOf, stepS_value, stepS_skip, stepS_enter, ↓IntWalk.iteOmega, *]; (try go_ints); refine hK.out _ _ ?_; clear hK K) | ((with_reducible refine wS_skip ?_ ?_); (focus (simp [lk, upd, envOf, *]; done))) | ((with_reducible refine wS_want ?_ ?_); (focus (simp [lk, upd, envOf, *]; done))) | ((with_reducible refine wS_split (fun hc => ?_) (fun hc => ?_)) <;> simp [lk, upd, envOf, *] at hc <;> try (exfalso; omega)) | with_reducible refine wS_nil ?_ | simp only [thenE, blockE, ↓reduceIte, Nat.reduceEqDiff] | ((with_reducible refine hK.out _ _ ?_); clear hK K) | ((with_reducible refine wE_if ?_ (fun hc => ?_) (fun hc => ?_)); (focus (simp [lk, upd, envOf, *]; done)); all_goals (simp [lk, upd, envOf, *] at hc <;> try (exfalso; omega))) | (clear hK; clear K))
      refine wE_drawE (R := Grow) [SPE.val 56 (.int .i64 (-n)), SPE.val 57 (.int .i64 (-n)), SPE.val 58 (.string (itoaS (-n))), SPE.val 59 (.pointer (some ⟨w.heap.size, 1, none⟩)), SPE.val 60 (.string t), SPE.val 61 (.bool (decide (itoaS (-n) = t))), SPE.val 2 (.int .i64 (-n)), SPE.val 3 (.bool (decide (itoaS (-n) = t)))] [[56], [57], [58], [59], [60], [61], [2], [3]] [([], [4]), ([], [4]), ([1], []), ([], [1]), ([3], []), ([2, 4], []), ([0], []), ([5], [])] (by kernel_rfl) (by kernel_rfl) rfl Grow.refl (fun _ _ _ => Grow.trans) ?_ ?_
      · simp only [ls, stripO, oblE, Nat.zero_add, Nat.reduceAdd]
        refine ⟨?_, ?_, ?_, ?_, ?_, ?_, ?_, ?_, trivial⟩
        · refine oneE_plain (fun σ w' hR hf => ?_); simp only [factsE, getP_succ, getP_zero, SPE.val_p, SPE.of_p, SPE.any_p, and_true, true_and] at hf; have c1' := Keeps.of_below ((Grow.drew w0).trans hR) _ _ c1; simp [go_sem, lk, upd, envOf, stepS_value, stepS_skip, stepS_enter, ↓IntWalk.iteOmega, putS, getP_succ, getP_zero, SPE.val_p, SPE.of_p, SPE.any_p, Grow.refl, hf, *]
        · refine oneE_plain (fun σ w' hR hf => ?_); simp only [factsE, getP_succ, getP_zero, SPE.val_p, SPE.of_p, SPE.any_p, and_true, true_and] at hf; have c1' := Keeps.of_below ((Grow.drew w0).trans hR) _ _ c1; simp [go_sem, lk, upd, envOf, stepS_value, stepS_skip, stepS_enter, ↓IntWalk.iteOmega, putS, getP_succ, getP_zero, SPE.val_p, SPE.of_p, SPE.any_p, Grow.refl, hf, *]
        · refine oneE_plain (fun σ w' hR hf => ?_); simp only [factsE, getP_succ, getP_zero, SPE.val_p, SPE.of_p, SPE.any_p, and_true, true_and] at hf; have c1' := Keeps.of_below ((Grow.drew w0).trans hR) _ _ c1; simp [go_sem, lk, upd, envOf, stepS_value, stepS_skip, stepS_enter, ↓IntWalk.iteOmega, putS, getP_succ, getP_zero, SPE.val_p, SPE.of_p, SPE.any_p, hf, *]; (try go_ints); refine (HDC.out _).mono ?_; rintro e w'' ⟨rfl, rfl⟩; exact ⟨_, rfl, rfl, Grow.refl _⟩
        · refine oneE_plain (fun σ w' hR hf => ?_); simp only [factsE, getP_succ, getP_zero, SPE.val_p, SPE.of_p, SPE.any_p, and_true, true_and] at hf; have c1' := Keeps.of_below ((Grow.drew w0).trans hR) _ _ c1; simp [go_sem, lk, upd, envOf, stepS_value, stepS_skip, stepS_enter, ↓IntWalk.iteOmega, putS, getP_succ, getP_zero, SPE.val_p, SPE.of_p, SPE.any_p, Grow.refl, hf, *]
        · refine oneE_plain (fun σ w' hR hf => ?_); simp only [factsE, getP_succ, getP_zero, SPE.val_p, SPE.of_p, SPE.any_p, and_true, true_and] at hf; have c1' := Keeps.of_below ((Grow.drew w0).trans hR) _ _ c1; simp [go_sem, lk, upd, envOf, stepS_value, stepS_skip, stepS_enter, ↓IntWalk.iteOmega, putS, getP_succ, getP_zero, SPE.val_p, SPE.of_p, SPE.any_p, Grow.refl, hf, *]
        · refine oneE_plain (fun σ w' hR hf => ?_); simp only [factsE, getP_succ, getP_zero, SPE.val_p, SPE.of_p, SPE.any_p, and_true, true_and] at hf; have c1' := Keeps.of_below ((Grow.drew w0).trans hR) _ _ c1; simp [go_sem, lk, upd, envOf, stepS_value, stepS_skip, stepS_enter, ↓IntWalk.iteOmega, putS, getP_succ, getP_zero, SPE.val_p, SPE.of_p, SPE.any_p, hf, *]; (try go_ints); exact ⟨str_beq _ _, Grow.refl _⟩
        · refine oneE_plain (fun σ w' hR hf => ?_); simp only [factsE, getP_succ, getP_zero, SPE.val_p, SPE.of_p, SPE.any_p, and_true, true_and] at hf; have c1' := Keeps.of_below ((Grow.drew w0).trans hR) _ _ c1; simp [go_sem, lk, upd, envOf, stepS_value, stepS_skip, stepS_enter, ↓IntWalk.iteOmega, putS, getP_succ, getP_zero, SPE.val_p, SPE.of_p, SPE.any_p, Grow.refl, hf, *]
        · refine oneE_plain (fun σ w' hR hf => ?_); simp only [factsE, getP_succ, getP_zero, SPE.val_p, SPE.of_p, SPE.any_p, and_true, true_and] at hf; have c1' := Keeps.of_below ((Grow.drew w0).trans hR) _ _ c1; simp [go_sem, lk, upd, envOf, stepS_value, stepS_skip, stepS_enter, ↓IntWalk.iteOmega, putS, getP_succ, getP_zero, SPE.val_p, SPE.of_p, SPE.any_p, Grow.refl, hf, *]
      intro σ' w2 hg hE
      have e2 := hE.at_ 6 rfl
      have e3 := hE.at_ 7 rfl
      simp only [getP_succ, getP_zero, SPE.val_p, SPE.of_p] at e2 e3
      clear hE
      repeat' (first | with_reducible (first | refine wE_seq (fun K hK => ?_) | refine wE_block ?_ | refine wE_skip ?_ | refine wE_ret ?_ | refine wE_exit ?_) | ((with_reducible refine wE_region ?_ ?_); (kernel_rfl); simp only [ls, stripO]) | ((with_reducible refine wS_step (fun K hK => ?_)); simp [go_sem, lk, upd, envOf, stepS_value, stepS_skip, stepS_enter, ↓IntWalk.iteOmega, *]; (try go_ints); refine hK.out _ _ ?_; clear hK K) | ((with_reducible refine wS_unit (fun K hK => ?_)); simp [go_sem, lk, upd, envOf, stepS_value, stepS_skip, stepS_enter, ↓IntWalk.iteOmega, *]; (try go_ints); refine hK.out _ _ ?_; clear hK K) | ((with_reducible refine wS_skip ?_ ?_); (focus (simp [lk, upd, envOf, *]; done))) | ((with_reducible refine wS_want ?_ ?_); (focus (simp [lk, upd, envOf, *]; done))) | ((with_reducible refine wS_split (fun hc => ?_) (fun hc => ?_)) <;> simp [lk, upd, envOf, *] at hc <;> try (exfalso; omega)) | with_reducible refine wS_nil ?_ | simp only [thenE, blockE, ↓reduceIte, Nat.reduceEqDiff] | ((with_reducible refine hK.out _ _ ?_); clear hK K) | ((with_reducible refine wE_if ?_ (fun hc => ?_) (fun hc => ?_)); (focus (simp [lk, upd, envOf, *]; done)); all_goals (simp [lk, upd, envOf, *] at hc <;> try (exfalso; omega))) | (clear hK; clear K))
      exact endE_tmp2R rfl ⟨by rw [← HR.out _ _ HV2.out, e2, e3], HG.out.trans ((Grow.drew w0).trans hg)⟩
    · have t45 : ((t[0].toNat : Int) == 45) = false := beq_f (by omega)
      have hb : ¬ t[0] = 45 := fun h => c45 (by rw [h]; rfl)
      have HM := Lib.hid (show numSign t.data.toList n = n by unfold numSign; rw [HH.out]; rw [if_neg (by simpa using hb)])
      have HV2 := Lib.hid (show numR ⟨false, t⟩ = (n, decide (itoaS (n) = t)) by rw [HN.out, HV.out]; simp only [HM.out])
      have HDC := Lib.hid (fun w' => decimal_any ((n).natAbs + 1) (n) w' (by omega) (by omega) (by omega))
      clear c45 hb
      repeat' (first | with_reducible (first | refine wE_seq (fun K hK => ?_) | refine wE_block ?_ | refine wE_skip ?_ | refine wE_ret ?_ | refine wE_exit ?_) | ((with_reducible refine wE_region ?_ ?_); (kernel_rfl); simp only [ls, stripO]) | ((with_reducible refine wS_step (fun K hK => ?_)); simp [go_sem, lk, upd, envOf, stepS_value, stepS_skip, stepS_enter, ↓IntWalk.iteOmega, *]; (try go_ints); refine hK.out _ _ ?_; clear hK K) | ((with_reducible refine wS_unit (fun K hK => ?_)); simp [go_sem, lk, upd, envOf, stepS_value, stepS_skip, stepS_enter, ↓IntWalk.iteOmega, *]; (try go_ints); refine hK.out _ _ ?_; clear hK K) | ((with_reducible refine wS_skip ?_ ?_); (focus (simp [lk, upd, envOf, *]; done))) | ((with_reducible refine wS_want ?_ ?_); (focus (simp [lk, upd, envOf, *]; done))) | ((with_reducible refine wS_split (fun hc => ?_) (fun hc => ?_)) <;> simp [lk, upd, envOf, *] at hc <;> try (exfalso; omega)) | with_reducible refine wS_nil ?_ | simp only [thenE, blockE, ↓reduceIte, Nat.reduceEqDiff] | ((with_reducible refine hK.out _ _ ?_); clear hK K) | ((with_reducible refine wE_if ?_ (fun hc => ?_) (fun hc => ?_)); (focus (simp [lk, upd, envOf, *]; done)); all_goals (simp [lk, upd, envOf, *] at hc <;> try (exfalso; omega))) | (clear hK; clear K))
      refine wE_drawE (R := Grow) [SPE.val 56 (.int .i64 (n)), SPE.val 57 (.int .i64 (n)), SPE.val 58 (.string (itoaS (n))), SPE.val 59 (.pointer (some ⟨w.heap.size, 1, none⟩)), SPE.val 60 (.string t), SPE.val 61 (.bool (decide (itoaS (n) = t))), SPE.val 2 (.int .i64 (n)), SPE.val 3 (.bool (decide (itoaS (n) = t)))] [[56], [57], [58], [59], [60], [61], [2], [3]] [([], [4]), ([], [4]), ([1], []), ([], [1]), ([3], []), ([2, 4], []), ([0], []), ([5], [])] (by kernel_rfl) (by kernel_rfl) rfl Grow.refl (fun _ _ _ => Grow.trans) ?_ ?_
      · simp only [ls, stripO, oblE, Nat.zero_add, Nat.reduceAdd]
        refine ⟨?_, ?_, ?_, ?_, ?_, ?_, ?_, ?_, trivial⟩
        · refine oneE_plain (fun σ w' hR hf => ?_); simp only [factsE, getP_succ, getP_zero, SPE.val_p, SPE.of_p, SPE.any_p, and_true, true_and] at hf; have c1' := Keeps.of_below ((Grow.drew w0).trans hR) _ _ c1; simp [go_sem, lk, upd, envOf, stepS_value, stepS_skip, stepS_enter, ↓IntWalk.iteOmega, putS, getP_succ, getP_zero, SPE.val_p, SPE.of_p, SPE.any_p, Grow.refl, hf, *]
        · refine oneE_plain (fun σ w' hR hf => ?_); simp only [factsE, getP_succ, getP_zero, SPE.val_p, SPE.of_p, SPE.any_p, and_true, true_and] at hf; have c1' := Keeps.of_below ((Grow.drew w0).trans hR) _ _ c1; simp [go_sem, lk, upd, envOf, stepS_value, stepS_skip, stepS_enter, ↓IntWalk.iteOmega, putS, getP_succ, getP_zero, SPE.val_p, SPE.of_p, SPE.any_p, Grow.refl, hf, *]
        · refine oneE_plain (fun σ w' hR hf => ?_); simp only [factsE, getP_succ, getP_zero, SPE.val_p, SPE.of_p, SPE.any_p, and_true, true_and] at hf; have c1' := Keeps.of_below ((Grow.drew w0).trans hR) _ _ c1; simp [go_sem, lk, upd, envOf, stepS_value, stepS_skip, stepS_enter, ↓IntWalk.iteOmega, putS, getP_succ, getP_zero, SPE.val_p, SPE.of_p, SPE.any_p, hf, *]; (try go_ints); refine (HDC.out _).mono ?_; rintro e w'' ⟨rfl, rfl⟩; exact ⟨_, rfl, rfl, Grow.refl _⟩
        · refine oneE_plain (fun σ w' hR hf => ?_); simp only [factsE, getP_succ, getP_zero, SPE.val_p, SPE.of_p, SPE.any_p, and_true, true_and] at hf; have c1' := Keeps.of_below ((Grow.drew w0).trans hR) _ _ c1; simp [go_sem, lk, upd, envOf, stepS_value, stepS_skip, stepS_enter, ↓IntWalk.iteOmega, putS, getP_succ, getP_zero, SPE.val_p, SPE.of_p, SPE.any_p, Grow.refl, hf, *]
        · refine oneE_plain (fun σ w' hR hf => ?_); simp only [factsE, getP_succ, getP_zero, SPE.val_p, SPE.of_p, SPE.any_p, and_true, true_and] at hf; have c1' := Keeps.of_below ((Grow.drew w0).trans hR) _ _ c1; simp [go_sem, lk, upd, envOf, stepS_value, stepS_skip, stepS_enter, ↓IntWalk.iteOmega, putS, getP_succ, getP_zero, SPE.val_p, SPE.of_p, SPE.any_p, Grow.refl, hf, *]
        · refine oneE_plain (fun σ w' hR hf => ?_); simp only [factsE, getP_succ, getP_zero, SPE.val_p, SPE.of_p, SPE.any_p, and_true, true_and] at hf; have c1' := Keeps.of_below ((Grow.drew w0).trans hR) _ _ c1; simp [go_sem, lk, upd, envOf, stepS_value, stepS_skip, stepS_enter, ↓IntWalk.iteOmega, putS, getP_succ, getP_zero, SPE.val_p, SPE.of_p, SPE.any_p, hf, *]; (try go_ints); exact ⟨str_beq _ _, Grow.refl _⟩
        · refine oneE_plain (fun σ w' hR hf => ?_); simp only [factsE, getP_succ, getP_zero, SPE.val_p, SPE.of_p, SPE.any_p, and_true, true_and] at hf; have c1' := Keeps.of_below ((Grow.drew w0).trans hR) _ _ c1; simp [go_sem, lk, upd, envOf, stepS_value, stepS_skip, stepS_enter, ↓IntWalk.iteOmega, putS, getP_succ, getP_zero, SPE.val_p, SPE.of_p, SPE.any_p, Grow.refl, hf, *]
        · refine oneE_plain (fun σ w' hR hf => ?_); simp only [factsE, getP_succ, getP_zero, SPE.val_p, SPE.of_p, SPE.any_p, and_true, true_and] at hf; have c1' := Keeps.of_below ((Grow.drew w0).trans hR) _ _ c1; simp [go_sem, lk, upd, envOf, stepS_value, stepS_skip, stepS_enter, ↓IntWalk.iteOmega, putS, getP_succ, getP_zero, SPE.val_p, SPE.of_p, SPE.any_p, Grow.refl, hf, *]
      intro σ' w2 hg hE
      have e2 := hE.at_ 6 rfl
      have e3 := hE.at_ 7 rfl
      simp only [getP_succ, getP_zero, SPE.val_p, SPE.of_p] at e2 e3
      clear hE
      repeat' (first | with_reducible (first | refine wE_seq (fun K hK => ?_) | refine wE_block ?_ | refine wE_skip ?_ | refine wE_ret ?_ | refine wE_exit ?_) | ((with_reducible refine wE_region ?_ ?_); (kernel_rfl); simp only [ls, stripO]) | ((with_reducible refine wS_step (fun K hK => ?_)); simp [go_sem, lk, upd, envOf, stepS_value, stepS_skip, stepS_enter, ↓IntWalk.iteOmega, *]; (try go_ints); refine hK.out _ _ ?_; clear hK K) | ((with_reducible refine wS_unit (fun K hK => ?_)); simp [go_sem, lk, upd, envOf, stepS_value, stepS_skip, stepS_enter, ↓IntWalk.iteOmega, *]; (try go_ints); refine hK.out _ _ ?_; clear hK K) | ((with_reducible refine wS_skip ?_ ?_); (focus (simp [lk, upd, envOf, *]; done))) | ((with_reducible refine wS_want ?_ ?_); (focus (simp [lk, upd, envOf, *]; done))) | ((with_reducible refine wS_split (fun hc => ?_) (fun hc => ?_)) <;> simp [lk, upd, envOf, *] at hc <;> try (exfalso; omega)) | with_reducible refine wS_nil ?_ | simp only [thenE, blockE, ↓reduceIte, Nat.reduceEqDiff] | ((with_reducible refine hK.out _ _ ?_); clear hK K) | ((with_reducible refine wE_if ?_ (fun hc => ?_) (fun hc => ?_)); (focus (simp [lk, upd, envOf, *]; done)); all_goals (simp [lk, upd, envOf, *] at hc <;> try (exfalso; omega))) | (clear hK; clear K))
      exact endE_tmp2R rfl ⟨by rw [← HR.out _ _ HV2.out, e2, e3], HG.out.trans ((Grow.drew w0).trans hg)⟩
end Go.Proofs.YtglekdhdogjnoaaGreatDoor
