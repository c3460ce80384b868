/- The reference's files, Word and Line, walked. -/
import Derived.Test.YtglekdhdogjnoaaGreatDoorRefC
namespace Go.Proofs.YtglekdhdogjnoaaGreatDoor
open Go.RowKit
set_option linter.unusedSimpArgs false
def filesL (fs : List File) : List UInt8 := fs.flatMap fun f => 32 :: quoteL f.1.data.toList ++ 32 :: quoteL f.2.data.toList
def fls (fs : List File) (k : Nat) : ByteArray := S (filesL (fs.take k))
def FileSmall (f : File) : Prop := f.1.size ≤ 2000 ∧ f.2.size ≤ 2000
theorem quoteL_le (l : List UInt8) : (quoteL l).length ≤ 4 * l.length + 2 := by
  have := quote_le l; simp only [quoteL, List.length_append, List.length_cons, List.length_nil]; omega
theorem filesL_le (fs : List File) (h : ∀ f ∈ fs, FileSmall f) : (filesL fs).length ≤ 20000 * fs.length := by
  induction fs with
  | nil => simp [filesL]
  | cons f fs ih =>
    have h0 := h f (by simp)
    have h1 := quoteL_le f.1.data.toList
    have h3 := quoteL_le f.2.data.toList
    have h2 := ih (fun y hy => h y (by simp [hy]))
    have e1 : f.1.data.toList.length = f.1.size := by simp
    have e2 : f.2.data.toList.length = f.2.size := by simp
    simp only [FileSmall] at h0
    simp only [filesL, List.flatMap_cons, List.length_append, List.length_cons] at *; omega
theorem fls_size (fs : List File) (h : ∀ f ∈ fs, FileSmall f) (k : Nat) : (fls fs k).size ≤ 20000 * fs.length := by
  have := filesL_le (fs.take k) (fun x hx => h x (List.mem_of_mem_take hx))
  have h2 := List.length_take_le' k fs
  rw [fls, S_size]; omega
theorem fls_succ (fs : List File) (k : Nat) (f : File) (h : fs[k]? = some f) : fls fs k ++ ⟨#[32]⟩ ++ S (quoteL f.1.data.toList) ++ ⟨#[32]⟩ ++ S (quoteL f.2.data.toList) = fls fs (k + 1) := by
  rw [fls, fls, List.take_add_one, h, filesL, filesL, List.flatMap_append]
  simp only [S_app_lit, S_append]
  simp
theorem fls_end (fs : List File) (k : Nat) (h : fs.length ≤ k) : fls fs k = S (filesL fs) := by
  rw [fls, List.take_of_length_le h]
set_option maxHeartbeats 1000000 in
theorem files_any (v : Value) (fs : List File) (w : World) (hv : FilesAt w v fs) (hl : fs.length ≤ 100) (hr : ∀ f ∈ fs, FileSmall f) :
    Calls Tryz.prog 52 #[v] w fun e w' => e = .returned (.string (S (filesL fs))) ∧ ∃ n, w' = w.drewN n := by
  obtain ⟨a, c, rfl, hc, hcell⟩ := hv
  have HZ := Lib.hid (fls_size fs hr)
  have HR := Lib.hid hr
  have HC := Lib.hid hcell
  have HE := Lib.hid (fls_end fs)
  generalize S (filesL fs) = R at *
  clear hr hcell
  go_enter Tryz.func52, Tryz.ntmps52
  go_wp2_with fail
  go_loopw [3, 4] (fun o i w' => ∃ k n : Nat, k ≤ fs.length ∧ i = .int .i64 k ∧ o = .string (fls fs k) ∧ w' = w.drewN n) (fun _ i _ => fs.length - (intOf i).toNat)
  case atStart => exact ⟨0, 0, Nat.zero_le _, rfl, rfl, rfl⟩
  case round =>
    obtain ⟨k, n, hk, rfl, rfl, hw⟩ := hrel
    have HW := Lib.hid hw; clear hw
    by_cases hlt : k < fs.length
    · obtain ⟨x, hx⟩ : ∃ x, fs[k]? = some x := ⟨_, List.getElem?_eq_getElem hlt⟩
      rcases HC.out with h | ⟨b, o, rfl, hcell⟩
      · rw [h] at hlt; simp at hlt
      obtain ⟨hc1, hc2⟩ := hcell k x hx
      replace hc1 : wr.cell? ⟨b, o + k * 2, none⟩ = some (.string x.1) := by rw [HW.out]; exact hc1
      replace hc2 : wr.cell? ⟨b, o + k * 2 + 1, none⟩ = some (.string x.2) := by rw [HW.out]; exact hc2
      obtain ⟨hs1, hs2⟩ := HR.out x (List.mem_of_getElem? hx)
      have hz : (fls fs k).size ≤ 2000000 := by have := HZ.out k; omega
      have hz1 : (S (quoteL x.1.data.toList)).size ≤ 8002 := by rw [S_size]; have := quoteL_le x.1.data.toList; simp at this; omega
      have hz2 : (S (quoteL x.2.data.toList)).size ≤ 8002 := by rw [S_size]; have := quoteL_le x.2.data.toList; simp at this; omega
      have HS := Lib.hid (fls_succ fs k x hx)
      clear hx hcell
      obtain ⟨p, d⟩ := x
      simp only at *
      go_wp2_with fail
      go_quiet ((go_at_call 50; exact Calls.quiet_of (Quote_any _ _ (by omega))))
      go_wp2_with fail
      go_roundw
      case rel => exact ⟨k + 1, n + nq, by omega, by go_num, vstr HS.out, by rw [HW.out]; exact World.drewN_drewN _ _ _⟩
      case measure => simp [intOf]; omega
    · go_wp2_with fail
      go_ret
      exact ⟨ret_str (HE.out k (by omega)), n, HW.out⟩
def wordL (n : Int) : List UInt8 :=
  if n = 1 then [115, 117, 98, 109, 105, 116] else if n = 2 then [97, 112, 112, 114, 111, 118, 101] else if n = 3 then [116, 105, 99, 107] else if n = 4 then [99, 117, 116]
  else if n = 5 then [112, 111, 119, 101, 114] else if n = 6 then [119, 111, 114, 107, 101, 114] else if n = 7 then [114, 111, 108, 108, 98, 97, 99, 107] else if n = 8 then [114, 117, 110] else [105, 110, 112, 117, 116]
theorem wordL_le (n : Int) : (wordL n).length ≤ 10 := by
  unfold wordL; repeat' split
  all_goals simp
theorem wordL_out (n : Int) (h : n < 1 ∨ 8 < n) : wordL n = [105, 110, 112, 117, 116] := by
  unfold wordL
  rw [if_neg (by omega), if_neg (by omega), if_neg (by omega), if_neg (by omega), if_neg (by omega), if_neg (by omega), if_neg (by omega), if_neg (by omega)]
set_option maxHeartbeats 2000000 in
theorem word_any (n : Int) (w : World) :
    Calls Tryz.prog 14 #[.int .i64 n] w fun e w' => e = .returned (.string (S (wordL n))) ∧ Below w.heap.size w w' := by
  by_cases hlt : n < 1
  · have HE := Lib.hid (wordL_out n (Or.inl hlt))
    refine calls_of_wE Tryz.func14 rfl Tryz.ntmps14 (by simp) ?_
    repeat' (first | with_reducible (first | refine wE_seq (fun K hK => ?_) | refine wE_block ?_ | refine wE_skip ?_ | refine wE_ret ?_ | refine wE_exit ?_) | ((with_reducible refine wE_region ?_ ?_); (kernel_rfl); simp only [ls, stripO]) | ((with_reducible refine wS_step (fun K hK => ?_)); simp [go_sem, lk, upd, envOf, stepS_value, stepS_skip, stepS_enter, ↓IntWalk.iteOmega, *]; (try go_ints); refine hK.out _ _ ?_; clear hK K) | ((with_reducible refine wS_unit (fun K hK => ?_)); simp [go_sem, lk, upd, envOf, stepS_value, stepS_skip, stepS_enter, ↓IntWalk.iteOmega, *]; (try go_ints); refine hK.out _ _ ?_; clear hK K) | ((with_reducible refine wS_skip ?_ ?_); (focus (simp [lk, upd, envOf, *]; done))) | ((with_reducible refine wS_want ?_ ?_); (focus (simp [lk, upd, envOf, *]; done))) | ((with_reducible refine wS_split (fun hc => ?_) (fun hc => ?_)) <;> simp [lk, upd, envOf, *] at hc <;> try (exfalso; omega)) | with_reducible refine wS_nil ?_ | simp only [thenE, blockE, ↓reduceIte, Nat.reduceEqDiff] | ((with_reducible refine hK.out _ _ ?_); clear hK K) | ((with_reducible refine wE_if ?_ (fun hc => ?_) (fun hc => ?_)); (focus (simp [lk, upd, envOf, *]; done)); all_goals (simp [lk, upd, envOf, *] at hc <;> try (exfalso; omega))) | (clear hK; clear K))
    refine endE_tmp rfl ⟨ret_str ?_, Below.refl _ _⟩
    rw [HE.out]; rfl
  · by_cases hgt : 8 < n
    · have HE := Lib.hid (wordL_out n (Or.inr hgt))
      refine calls_of_wE Tryz.func14 rfl Tryz.ntmps14 (by simp) ?_
      repeat' (first | with_reducible (first | refine wE_seq (fun K hK => ?_) | refine wE_block ?_ | refine wE_skip ?_ | refine wE_ret ?_ | refine wE_exit ?_) | ((with_reducible refine wE_region ?_ ?_); (kernel_rfl); simp only [ls, stripO]) | ((with_reducible refine wS_step (fun K hK => ?_)); simp [go_sem, lk, upd, envOf, stepS_value, stepS_skip, stepS_enter, ↓IntWalk.iteOmega, *]; (try go_ints); refine hK.out _ _ ?_; clear hK K) | ((with_reducible refine wS_unit (fun K hK => ?_)); simp [go_sem, lk, upd, envOf, stepS_value, stepS_skip, stepS_enter, ↓IntWalk.iteOmega, *]; (try go_ints); refine hK.out _ _ ?_; clear hK K) | ((with_reducible refine wS_skip ?_ ?_); (focus (simp [lk, upd, envOf, *]; done))) | ((with_reducible refine wS_want ?_ ?_); (focus (simp [lk, upd, envOf, *]; done))) | ((with_reducible refine wS_split (fun hc => ?_) (fun hc => ?_)) <;> simp [lk, upd, envOf, *] at hc <;> try (exfalso; omega)) | with_reducible refine wS_nil ?_ | simp only [thenE, blockE, ↓reduceIte, Nat.reduceEqDiff] | ((with_reducible refine hK.out _ _ ?_); clear hK K) | ((with_reducible refine wE_if ?_ (fun hc => ?_) (fun hc => ?_)); (focus (simp [lk, upd, envOf, *]; done)); all_goals (simp [lk, upd, envOf, *] at hc <;> try (exfalso; omega))) | (clear hK; clear K))
      refine endE_tmp rfl ⟨ret_str ?_, Below.refl _ _⟩
      rw [HE.out]; rfl
    · have hc : n = 1 ∨ n = 2 ∨ n = 3 ∨ n = 4 ∨ n = 5 ∨ n = 6 ∨ n = 7 ∨ n = 8 := by omega
      clear hlt hgt
      rcases hc with rfl | rfl | rfl | rfl | rfl | rfl | rfl | rfl
      all_goals
        refine calls_of_wE Tryz.func14 rfl Tryz.ntmps14 (by simp) ?_
        repeat' (first | with_reducible (first | refine wE_seq (fun K hK => ?_) | refine wE_block ?_ | refine wE_skip ?_ | refine wE_ret ?_ | refine wE_exit ?_) | ((with_reducible refine wE_region ?_ ?_); (kernel_rfl); simp only [ls, stripO]) | ((with_reducible refine wS_step (fun K hK => ?_)); simp [go_sem, lk, upd, envOf, stepS_value, stepS_skip, stepS_enter, ↓IntWalk.iteOmega, *]; (try go_ints); refine hK.out _ _ ?_; clear hK K) | ((with_reducible refine wS_unit (fun K hK => ?_)); simp [go_sem, lk, upd, envOf, stepS_value, stepS_skip, stepS_enter, ↓IntWalk.iteOmega, *]; (try go_ints); refine hK.out _ _ ?_; clear hK K) | ((with_reducible refine wS_skip ?_ ?_); (focus (simp [lk, upd, envOf, *]; done))) | ((with_reducible refine wS_want ?_ ?_); (focus (simp [lk, upd, envOf, *]; done))) | ((with_reducible refine wS_split (fun hc => ?_) (fun hc => ?_)) <;> simp [lk, upd, envOf, *] at hc <;> try (exfalso; omega)) | with_reducible refine wS_nil ?_ | simp only [thenE, blockE, ↓reduceIte, Nat.reduceEqDiff] | ((with_reducible refine hK.out _ _ ?_); clear hK K) | ((with_reducible refine wE_if ?_ (fun hc => ?_) (fun hc => ?_)); (focus (simp [lk, upd, envOf, *]; done)); all_goals (simp [lk, upd, envOf, *] at hc <;> try (exfalso; omega))) | (clear hK; clear K))
        refine endE_tmp rfl ⟨ret_str ?_, (Below.refl _ _).alloc (Nat.le_refl _) _⟩
        rfl
end Go.Proofs.YtglekdhdogjnoaaGreatDoor
