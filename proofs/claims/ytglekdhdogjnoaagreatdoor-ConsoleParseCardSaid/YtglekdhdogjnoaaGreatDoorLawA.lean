/- awake, and the law ConsoleLine, walked. -/
import Derived.Test.YtglekdhdogjnoaaGreatDoorShwD

namespace Go.Proofs.YtglekdhdogjnoaaGreatDoor
open Go.RowKit
set_option linter.unusedSimpArgs false
def actA : PAct := ⟨1, ⟨#[97, 110, 110]⟩, 0, 2, 0, 0, [(⟨#[97]⟩, ⟨#[120, 34, 10]⟩)], []⟩
def act0' (k : Int) : PAct := ⟨k, ⟨#[]⟩, 0, 0, 0, 0, [], []⟩
def outA : POut := ⟨8, 0, []⟩
theorem i0 : Lib.itoa 0 = [48] := itoa_one 0 (by omega) (by omega)
theorem i2 : Lib.itoa 2 = [50] := itoa_one 2 (by omega) (by omega)
theorem i8 : Lib.itoa 8 = [56] := itoa_one 8 (by omega) (by omega)
theorem lineA : lineL actA = [115, 117, 98, 109, 105, 116, 32, 34, 97, 110, 110, 34, 32, 50, 32, 48, 32, 34, 97, 34, 32, 34, 120, 92, 34, 92, 110, 34] := by
  show wordL 1 ++ 32 :: quoteL [97, 110, 110] ++ (32 :: Lib.itoa 2 ++ (32 :: Lib.itoa 0 ++ [])) ++ filesL [(⟨#[97]⟩, ⟨#[120, 34, 10]⟩)] = _
  rw [i0, i2]
  decide +kernel
theorem checkA : checkN actA = 0 := by decide +kernel
theorem lineRA : lineR actA = .tuple #[.string ⟨#[115, 117, 98, 109, 105, 116, 32, 34, 97, 110, 110, 34, 32, 50, 32, 48, 32, 34, 97, 34, 32, 34, 120, 92, 34, 92, 110, 34]⟩, .int .i64 0] := by
  rw [lineR, if_pos checkA, lineA]; rfl
theorem showA : showL (wordL 8) outA = [114, 117, 110, 32, 101, 114, 114, 111, 114, 32, 56] := by
  show wordL 8 ++ (sp wError ++ (sp (Lib.itoa 8) ++ [])) = _
  rw [i8]
  decide +kernel
theorem smallA : Small actA := ⟨by decide, by decide, by intro f hf; simp [actA] at hf; subst hf; exact ⟨by decide, by decide⟩, by decide⟩
theorem z64 : I64 0 := ⟨by omega, by omega⟩
set_option maxHeartbeats 2000000 in
theorem awake_any (w : World) (ht : Tab10 w) : Calls Tryz.prog 4 #[] w fun e w' => e = .returned (.bool true) ∧ Grow w w' := by
  have hg := Grow.alloc w (.cells #[.string ⟨#[97]⟩, .string ⟨#[120, 34, 10]⟩] 35)
  have HA : Hid (ActAt (w.alloc (.cells #[.string ⟨#[97]⟩, .string ⟨#[120, 34, 10]⟩] 35)) actA (.slice (some ⟨w.heap.size, 0, none⟩) 1 1) (.slice none 0 0)) := by
    refine ⟨⟨_, 1, rfl, by simp [actA], .inr ⟨w.heap.size, 0, rfl, ?_⟩⟩, ⟨none, 0, rfl, by simp [actA], by simp [actA], .inl rfl⟩, ⟨by decide, by decide⟩, z64, ⟨by decide, by decide⟩, z64, z64⟩
    intro j f hj
    match j, hj with
    | 0, hj =>
      simp [actA] at hj; subst hj
      constructor <;> simp [go_sem]
    | j + 1, hj => simp [actA] at hj
  have HT := Lib.hid (ht.grow hg)
  have HG := Lib.hid hg
  have HL := Lib.hid (line_any actA _ _ _ HA.out smallA HT.out)
  rw [lineRA] at HL
  have HRB : Hid (∀ t : Bool, t = true → Ending.returned (.bool t) = .returned (.bool true)) := fun t h => by rw [h]
  clear ht hg
  refine calls_of_wE Tryz.func4 rfl Tryz.ntmps4 (by simp) ?_
  repeat' (first | with_reducible (first | refine wE_seq (fun K hK => ?_) | refine wE_block ?_ | refine wE_skip ?_ | refine wE_ret ?_ | refine wE_exit ?_) | ((with_reducible refine wE_region ?_ ?_); (kernel_rfl); simp only [ls, stripO]) | ((with_reducible refine wS_step (fun K hK => ?_)); simp [go_sem, lk, upd, envOf, stepS_value, stepS_skip, stepS_enter, ↓IntWalk.iteOmega, *]; (try go_ints); refine hK.out _ _ ?_; clear hK K) | ((with_reducible refine wS_unit (fun K hK => ?_)); simp [go_sem, lk, upd, envOf, stepS_value, stepS_skip, stepS_enter, ↓IntWalk.iteOmega, *]; (try go_ints); refine hK.out _ _ ?_; clear hK K) | ((with_reducible refine wS_skip ?_ ?_); (focus (simp [lk, upd, envOf, *]; done))) | ((with_reducible refine wS_want ?_ ?_); (focus (simp [lk, upd, envOf, *]; done))) | ((with_reducible refine wS_split (fun hc => ?_) (fun hc => ?_)) <;> simp [lk, upd, envOf, *] at hc <;> try (exfalso; omega)) | with_reducible refine wS_nil ?_ | simp only [thenE, blockE, ↓reduceIte, Nat.reduceEqDiff] | ((with_reducible refine hK.out _ _ ?_); clear hK K) | ((with_reducible refine wE_if ?_ (fun hc => ?_) (fun hc => ?_)); (focus (simp [lk, upd, envOf, *]; done)); all_goals (simp [lk, upd, envOf, *] at hc <;> try (exfalso; omega))) | (clear hK; clear K))
  generalize w.alloc (.cells #[.string ⟨#[97]⟩, .string ⟨#[120, 34, 10]⟩] 35) = w0 at *
  (with_reducible refine wS_step (fun K hK => ?_)); simp [go_sem, lk, upd, envOf, stepS_value, stepS_skip, stepS_enter, ↓IntWalk.iteOmega, *]; (try go_ints); refine (HL.out).mono ?_; rintro e w1 ⟨rfl, hg1⟩; refine ⟨_, rfl, hK.out _ _ ?_⟩; clear hK K
  have HT1 := Lib.hid (HT.out.grow hg1)
  have HG1 := Lib.hid (HG.out.trans hg1)
  have HS := Lib.hid (show Calls Tryz.prog 9 #[.agg #[.int .i64 8, .string ⟨#[]⟩, .int .i64 0, .int .i64 0, .int .i64 0, .int .i64 0, .slice none 0 0, .slice none 0 0], .agg #[.int .i64 8, .int .i64 0, .slice none 0 0]] w1 fun e w' => e = .returned (.string ⟨#[114, 117, 110, 32, 101, 114, 114, 111, 114, 32, 56]⟩) ∧ Grow w1 w' by
    have h := show_any (act0' 8) (.slice none 0 0) (.slice none 0 0) outA (.slice none 0 0) w1 ⟨⟨none, 0, rfl, by simp [outA], .inl rfl⟩, ⟨by decide, by decide⟩, z64⟩ ⟨by decide, by simp [outA]⟩ HT1.out
    rw [show S (showL (wordL (act0' 8).kind) outA) = ⟨#[114, 117, 110, 32, 101, 114, 114, 111, 114, 32, 56]⟩ by
      show S (showL (wordL 8) outA) = _
      rw [showA]; rfl] at h
    exact h)
  clear hg1
  repeat' (first | with_reducible (first | refine wE_seq (fun K hK => ?_) | refine wE_block ?_ | refine wE_skip ?_ | refine wE_ret ?_ | refine wE_exit ?_) | ((with_reducible refine wE_region ?_ ?_); (kernel_rfl); simp only [ls, stripO]) | ((with_reducible refine wS_step (fun K hK => ?_)); simp [go_sem, lk, upd, envOf, stepS_value, stepS_skip, stepS_enter, ↓IntWalk.iteOmega, *]; (try go_ints); refine hK.out _ _ ?_; clear hK K) | ((with_reducible refine wS_unit (fun K hK => ?_)); simp [go_sem, lk, upd, envOf, stepS_value, stepS_skip, stepS_enter, ↓IntWalk.iteOmega, *]; (try go_ints); refine hK.out _ _ ?_; clear hK K) | ((with_reducible refine wS_skip ?_ ?_); (focus (simp [lk, upd, envOf, *]; done))) | ((with_reducible refine wS_want ?_ ?_); (focus (simp [lk, upd, envOf, *]; done))) | ((with_reducible refine wS_split (fun hc => ?_) (fun hc => ?_)) <;> simp [lk, upd, envOf, *] at hc <;> try (exfalso; omega)) | with_reducible refine wS_nil ?_ | simp only [thenE, blockE, ↓reduceIte, Nat.reduceEqDiff] | ((with_reducible refine hK.out _ _ ?_); clear hK K) | ((with_reducible refine wE_if ?_ (fun hc => ?_) (fun hc => ?_)); (focus (simp [lk, upd, envOf, *]; done)); all_goals (simp [lk, upd, envOf, *] at hc <;> try (exfalso; omega))) | (clear hK; clear K))
  (with_reducible refine wS_step (fun K hK => ?_)); simp [go_sem, lk, upd, envOf, stepS_value, stepS_skip, stepS_enter, ↓IntWalk.iteOmega, *]; (try go_ints); refine (HS.out).mono ?_; rintro e w2 ⟨rfl, hg2⟩; refine ⟨_, rfl, hK.out _ _ ?_⟩; clear hK K
  have HG2 := Lib.hid (HG1.out.trans hg2)
  clear hg2
  repeat' (first | with_reducible (first | refine wE_seq (fun K hK => ?_) | refine wE_block ?_ | refine wE_skip ?_ | refine wE_ret ?_ | refine wE_exit ?_) | ((with_reducible refine wE_region ?_ ?_); (kernel_rfl); simp only [ls, stripO]) | ((with_reducible refine wS_step (fun K hK => ?_)); simp [go_sem, lk, upd, envOf, stepS_value, stepS_skip, stepS_enter, ↓IntWalk.iteOmega, *]; (try go_ints); refine hK.out _ _ ?_; clear hK K) | ((with_reducible refine wS_unit (fun K hK => ?_)); simp [go_sem, lk, upd, envOf, stepS_value, stepS_skip, stepS_enter, ↓IntWalk.iteOmega, *]; (try go_ints); refine hK.out _ _ ?_; clear hK K) | ((with_reducible refine wS_skip ?_ ?_); (focus (simp [lk, upd, envOf, *]; done))) | ((with_reducible refine wS_want ?_ ?_); (focus (simp [lk, upd, envOf, *]; done))) | ((with_reducible refine wS_split (fun hc => ?_) (fun hc => ?_)) <;> simp [lk, upd, envOf, *] at hc <;> try (exfalso; omega)) | with_reducible refine wS_nil ?_ | simp only [thenE, blockE, ↓reduceIte, Nat.reduceEqDiff] | ((with_reducible refine hK.out _ _ ?_); clear hK K) | ((with_reducible refine wE_if ?_ (fun hc => ?_) (fun hc => ?_)); (focus (simp [lk, upd, envOf, *]; done)); all_goals (simp [lk, upd, envOf, *] at hc <;> try (exfalso; omega))) | (clear hK; clear K))
  exact endE_tmp rfl ⟨by simp [upd], HG2.out⟩
end Go.Proofs.YtglekdhdogjnoaaGreatDoor
