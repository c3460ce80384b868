/- The reference's Line, walked. -/
import Derived.Test.YtglekdhdogjnoaaGreatDoorRefD
namespace Go.Proofs.YtglekdhdogjnoaaGreatDoor
open Go.RowKit
set_option linter.unusedSimpArgs false
theorem IntsAt.grow {w w' : World} {v : Value} {xs : List Int} (h : Grow w w') (k : IntsAt w v xs) : IntsAt w' v xs := k.keep (Keeps.of_below h)
def SP.ints (xs : List Int) : SP := ⟨fun v w => IntsAt w v xs, fun _ _ _ h k => k.grow h⟩
theorem ints_new1 (w : World) (a : Int) (ha : I64 a) : IntsAt (w.alloc (.cells #[.int .i64 a] 3)) (.slice (some ⟨w.heap.size, 0, none⟩) 1 1) [a] := by
  refine ⟨_, 1, rfl, by simp, by simpa using ha, Or.inr ⟨_, _, rfl, ?_⟩⟩
  intro j x hj
  match j, hj with
  | 0, hj => simp at hj; subst hj; simp [go_sem]
theorem ints_new2 (w : World) (a b : Int) (ha : I64 a) (hb : I64 b) : IntsAt (w.alloc (.cells #[.int .i64 a, .int .i64 b] 3)) (.slice (some ⟨w.heap.size, 0, none⟩) 2 2) [a, b] := by
  refine ⟨_, 2, rfl, by simp, by simp [ha, hb], Or.inr ⟨_, _, rfl, ?_⟩⟩
  intro j x hj
  match j, hj with
  | 0, hj => simp at hj; subst hj; simp [go_sem]
  | 1, hj => simp at hj; subst hj; simp [go_sem]
/-- What the line of an input is, where it has one. -/
def lineL (A : PAct) : List UInt8 :=
  if A.kind = 1 then wordL A.kind ++ 32 :: quoteL A.who.data.toList ++ numsL [A.priority, A.at_] ++ filesL A.files
  else if A.kind = 2 ∨ A.kind = 7 then wordL A.kind ++ 32 :: quoteL A.who.data.toList ++ numsL [A.change]
  else if A.kind = 4 then wordL A.kind ++ numsL A.picks
  else if A.kind = 5 ∨ A.kind = 8 then wordL A.kind ++ numsL [A.count]
  else if A.kind = 6 then wordL A.kind ++ 32 :: quoteL A.who.data.toList ++ numsL [A.count, A.at_]
  else wordL A.kind
/-- Small enough for the statements. -/
structure Small (A : PAct) : Prop where
  who : A.who.size ≤ 1000
  nfiles : A.files.length ≤ 100
  files : ∀ f ∈ A.files, FileSmall f
  npicks : A.picks.length ≤ 1000
def lineR (A : PAct) : Value := if checkN A = 0 then .tuple #[.string (S (lineL A)), .int .i64 0] else .tuple #[.string ⟨#[]⟩, .int .i64 (checkN A)]
theorem quote_size (s : ByteArray) (h : s.size ≤ 2000) : (S (quoteL s.data.toList)).size ≤ 8002 := by
  rw [S_size]; have := quoteL_le s.data.toList; simp at this; omega
theorem nums_size (xs : List Int) (h : ∀ x ∈ xs, I64 x) : (S (numsL xs)).size ≤ 21 * xs.length := by rw [S_size]; exact numsL_le xs h
set_option maxHeartbeats 4000000 in
set_option maxRecDepth 100000 in
theorem refLine_any (A : PAct) (vf vp : Value) (w : World) (hA : ActAt w A vf vp) (hs : Small A) :
    Calls Tryz.prog 16 #[actV A vf vp] w fun e w' => e = .returned (lineR A) ∧ Below w.heap.size w w' := by
  obtain ⟨hbel, hbox, hsz⟩ := box_facts w A vf vp
  have HA := Lib.hid hA
  have HCk := Lib.hid (fun w0 (h : ActAt w0 A vf vp) => check_any A vf vp w0 h (Nat.le_trans hs.nfiles (by omega)) hs.npicks)
  clear hA
  unfold actV at *
  refine calls_of_wE Tryz.func16 rfl Tryz.ntmps16 (by simp) ?_
  repeat' (first | with_reducible (first | refine wE_seq (fun K hK => ?_) | refine wE_block ?_ | refine wE_skip ?_ | refine wE_ret ?_ | refine wE_exit ?_) | simp only [thenE, blockE, ↓reduceIte, Nat.reduceEqDiff] | ((with_reducible refine hK.out _ _ ?_); clear hK K) | ((with_reducible refine wE_if ?_ (fun hc => ?_) (fun hc => ?_)); (focus (simp [lk, upd, envOf, *]; done)); all_goals (simp [lk, upd, envOf, *] at hc <;> try (exfalso; omega))) | (clear hK; clear K))
  ((with_reducible refine wE_region ?_ ?_); (kernel_rfl); simp only [ls, stripO])
  repeat' (first | ((with_reducible refine wS_step (fun K hK => ?_)); simp [go_sem, lk, upd, envOf, stepS_value, stepS_skip, stepS_enter, ↓IntWalk.iteOmega, *]; (try go_ints); refine hK.out _ _ ?_; clear hK K) | ((with_reducible refine wS_unit (fun K hK => ?_)); simp [go_sem, lk, upd, envOf, stepS_value, stepS_skip, stepS_enter, ↓IntWalk.iteOmega, *]; (try go_ints); refine hK.out _ _ ?_; clear hK K) | ((with_reducible refine wS_skip ?_ ?_); (focus (simp [lk, upd, envOf, *]; done))) | ((with_reducible refine wS_want ?_ ?_); (focus (simp [lk, upd, envOf, *]; done))) | ((with_reducible refine wS_split (fun hc => ?_) (fun hc => ?_)) <;> simp [lk, upd, envOf, *] at hc <;> try (exfalso; omega)) | with_reducible refine wS_nil ?_)
  repeat' (first | with_reducible (first | refine wE_seq (fun K hK => ?_) | refine wE_block ?_ | refine wE_skip ?_ | refine wE_ret ?_ | refine wE_exit ?_) | simp only [thenE, blockE, ↓reduceIte, Nat.reduceEqDiff] | ((with_reducible refine hK.out _ _ ?_); clear hK K) | ((with_reducible refine wE_if ?_ (fun hc => ?_) (fun hc => ?_)); (focus (simp [lk, upd, envOf, *]; done)); all_goals (simp [lk, upd, envOf, *] at hc <;> try (exfalso; omega))) | (clear hK; clear K))
  generalize w.alloc (.cells #[.int .i64 A.kind, .string A.who, .int .i64 A.change, .int .i64 A.priority, .int .i64 A.at_, .int .i64 A.count, vf, vp] 26) = w0 at *
  have HB := Lib.hid hbel
  have HC := Lib.hid hbox
  obtain ⟨c0, c1, c2, c3, c4, c5, c6, c7⟩ := hbox
  clear hbel
  repeat' (first | with_reducible (first | refine wE_seq (fun K hK => ?_) | refine wE_block ?_ | refine wE_skip ?_ | refine wE_ret ?_ | refine wE_exit ?_) | ((with_reducible refine wE_region ?_ ?_); (kernel_rfl); simp only [ls, stripO]) | ((with_reducible refine wS_step (fun K hK => ?_)); simp [go_sem, lk, upd, envOf, stepS_value, stepS_skip, stepS_enter, ↓IntWalk.iteOmega, *]; (try go_ints); refine hK.out _ _ ?_; clear hK K) | ((with_reducible refine wS_unit (fun K hK => ?_)); simp [go_sem, lk, upd, envOf, stepS_value, stepS_skip, stepS_enter, ↓IntWalk.iteOmega, *]; (try go_ints); refine hK.out _ _ ?_; clear hK K) | ((with_reducible refine wS_skip ?_ ?_); (focus (simp [lk, upd, envOf, *]; done))) | ((with_reducible refine wS_want ?_ ?_); (focus (simp [lk, upd, envOf, *]; done))) | ((with_reducible refine wS_split (fun hc => ?_) (fun hc => ?_)) <;> simp [lk, upd, envOf, *] at hc <;> try (exfalso; omega)) | with_reducible refine wS_nil ?_ | simp only [thenE, blockE, ↓reduceIte, Nat.reduceEqDiff] | ((with_reducible refine hK.out _ _ ?_); clear hK K) | ((with_reducible refine wE_if ?_ (fun hc => ?_) (fun hc => ?_)); (focus (simp [lk, upd, envOf, *]; done)); all_goals (simp [lk, upd, envOf, *] at hc <;> try (exfalso; omega))) | (clear hK; clear K))
  (with_reducible refine wS_step (fun K hK => ?_)); simp [go_sem, lk, upd, envOf, stepS_value, stepS_skip, stepS_enter, ↓IntWalk.iteOmega, *]; (try go_ints); refine (HCk.out _ (HA.out.keep (Keeps.of_below HB.out))).mono ?_; rintro e w1 ⟨rfl, hb1⟩; refine ⟨_, rfl, hK.out _ _ ?_⟩; clear hK K
  clear c0 c1 c2 c3 c4 c5 c6 c7
  have HC1 := Lib.hid (HC.out.keep (Keeps.of_below hb1))
  have HB1 := Lib.hid (HB.out.trans (hb1.mono (by omega)))
  have hs1 : w.heap.size < w1.heap.size := by have := hb1.size; omega
  clear hb1 HC HB HCk hsz
  clear w0
  obtain ⟨c0, c1, c2, c3, c4, c5, c6, c7⟩ := HC1.out
  by_cases hck : checkN A = 0
  · have HR := Lib.hid (show lineR A = .tuple #[.string (S (lineL A)), .int .i64 0] by rw [lineR, if_pos hck])
    have hk : 1 ≤ A.kind ∧ A.kind ≤ 8 := by
      have h := hck
      rw [checkN] at h
      split at h
      · omega
      · omega
    rw [hck]
    clear hck
    repeat' (first | with_reducible (first | refine wE_seq (fun K hK => ?_) | refine wE_block ?_ | refine wE_skip ?_ | refine wE_ret ?_ | refine wE_exit ?_) | ((with_reducible refine wE_region ?_ ?_); (kernel_rfl); simp only [ls, stripO]) | ((with_reducible refine wS_step (fun K hK => ?_)); simp [go_sem, lk, upd, envOf, stepS_value, stepS_skip, stepS_enter, ↓IntWalk.iteOmega, *]; (try go_ints); refine hK.out _ _ ?_; clear hK K) | ((with_reducible refine wS_unit (fun K hK => ?_)); simp [go_sem, lk, upd, envOf, stepS_value, stepS_skip, stepS_enter, ↓IntWalk.iteOmega, *]; (try go_ints); refine hK.out _ _ ?_; clear hK K) | ((with_reducible refine wS_skip ?_ ?_); (focus (simp [lk, upd, envOf, *]; done))) | ((with_reducible refine wS_want ?_ ?_); (focus (simp [lk, upd, envOf, *]; done))) | ((with_reducible refine wS_split (fun hc => ?_) (fun hc => ?_)) <;> simp [lk, upd, envOf, *] at hc <;> try (exfalso; omega)) | with_reducible refine wS_nil ?_ | simp only [thenE, blockE, ↓reduceIte, Nat.reduceEqDiff] | ((with_reducible refine hK.out _ _ ?_); clear hK K) | ((with_reducible refine wE_if ?_ (fun hc => ?_) (fun hc => ?_)); (focus (simp [lk, upd, envOf, *]; done)); all_goals (simp [lk, upd, envOf, *] at hc <;> try (exfalso; omega))) | (clear hK; clear K))
    (with_reducible refine wS_step (fun K hK => ?_)); simp [go_sem, lk, upd, envOf, stepS_value, stepS_skip, stepS_enter, ↓IntWalk.iteOmega, *]; (try go_ints); refine (word_any _ _).mono ?_; rintro e w2 ⟨rfl, hb2⟩; refine ⟨_, rfl, hK.out _ _ ?_⟩; clear hK K
    clear c0 c1 c2 c3 c4 c5 c6 c7
    have HC2 := Lib.hid (HC1.out.keep (Keeps.of_below hb2))
    have HB2 := Lib.hid (HB1.out.trans (hb2.mono (by omega)))
    have hs2 : w.heap.size < w2.heap.size := by have := hb2.size; omega
    have HCX : Hid (∀ w', Grow w2.drew w' → BoxAt w' w.heap.size A vf vp) := fun w' h => HC2.out.keep (Keeps.of_below ((Grow.drew w2).trans h))
    have HFX : Hid (∀ w', Grow w2.drew w' → FilesAt w' vf A.files) := fun w' h => HA.out.files.keep ((Keeps.of_below HB2.out).trans (Keeps.of_below ((Grow.drew w2).trans h)))
    have hz1 : (S (wordL A.kind)).size ≤ 10 := by rw [S_size]; exact wordL_le _
    have hz2 := quote_size A.who (Nat.le_trans hs.who (by omega))
    have hz3 : (S (filesL A.files)).size ≤ 2000000 := by rw [S_size]; have := filesL_le A.files hs.files; have := hs.nfiles; omega
    have hw1 : A.who.size ≤ 1000000 := Nat.le_trans hs.who (by omega)
    have HS := Lib.hid hs
    have HL0 : Hid (∀ T, lineL A = T → S (lineL A) = S T) := fun T h => by rw [h]
    generalize hWD : S (wordL A.kind) = WD at *
    have HWD := Lib.hid hWD
    clear hb2 HC1 HB1 hs1 hWD hs
    obtain ⟨c0, c1, c2, c3, c4, c5, c6, c7⟩ := HC2.out
    have hkk : A.kind = 1 ∨ (A.kind = 2 ∨ A.kind = 7) ∨ A.kind = 3 ∨ A.kind = 4 ∨ (A.kind = 5 ∨ A.kind = 8) ∨ A.kind = 6 := by omega
    clear hk
    rcases hkk with k1 | k27 | k3 | k4 | k58 | k6
    · have hz4 := nums_size [A.priority, A.at_] (by simp [HA.out.priority, HA.out.at_])
      have HL := Lib.hid (show S (lineL A) = WD ++ (⟨#[32]⟩ : ByteArray) ++ S (quoteL A.who.data.toList) ++ S (numsL [A.priority, A.at_]) ++ S (filesL A.files) by
        rw [lineL, if_pos k1, ← HWD.out]; simp [S_app_lit, S_append])
      simp only [List.length_cons, List.length_nil] at hz4
      have HP := Lib.hid HA.out.priority
      have HT := Lib.hid HA.out.at_
      have t1 : (A.kind == 1) = true := by rw [k1]; rfl
      clear k1
      repeat' (first | with_reducible (first | refine wE_seq (fun K hK => ?_) | refine wE_block ?_ | refine wE_skip ?_ | refine wE_ret ?_ | refine wE_exit ?_) | ((with_reducible refine wE_region ?_ ?_); (kernel_rfl); simp only [ls, stripO]) | ((with_reducible refine wS_step (fun K hK => ?_)); simp [go_sem, lk, upd, envOf, stepS_value, stepS_skip, stepS_enter, ↓IntWalk.iteOmega, *]; (try go_ints); refine hK.out _ _ ?_; clear hK K) | ((with_reducible refine wS_unit (fun K hK => ?_)); simp [go_sem, lk, upd, envOf, stepS_value, stepS_skip, stepS_enter, ↓IntWalk.iteOmega, *]; (try go_ints); refine hK.out _ _ ?_; clear hK K) | ((with_reducible refine wS_skip ?_ ?_); (focus (simp [lk, upd, envOf, *]; done))) | ((with_reducible refine wS_want ?_ ?_); (focus (simp [lk, upd, envOf, *]; done))) | ((with_reducible refine wS_split (fun hc => ?_) (fun hc => ?_)) <;> simp [lk, upd, envOf, *] at hc <;> try (exfalso; omega)) | with_reducible refine wS_nil ?_ | simp only [thenE, blockE, ↓reduceIte, Nat.reduceEqDiff] | ((with_reducible refine hK.out _ _ ?_); clear hK K) | ((with_reducible refine wE_if ?_ (fun hc => ?_) (fun hc => ?_)); (focus (simp [lk, upd, envOf, *]; done)); all_goals (simp [lk, upd, envOf, *] at hc <;> try (exfalso; omega))) | (clear hK; clear K))
      refine wE_draw [SP.val (.string (WD)), SP.val (.string (WD ++ (⟨#[32]⟩ : ByteArray))), SP.val (.pointer (some ⟨w.heap.size, 1, none⟩)), SP.val (.string (A.who)), SP.val (.string (S (quoteL A.who.data.toList))), SP.val (.string (WD ++ (⟨#[32]⟩ : ByteArray) ++ S (quoteL A.who.data.toList))), SP.val (.pointer (some ⟨w.heap.size, 3, none⟩)), SP.val (.int .i64 A.priority), SP.val (.pointer (some ⟨w.heap.size, 4, none⟩)), SP.val (.int .i64 A.at_), SP.ints [A.priority, A.at_], SP.val (.string (S (numsL [A.priority, A.at_]))), SP.val (.string (WD ++ (⟨#[32]⟩ : ByteArray) ++ S (quoteL A.who.data.toList) ++ S (numsL [A.priority, A.at_]))), SP.val (.pointer (some ⟨w.heap.size, 6, none⟩)), SP.val (vf), SP.val (.string (S (filesL A.files))), SP.val (.string (WD ++ (⟨#[32]⟩ : ByteArray) ++ S (quoteL A.who.data.toList) ++ S (numsL [A.priority, A.at_]) ++ S (filesL A.files))), SP.val (.string (WD ++ (⟨#[32]⟩ : ByteArray) ++ S (quoteL A.who.data.toList) ++ S (numsL [A.priority, A.at_]) ++ S (filesL A.files)))] [[(5, none)], [(18, some 0)], [(1, none)], [(20, some 2)], [(21, some 3)], [(19, some 1), (22, some 4)], [(1, none)], [(24, some 6)], [(1, none)], [(26, some 8)], [(25, some 7), (27, some 9)], [(28, some 10)], [(23, some 5), (29, some 11)], [(1, none)], [(31, some 13)], [(32, some 14)], [(30, some 12), (33, some 15)], [(34, some 16)]] (by kernel_rfl) (by kernel_rfl) (by kernel_rfl) ?_ ?_
      · simp only [ls, stripO, oblT, List.getD_cons_succ, List.getD_cons_zero, Nat.zero_add, Nat.reduceAdd]
        refine ⟨?_, ?_, ?_, ?_, ?_, ?_, ?_, ?_, ?_, ?_, ?_, ?_, ?_, ?_, ?_, ?_, ?_, ?_, trivial⟩
        · refine oneT_plain (fun σ w' hR hf => ?_); simp only [factsT, List.getD_cons_succ, List.getD_cons_zero, SP.val_p, and_true] at hf; obtain ⟨c0, c1, c2, c3, c4, c5, c6, c7⟩ := HCX.out w' hR; simp [go_sem, lk, upd, envOf, stepS_value, stepS_skip, stepS_enter, ↓IntWalk.iteOmega, hf, SP.val_p, SP.any_p, Grow.refl, *]
        · refine oneT_plain (fun σ w' hR hf => ?_); simp only [factsT, List.getD_cons_succ, List.getD_cons_zero, SP.val_p, and_true] at hf; obtain ⟨c0, c1, c2, c3, c4, c5, c6, c7⟩ := HCX.out w' hR; simp [go_sem, lk, upd, envOf, stepS_value, stepS_skip, stepS_enter, ↓IntWalk.iteOmega, hf, SP.val_p, SP.any_p, Grow.refl, *]
        · refine oneT_plain (fun σ w' hR hf => ?_); simp only [factsT, List.getD_cons_succ, List.getD_cons_zero, SP.val_p, and_true] at hf; obtain ⟨c0, c1, c2, c3, c4, c5, c6, c7⟩ := HCX.out w' hR; simp [go_sem, lk, upd, envOf, stepS_value, stepS_skip, stepS_enter, ↓IntWalk.iteOmega, hf, SP.val_p, SP.any_p, Grow.refl, *]
        · refine oneT_plain (fun σ w' hR hf => ?_); simp only [factsT, List.getD_cons_succ, List.getD_cons_zero, SP.val_p, and_true] at hf; obtain ⟨c0, c1, c2, c3, c4, c5, c6, c7⟩ := HCX.out w' hR; simp [go_sem, lk, upd, envOf, stepS_value, stepS_skip, stepS_enter, ↓IntWalk.iteOmega, hf, SP.val_p, SP.any_p, Grow.refl, *]
        · refine oneT_plain (fun σ w' hR hf => ?_); simp only [factsT, List.getD_cons_succ, List.getD_cons_zero, SP.val_p, and_true] at hf; obtain ⟨c0, c1, c2, c3, c4, c5, c6, c7⟩ := HCX.out w' hR; simp [go_sem, lk, upd, envOf, stepS_value, stepS_skip, stepS_enter, ↓IntWalk.iteOmega, hf, *]; (try go_ints); refine (Quote_any _ _ (by omega)).mono ?_; rintro e w'' ⟨rfl, n, rfl⟩; exact ⟨_, rfl, rfl, Grow.drewN _ _⟩
        · refine oneT_plain (fun σ w' hR hf => ?_); simp only [factsT, List.getD_cons_succ, List.getD_cons_zero, SP.val_p, and_true] at hf; obtain ⟨c0, c1, c2, c3, c4, c5, c6, c7⟩ := HCX.out w' hR; simp [go_sem, lk, upd, envOf, stepS_value, stepS_skip, stepS_enter, ↓IntWalk.iteOmega, hf, SP.val_p, SP.any_p, Grow.refl, *]
        · refine oneT_plain (fun σ w' hR hf => ?_); simp only [factsT, List.getD_cons_succ, List.getD_cons_zero, SP.val_p, and_true] at hf; obtain ⟨c0, c1, c2, c3, c4, c5, c6, c7⟩ := HCX.out w' hR; simp [go_sem, lk, upd, envOf, stepS_value, stepS_skip, stepS_enter, ↓IntWalk.iteOmega, hf, SP.val_p, SP.any_p, Grow.refl, *]
        · refine oneT_plain (fun σ w' hR hf => ?_); simp only [factsT, List.getD_cons_succ, List.getD_cons_zero, SP.val_p, and_true] at hf; obtain ⟨c0, c1, c2, c3, c4, c5, c6, c7⟩ := HCX.out w' hR; simp [go_sem, lk, upd, envOf, stepS_value, stepS_skip, stepS_enter, ↓IntWalk.iteOmega, hf, SP.val_p, SP.any_p, Grow.refl, *]
        · refine oneT_plain (fun σ w' hR hf => ?_); simp only [factsT, List.getD_cons_succ, List.getD_cons_zero, SP.val_p, and_true] at hf; obtain ⟨c0, c1, c2, c3, c4, c5, c6, c7⟩ := HCX.out w' hR; simp [go_sem, lk, upd, envOf, stepS_value, stepS_skip, stepS_enter, ↓IntWalk.iteOmega, hf, SP.val_p, SP.any_p, Grow.refl, *]
        · refine oneT_plain (fun σ w' hR hf => ?_); simp only [factsT, List.getD_cons_succ, List.getD_cons_zero, SP.val_p, and_true] at hf; obtain ⟨c0, c1, c2, c3, c4, c5, c6, c7⟩ := HCX.out w' hR; simp [go_sem, lk, upd, envOf, stepS_value, stepS_skip, stepS_enter, ↓IntWalk.iteOmega, hf, SP.val_p, SP.any_p, Grow.refl, *]
        · refine oneT_plain (fun σ w' hR hf => ?_); simp only [factsT, List.getD_cons_succ, List.getD_cons_zero, SP.val_p, and_true] at hf; obtain ⟨c0, c1, c2, c3, c4, c5, c6, c7⟩ := HCX.out w' hR; simp [go_sem, lk, upd, envOf, stepS_value, stepS_skip, stepS_enter, ↓IntWalk.iteOmega, hf, *]; (try go_ints); exact ⟨ints_new2 _ _ _ HP.out HT.out, Grow.alloc _ _⟩
        · refine oneT_plain (fun σ w' hR hf => ?_); simp only [factsT, List.getD_cons_succ, List.getD_cons_zero, SP.val_p, and_true] at hf; obtain ⟨c0, c1, c2, c3, c4, c5, c6, c7⟩ := HCX.out w' hR; simp [go_sem, lk, upd, envOf, stepS_value, stepS_skip, stepS_enter, ↓IntWalk.iteOmega, hf, *]; (try go_ints); refine (numbers_any _ _ _ hf (by simp)).mono ?_; rintro e w'' ⟨rfl, rfl⟩; exact ⟨_, rfl, rfl, Grow.refl _⟩
        · refine oneT_plain (fun σ w' hR hf => ?_); simp only [factsT, List.getD_cons_succ, List.getD_cons_zero, SP.val_p, and_true] at hf; obtain ⟨c0, c1, c2, c3, c4, c5, c6, c7⟩ := HCX.out w' hR; simp [go_sem, lk, upd, envOf, stepS_value, stepS_skip, stepS_enter, ↓IntWalk.iteOmega, hf, SP.val_p, SP.any_p, Grow.refl, *]
        · refine oneT_plain (fun σ w' hR hf => ?_); simp only [factsT, List.getD_cons_succ, List.getD_cons_zero, SP.val_p, and_true] at hf; obtain ⟨c0, c1, c2, c3, c4, c5, c6, c7⟩ := HCX.out w' hR; simp [go_sem, lk, upd, envOf, stepS_value, stepS_skip, stepS_enter, ↓IntWalk.iteOmega, hf, SP.val_p, SP.any_p, Grow.refl, *]
        · refine oneT_plain (fun σ w' hR hf => ?_); simp only [factsT, List.getD_cons_succ, List.getD_cons_zero, SP.val_p, and_true] at hf; obtain ⟨c0, c1, c2, c3, c4, c5, c6, c7⟩ := HCX.out w' hR; simp [go_sem, lk, upd, envOf, stepS_value, stepS_skip, stepS_enter, ↓IntWalk.iteOmega, hf, SP.val_p, SP.any_p, Grow.refl, *]
        · refine oneT_plain (fun σ w' hR hf => ?_); simp only [factsT, List.getD_cons_succ, List.getD_cons_zero, SP.val_p, and_true] at hf; obtain ⟨c0, c1, c2, c3, c4, c5, c6, c7⟩ := HCX.out w' hR; simp [go_sem, lk, upd, envOf, stepS_value, stepS_skip, stepS_enter, ↓IntWalk.iteOmega, hf, *]; (try go_ints); refine (files_any _ _ _ (HFX.out w' hR) HS.out.nfiles HS.out.files).mono ?_; rintro e w'' ⟨rfl, n, rfl⟩; exact ⟨_, rfl, rfl, Grow.drewN _ _⟩
        · refine oneT_plain (fun σ w' hR hf => ?_); simp only [factsT, List.getD_cons_succ, List.getD_cons_zero, SP.val_p, and_true] at hf; obtain ⟨c0, c1, c2, c3, c4, c5, c6, c7⟩ := HCX.out w' hR; simp [go_sem, lk, upd, envOf, stepS_value, stepS_skip, stepS_enter, ↓IntWalk.iteOmega, hf, SP.val_p, SP.any_p, Grow.refl, *]
        · refine oneT_plain (fun σ w' hR hf => ?_); simp only [factsT, List.getD_cons_succ, List.getD_cons_zero, SP.val_p, and_true] at hf; obtain ⟨c0, c1, c2, c3, c4, c5, c6, c7⟩ := HCX.out w' hR; simp [go_sem, lk, upd, envOf, stepS_value, stepS_skip, stepS_enter, ↓IntWalk.iteOmega, hf, SP.val_p, SP.any_p, Grow.refl, *]
      intro σ' w3 hg hE
      have e5 := hE.at_ 17 5 rfl
      have HB3 := Lib.hid (HB2.out.trans (hg.mono (by omega)))
      simp only [List.getD_cons_succ, List.getD_cons_zero, SP.val_p] at e5
      clear hE
      repeat' (first | with_reducible (first | refine wE_seq (fun K hK => ?_) | refine wE_block ?_ | refine wE_skip ?_ | refine wE_ret ?_ | refine wE_exit ?_) | ((with_reducible refine wE_region ?_ ?_); (kernel_rfl); simp only [ls, stripO]) | ((with_reducible refine wS_step (fun K hK => ?_)); simp [go_sem, lk, upd, envOf, stepS_value, stepS_skip, stepS_enter, ↓IntWalk.iteOmega, *]; (try go_ints); refine hK.out _ _ ?_; clear hK K) | ((with_reducible refine wS_unit (fun K hK => ?_)); simp [go_sem, lk, upd, envOf, stepS_value, stepS_skip, stepS_enter, ↓IntWalk.iteOmega, *]; (try go_ints); refine hK.out _ _ ?_; clear hK K) | ((with_reducible refine wS_skip ?_ ?_); (focus (simp [lk, upd, envOf, *]; done))) | ((with_reducible refine wS_want ?_ ?_); (focus (simp [lk, upd, envOf, *]; done))) | ((with_reducible refine wS_split (fun hc => ?_) (fun hc => ?_)) <;> simp [lk, upd, envOf, *] at hc <;> try (exfalso; omega)) | with_reducible refine wS_nil ?_ | simp only [thenE, blockE, ↓reduceIte, Nat.reduceEqDiff] | ((with_reducible refine hK.out _ _ ?_); clear hK K) | ((with_reducible refine wE_if ?_ (fun hc => ?_) (fun hc => ?_)); (focus (simp [lk, upd, envOf, *]; done)); all_goals (simp [lk, upd, envOf, *] at hc <;> try (exfalso; omega))) | (clear hK; clear K))
      refine endE_tmp2 rfl ⟨?_, HB3.out⟩
      rw [HR.out, HL.out]
      simp [upd, *]
    · rcases k27 with kk | kk
      · have hz4 := nums_size [A.change] (by simp [HA.out.change])
        have HL := Lib.hid (show S (lineL A) = WD ++ (⟨#[32]⟩ : ByteArray) ++ S (quoteL A.who.data.toList) ++ S (numsL [A.change]) by
          rw [lineL, if_neg (by omega), if_pos (by omega), ← HWD.out]; simp [S_app_lit, S_append])
        simp only [List.length_cons, List.length_nil] at hz4
        have HP := Lib.hid HA.out.change
        have t1 : (A.kind == 1) = false := by rw [kk]; rfl
        have t2 : (A.kind == 2) = true := by rw [kk]; rfl
        have t7 : (A.kind == 7) = false := by rw [kk]; rfl
        have t4 : (A.kind == 4) = false := by rw [kk]; rfl
        have t5 : (A.kind == 5) = false := by rw [kk]; rfl
        have t8 : (A.kind == 8) = false := by rw [kk]; rfl
        have t6 : (A.kind == 6) = false := by rw [kk]; rfl
        clear kk
        repeat' (first | with_reducible (first | refine wE_seq (fun K hK => ?_) | refine wE_block ?_ | refine wE_skip ?_ | refine wE_ret ?_ | refine wE_exit ?_) | ((with_reducible refine wE_region ?_ ?_); (kernel_rfl); simp only [ls, stripO]) | ((with_reducible refine wS_step (fun K hK => ?_)); simp [go_sem, lk, upd, envOf, stepS_value, stepS_skip, stepS_enter, ↓IntWalk.iteOmega, *]; (try go_ints); refine hK.out _ _ ?_; clear hK K) | ((with_reducible refine wS_unit (fun K hK => ?_)); simp [go_sem, lk, upd, envOf, stepS_value, stepS_skip, stepS_enter, ↓IntWalk.iteOmega, *]; (try go_ints); refine hK.out _ _ ?_; clear hK K) | ((with_reducible refine wS_skip ?_ ?_); (focus (simp [lk, upd, envOf, *]; done))) | ((with_reducible refine wS_want ?_ ?_); (focus (simp [lk, upd, envOf, *]; done))) | ((with_reducible refine wS_split (fun hc => ?_) (fun hc => ?_)) <;> simp [lk, upd, envOf, *] at hc <;> try (exfalso; omega)) | with_reducible refine wS_nil ?_ | simp only [thenE, blockE, ↓reduceIte, Nat.reduceEqDiff] | ((with_reducible refine hK.out _ _ ?_); clear hK K) | ((with_reducible refine wE_if ?_ (fun hc => ?_) (fun hc => ?_)); (focus (simp [lk, upd, envOf, *]; done)); all_goals (simp [lk, upd, envOf, *] at hc <;> try (exfalso; omega))) | (clear hK; clear K))
        refine wE_draw [SP.val (.string (WD)), SP.val (.string (WD ++ (⟨#[32]⟩ : ByteArray))), SP.val (.pointer (some ⟨w.heap.size, 1, none⟩)), SP.val (.string (A.who)), SP.val (.string (S (quoteL A.who.data.toList))), SP.val (.string (WD ++ (⟨#[32]⟩ : ByteArray) ++ S (quoteL A.who.data.toList))), SP.val (.pointer (some ⟨w.heap.size, 2, none⟩)), SP.val (.int .i64 A.change), SP.ints [A.change], SP.val (.string (S (numsL [A.change]))), SP.val (.string (WD ++ (⟨#[32]⟩ : ByteArray) ++ S (quoteL A.who.data.toList) ++ S (numsL [A.change]))), SP.val (.string (WD ++ (⟨#[32]⟩ : ByteArray) ++ S (quoteL A.who.data.toList) ++ S (numsL [A.change])))] [[(5, none)], [(38, some 0)], [(1, none)], [(40, some 2)], [(41, some 3)], [(39, some 1), (42, some 4)], [(1, none)], [(44, some 6)], [(45, some 7)], [(46, some 8)], [(43, some 5), (47, some 9)], [(48, some 10)]] (by kernel_rfl) (by kernel_rfl) (by kernel_rfl) ?_ ?_
        · simp only [ls, stripO, oblT, List.getD_cons_succ, List.getD_cons_zero, Nat.zero_add, Nat.reduceAdd]
          refine ⟨?_, ?_, ?_, ?_, ?_, ?_, ?_, ?_, ?_, ?_, ?_, ?_, trivial⟩
          · refine oneT_plain (fun σ w' hR hf => ?_); simp only [factsT, List.getD_cons_succ, List.getD_cons_zero, SP.val_p, and_true] at hf; obtain ⟨c0, c1, c2, c3, c4, c5, c6, c7⟩ := HCX.out w' hR; simp [go_sem, lk, upd, envOf, stepS_value, stepS_skip, stepS_enter, ↓IntWalk.iteOmega, hf, SP.val_p, SP.any_p, Grow.refl, *]
          · refine oneT_plain (fun σ w' hR hf => ?_); simp only [factsT, List.getD_cons_succ, List.getD_cons_zero, SP.val_p, and_true] at hf; obtain ⟨c0, c1, c2, c3, c4, c5, c6, c7⟩ := HCX.out w' hR; simp [go_sem, lk, upd, envOf, stepS_value, stepS_skip, stepS_enter, ↓IntWalk.iteOmega, hf, SP.val_p, SP.any_p, Grow.refl, *]
          · refine oneT_plain (fun σ w' hR hf => ?_); simp only [factsT, List.getD_cons_succ, List.getD_cons_zero, SP.val_p, and_true] at hf; obtain ⟨c0, c1, c2, c3, c4, c5, c6, c7⟩ := HCX.out w' hR; simp [go_sem, lk, upd, envOf, stepS_value, stepS_skip, stepS_enter, ↓IntWalk.iteOmega, hf, SP.val_p, SP.any_p, Grow.refl, *]
          · refine oneT_plain (fun σ w' hR hf => ?_); simp only [factsT, List.getD_cons_succ, List.getD_cons_zero, SP.val_p, and_true] at hf; obtain ⟨c0, c1, c2, c3, c4, c5, c6, c7⟩ := HCX.out w' hR; simp [go_sem, lk, upd, envOf, stepS_value, stepS_skip, stepS_enter, ↓IntWalk.iteOmega, hf, SP.val_p, SP.any_p, Grow.refl, *]
          · refine oneT_plain (fun σ w' hR hf => ?_); simp only [factsT, List.getD_cons_succ, List.getD_cons_zero, SP.val_p, and_true] at hf; obtain ⟨c0, c1, c2, c3, c4, c5, c6, c7⟩ := HCX.out w' hR; simp [go_sem, lk, upd, envOf, stepS_value, stepS_skip, stepS_enter, ↓IntWalk.iteOmega, hf, *]; (try go_ints); refine (Quote_any _ _ (by omega)).mono ?_; rintro e w'' ⟨rfl, n, rfl⟩; exact ⟨_, rfl, rfl, Grow.drewN _ _⟩
          · refine oneT_plain (fun σ w' hR hf => ?_); simp only [factsT, List.getD_cons_succ, List.getD_cons_zero, SP.val_p, and_true] at hf; obtain ⟨c0, c1, c2, c3, c4, c5, c6, c7⟩ := HCX.out w' hR; simp [go_sem, lk, upd, envOf, stepS_value, stepS_skip, stepS_enter, ↓IntWalk.iteOmega, hf, SP.val_p, SP.any_p, Grow.refl, *]
          · refine oneT_plain (fun σ w' hR hf => ?_); simp only [factsT, List.getD_cons_succ, List.getD_cons_zero, SP.val_p, and_true] at hf; obtain ⟨c0, c1, c2, c3, c4, c5, c6, c7⟩ := HCX.out w' hR; simp [go_sem, lk, upd, envOf, stepS_value, stepS_skip, stepS_enter, ↓IntWalk.iteOmega, hf, SP.val_p, SP.any_p, Grow.refl, *]
          · refine oneT_plain (fun σ w' hR hf => ?_); simp only [factsT, List.getD_cons_succ, List.getD_cons_zero, SP.val_p, and_true] at hf; obtain ⟨c0, c1, c2, c3, c4, c5, c6, c7⟩ := HCX.out w' hR; simp [go_sem, lk, upd, envOf, stepS_value, stepS_skip, stepS_enter, ↓IntWalk.iteOmega, hf, SP.val_p, SP.any_p, Grow.refl, *]
          · refine oneT_plain (fun σ w' hR hf => ?_); simp only [factsT, List.getD_cons_succ, List.getD_cons_zero, SP.val_p, and_true] at hf; obtain ⟨c0, c1, c2, c3, c4, c5, c6, c7⟩ := HCX.out w' hR; simp [go_sem, lk, upd, envOf, stepS_value, stepS_skip, stepS_enter, ↓IntWalk.iteOmega, hf, *]; (try go_ints); exact ⟨ints_new1 _ _ HP.out, Grow.alloc _ _⟩
          · refine oneT_plain (fun σ w' hR hf => ?_); simp only [factsT, List.getD_cons_succ, List.getD_cons_zero, SP.val_p, and_true] at hf; obtain ⟨c0, c1, c2, c3, c4, c5, c6, c7⟩ := HCX.out w' hR; simp [go_sem, lk, upd, envOf, stepS_value, stepS_skip, stepS_enter, ↓IntWalk.iteOmega, hf, *]; (try go_ints); refine (numbers_any _ _ _ hf (by simp)).mono ?_; rintro e w'' ⟨rfl, rfl⟩; exact ⟨_, rfl, rfl, Grow.refl _⟩
          · refine oneT_plain (fun σ w' hR hf => ?_); simp only [factsT, List.getD_cons_succ, List.getD_cons_zero, SP.val_p, and_true] at hf; obtain ⟨c0, c1, c2, c3, c4, c5, c6, c7⟩ := HCX.out w' hR; simp [go_sem, lk, upd, envOf, stepS_value, stepS_skip, stepS_enter, ↓IntWalk.iteOmega, hf, SP.val_p, SP.any_p, Grow.refl, *]
          · refine oneT_plain (fun σ w' hR hf => ?_); simp only [factsT, List.getD_cons_succ, List.getD_cons_zero, SP.val_p, and_true] at hf; obtain ⟨c0, c1, c2, c3, c4, c5, c6, c7⟩ := HCX.out w' hR; simp [go_sem, lk, upd, envOf, stepS_value, stepS_skip, stepS_enter, ↓IntWalk.iteOmega, hf, SP.val_p, SP.any_p, Grow.refl, *]
        intro σ' w3 hg hE
        have e5 := hE.at_ 11 5 rfl
        have HB3 := Lib.hid (HB2.out.trans (hg.mono (by omega)))
        simp only [List.getD_cons_succ, List.getD_cons_zero, SP.val_p] at e5
        clear hE
        repeat' (first | with_reducible (first | refine wE_seq (fun K hK => ?_) | refine wE_block ?_ | refine wE_skip ?_ | refine wE_ret ?_ | refine wE_exit ?_) | ((with_reducible refine wE_region ?_ ?_); (kernel_rfl); simp only [ls, stripO]) | ((with_reducible refine wS_step (fun K hK => ?_)); simp [go_sem, lk, upd, envOf, stepS_value, stepS_skip, stepS_enter, ↓IntWalk.iteOmega, *]; (try go_ints); refine hK.out _ _ ?_; clear hK K) | ((with_reducible refine wS_unit (fun K hK => ?_)); simp [go_sem, lk, upd, envOf, stepS_value, stepS_skip, stepS_enter, ↓IntWalk.iteOmega, *]; (try go_ints); refine hK.out _ _ ?_; clear hK K) | ((with_reducible refine wS_skip ?_ ?_); (focus (simp [lk, upd, envOf, *]; done))) | ((with_reducible refine wS_want ?_ ?_); (focus (simp [lk, upd, envOf, *]; done))) | ((with_reducible refine wS_split (fun hc => ?_) (fun hc => ?_)) <;> simp [lk, upd, envOf, *] at hc <;> try (exfalso; omega)) | with_reducible refine wS_nil ?_ | simp only [thenE, blockE, ↓reduceIte, Nat.reduceEqDiff] | ((with_reducible refine hK.out _ _ ?_); clear hK K) | ((with_reducible refine wE_if ?_ (fun hc => ?_) (fun hc => ?_)); (focus (simp [lk, upd, envOf, *]; done)); all_goals (simp [lk, upd, envOf, *] at hc <;> try (exfalso; omega))) | (clear hK; clear K))
        refine endE_tmp2 rfl ⟨?_, HB3.out⟩
        rw [HR.out, HL.out]
        simp [upd, *]
      · have hz4 := nums_size [A.change] (by simp [HA.out.change])
        have HL := Lib.hid (show S (lineL A) = WD ++ (⟨#[32]⟩ : ByteArray) ++ S (quoteL A.who.data.toList) ++ S (numsL [A.change]) by
          rw [lineL, if_neg (by omega), if_pos (by omega), ← HWD.out]; simp [S_app_lit, S_append])
        simp only [List.length_cons, List.length_nil] at hz4
        have HP := Lib.hid HA.out.change
        have t1 : (A.kind == 1) = false := by rw [kk]; rfl
        have t2 : (A.kind == 2) = false := by rw [kk]; rfl
        have t7 : (A.kind == 7) = true := by rw [kk]; rfl
        have t4 : (A.kind == 4) = false := by rw [kk]; rfl
        have t5 : (A.kind == 5) = false := by rw [kk]; rfl
        have t8 : (A.kind == 8) = false := by rw [kk]; rfl
        have t6 : (A.kind == 6) = false := by rw [kk]; rfl
        clear kk
        repeat' (first | with_reducible (first | refine wE_seq (fun K hK => ?_) | refine wE_block ?_ | refine wE_skip ?_ | refine wE_ret ?_ | refine wE_exit ?_) | ((with_reducible refine wE_region ?_ ?_); (kernel_rfl); simp only [ls, stripO]) | ((with_reducible refine wS_step (fun K hK => ?_)); simp [go_sem, lk, upd, envOf, stepS_value, stepS_skip, stepS_enter, ↓IntWalk.iteOmega, *]; (try go_ints); refine hK.out _ _ ?_; clear hK K) | ((with_reducible refine wS_unit (fun K hK => ?_)); simp [go_sem, lk, upd, envOf, stepS_value, stepS_skip, stepS_enter, ↓IntWalk.iteOmega, *]; (try go_ints); refine hK.out _ _ ?_; clear hK K) | ((with_reducible refine wS_skip ?_ ?_); (focus (simp [lk, upd, envOf, *]; done))) | ((with_reducible refine wS_want ?_ ?_); (focus (simp [lk, upd, envOf, *]; done))) | ((with_reducible refine wS_split (fun hc => ?_) (fun hc => ?_)) <;> simp [lk, upd, envOf, *] at hc <;> try (exfalso; omega)) | with_reducible refine wS_nil ?_ | simp only [thenE, blockE, ↓reduceIte, Nat.reduceEqDiff] | ((with_reducible refine hK.out _ _ ?_); clear hK K) | ((with_reducible refine wE_if ?_ (fun hc => ?_) (fun hc => ?_)); (focus (simp [lk, upd, envOf, *]; done)); all_goals (simp [lk, upd, envOf, *] at hc <;> try (exfalso; omega))) | (clear hK; clear K))
        refine wE_draw [SP.val (.string (WD)), SP.val (.string (WD ++ (⟨#[32]⟩ : ByteArray))), SP.val (.pointer (some ⟨w.heap.size, 1, none⟩)), SP.val (.string (A.who)), SP.val (.string (S (quoteL A.who.data.toList))), SP.val (.string (WD ++ (⟨#[32]⟩ : ByteArray) ++ S (quoteL A.who.data.toList))), SP.val (.pointer (some ⟨w.heap.size, 2, none⟩)), SP.val (.int .i64 A.change), SP.ints [A.change], SP.val (.string (S (numsL [A.change]))), SP.val (.string (WD ++ (⟨#[32]⟩ : ByteArray) ++ S (quoteL A.who.data.toList) ++ S (numsL [A.change]))), SP.val (.string (WD ++ (⟨#[32]⟩ : ByteArray) ++ S (quoteL A.who.data.toList) ++ S (numsL [A.change])))] [[(5, none)], [(38, some 0)], [(1, none)], [(40, some 2)], [(41, some 3)], [(39, some 1), (42, some 4)], [(1, none)], [(44, some 6)], [(45, some 7)], [(46, some 8)], [(43, some 5), (47, some 9)], [(48, some 10)]] (by kernel_rfl) (by kernel_rfl) (by kernel_rfl) ?_ ?_
        · simp only [ls, stripO, oblT, List.getD_cons_succ, List.getD_cons_zero, Nat.zero_add, Nat.reduceAdd]
          refine ⟨?_, ?_, ?_, ?_, ?_, ?_, ?_, ?_, ?_, ?_, ?_, ?_, trivial⟩
          · refine oneT_plain (fun σ w' hR hf => ?_); simp only [factsT, List.getD_cons_succ, List.getD_cons_zero, SP.val_p, and_true] at hf; obtain ⟨c0, c1, c2, c3, c4, c5, c6, c7⟩ := HCX.out w' hR; simp [go_sem, lk, upd, envOf, stepS_value, stepS_skip, stepS_enter, ↓IntWalk.iteOmega, hf, SP.val_p, SP.any_p, Grow.refl, *]
          · refine oneT_plain (fun σ w' hR hf => ?_); simp only [factsT, List.getD_cons_succ, List.getD_cons_zero, SP.val_p, and_true] at hf; obtain ⟨c0, c1, c2, c3, c4, c5, c6, c7⟩ := HCX.out w' hR; simp [go_sem, lk, upd, envOf, stepS_value, stepS_skip, stepS_enter, ↓IntWalk.iteOmega, hf, SP.val_p, SP.any_p, Grow.refl, *]
          · refine oneT_plain (fun σ w' hR hf => ?_); simp only [factsT, List.getD_cons_succ, List.getD_cons_zero, SP.val_p, and_true] at hf; obtain ⟨c0, c1, c2, c3, c4, c5, c6, c7⟩ := HCX.out w' hR; simp [go_sem, lk, upd, envOf, stepS_value, stepS_skip, stepS_enter, ↓IntWalk.iteOmega, hf, SP.val_p, SP.any_p, Grow.refl, *]
          · refine oneT_plain (fun σ w' hR hf => ?_); simp only [factsT, List.getD_cons_succ, List.getD_cons_zero, SP.val_p, and_true] at hf; obtain ⟨c0, c1, c2, c3, c4, c5, c6, c7⟩ := HCX.out w' hR; simp [go_sem, lk, upd, envOf, stepS_value, stepS_skip, stepS_enter, ↓IntWalk.iteOmega, hf, SP.val_p, SP.any_p, Grow.refl, *]
          · refine oneT_plain (fun σ w' hR hf => ?_); simp only [factsT, List.getD_cons_succ, List.getD_cons_zero, SP.val_p, and_true] at hf; obtain ⟨c0, c1, c2, c3, c4, c5, c6, c7⟩ := HCX.out w' hR; simp [go_sem, lk, upd, envOf, stepS_value, stepS_skip, stepS_enter, ↓IntWalk.iteOmega, hf, *]; (try go_ints); refine (Quote_any _ _ (by omega)).mono ?_; rintro e w'' ⟨rfl, n, rfl⟩; exact ⟨_, rfl, rfl, Grow.drewN _ _⟩
          · refine oneT_plain (fun σ w' hR hf => ?_); simp only [factsT, List.getD_cons_succ, List.getD_cons_zero, SP.val_p, and_true] at hf; obtain ⟨c0, c1, c2, c3, c4, c5, c6, c7⟩ := HCX.out w' hR; simp [go_sem, lk, upd, envOf, stepS_value, stepS_skip, stepS_enter, ↓IntWalk.iteOmega, hf, SP.val_p, SP.any_p, Grow.refl, *]
          · refine oneT_plain (fun σ w' hR hf => ?_); simp only [factsT, List.getD_cons_succ, List.getD_cons_zero, SP.val_p, and_true] at hf; obtain ⟨c0, c1, c2, c3, c4, c5, c6, c7⟩ := HCX.out w' hR; simp [go_sem, lk, upd, envOf, stepS_value, stepS_skip, stepS_enter, ↓IntWalk.iteOmega, hf, SP.val_p, SP.any_p, Grow.refl, *]
          · refine oneT_plain (fun σ w' hR hf => ?_); simp only [factsT, List.getD_cons_succ, List.getD_cons_zero, SP.val_p, and_true] at hf; obtain ⟨c0, c1, c2, c3, c4, c5, c6, c7⟩ := HCX.out w' hR; simp [go_sem, lk, upd, envOf, stepS_value, stepS_skip, stepS_enter, ↓IntWalk.iteOmega, hf, SP.val_p, SP.any_p, Grow.refl, *]
          · refine oneT_plain (fun σ w' hR hf => ?_); simp only [factsT, List.getD_cons_succ, List.getD_cons_zero, SP.val_p, and_true] at hf; obtain ⟨c0, c1, c2, c3, c4, c5, c6, c7⟩ := HCX.out w' hR; simp [go_sem, lk, upd, envOf, stepS_value, stepS_skip, stepS_enter, ↓IntWalk.iteOmega, hf, *]; (try go_ints); exact ⟨ints_new1 _ _ HP.out, Grow.alloc _ _⟩
          · refine oneT_plain (fun σ w' hR hf => ?_); simp only [factsT, List.getD_cons_succ, List.getD_cons_zero, SP.val_p, and_true] at hf; obtain ⟨c0, c1, c2, c3, c4, c5, c6, c7⟩ := HCX.out w' hR; simp [go_sem, lk, upd, envOf, stepS_value, stepS_skip, stepS_enter, ↓IntWalk.iteOmega, hf, *]; (try go_ints); refine (numbers_any _ _ _ hf (by simp)).mono ?_; rintro e w'' ⟨rfl, rfl⟩; exact ⟨_, rfl, rfl, Grow.refl _⟩
          · refine oneT_plain (fun σ w' hR hf => ?_); simp only [factsT, List.getD_cons_succ, List.getD_cons_zero, SP.val_p, and_true] at hf; obtain ⟨c0, c1, c2, c3, c4, c5, c6, c7⟩ := HCX.out w' hR; simp [go_sem, lk, upd, envOf, stepS_value, stepS_skip, stepS_enter, ↓IntWalk.iteOmega, hf, SP.val_p, SP.any_p, Grow.refl, *]
          · refine oneT_plain (fun σ w' hR hf => ?_); simp only [factsT, List.getD_cons_succ, List.getD_cons_zero, SP.val_p, and_true] at hf; obtain ⟨c0, c1, c2, c3, c4, c5, c6, c7⟩ := HCX.out w' hR; simp [go_sem, lk, upd, envOf, stepS_value, stepS_skip, stepS_enter, ↓IntWalk.iteOmega, hf, SP.val_p, SP.any_p, Grow.refl, *]
        intro σ' w3 hg hE
        have e5 := hE.at_ 11 5 rfl
        have HB3 := Lib.hid (HB2.out.trans (hg.mono (by omega)))
        simp only [List.getD_cons_succ, List.getD_cons_zero, SP.val_p] at e5
        clear hE
        repeat' (first | with_reducible (first | refine wE_seq (fun K hK => ?_) | refine wE_block ?_ | refine wE_skip ?_ | refine wE_ret ?_ | refine wE_exit ?_) | ((with_reducible refine wE_region ?_ ?_); (kernel_rfl); simp only [ls, stripO]) | ((with_reducible refine wS_step (fun K hK => ?_)); simp [go_sem, lk, upd, envOf, stepS_value, stepS_skip, stepS_enter, ↓IntWalk.iteOmega, *]; (try go_ints); refine hK.out _ _ ?_; clear hK K) | ((with_reducible refine wS_unit (fun K hK => ?_)); simp [go_sem, lk, upd, envOf, stepS_value, stepS_skip, stepS_enter, ↓IntWalk.iteOmega, *]; (try go_ints); refine hK.out _ _ ?_; clear hK K) | ((with_reducible refine wS_skip ?_ ?_); (focus (simp [lk, upd, envOf, *]; done))) | ((with_reducible refine wS_want ?_ ?_); (focus (simp [lk, upd, envOf, *]; done))) | ((with_reducible refine wS_split (fun hc => ?_) (fun hc => ?_)) <;> simp [lk, upd, envOf, *] at hc <;> try (exfalso; omega)) | with_reducible refine wS_nil ?_ | simp only [thenE, blockE, ↓reduceIte, Nat.reduceEqDiff] | ((with_reducible refine hK.out _ _ ?_); clear hK K) | ((with_reducible refine wE_if ?_ (fun hc => ?_) (fun hc => ?_)); (focus (simp [lk, upd, envOf, *]; done)); all_goals (simp [lk, upd, envOf, *] at hc <;> try (exfalso; omega))) | (clear hK; clear K))
        refine endE_tmp2 rfl ⟨?_, HB3.out⟩
        rw [HR.out, HL.out]
        simp [upd, *]
    · have kk := k3
      clear k3
      have HL := Lib.hid (show S (lineL A) = WD by
        rw [lineL, if_neg (by omega), if_neg (by omega), if_neg (by omega), if_neg (by omega), if_neg (by omega)]; exact HWD.out)
      have t1 : (A.kind == 1) = false := by rw [kk]; rfl
      have t2 : (A.kind == 2) = false := by rw [kk]; rfl
      have t7 : (A.kind == 7) = false := by rw [kk]; rfl
      have t4 : (A.kind == 4) = false := by rw [kk]; rfl
      have t5 : (A.kind == 5) = false := by rw [kk]; rfl
      have t8 : (A.kind == 8) = false := by rw [kk]; rfl
      have t6 : (A.kind == 6) = false := by rw [kk]; rfl
      clear kk
      repeat' (first | with_reducible (first | refine wE_seq (fun K hK => ?_) | refine wE_block ?_ | refine wE_skip ?_ | refine wE_ret ?_ | refine wE_exit ?_) | ((with_reducible refine wE_region ?_ ?_); (kernel_rfl); simp only [ls, stripO]) | ((with_reducible refine wS_step (fun K hK => ?_)); simp [go_sem, lk, upd, envOf, stepS_value, stepS_skip, stepS_enter, ↓IntWalk.iteOmega, *]; (try go_ints); refine hK.out _ _ ?_; clear hK K) | ((with_reducible refine wS_unit (fun K hK => ?_)); simp [go_sem, lk, upd, envOf, stepS_value, stepS_skip, stepS_enter, ↓IntWalk.iteOmega, *]; (try go_ints); refine hK.out _ _ ?_; clear hK K) | ((with_reducible refine wS_skip ?_ ?_); (focus (simp [lk, upd, envOf, *]; done))) | ((with_reducible refine wS_want ?_ ?_); (focus (simp [lk, upd, envOf, *]; done))) | ((with_reducible refine wS_split (fun hc => ?_) (fun hc => ?_)) <;> simp [lk, upd, envOf, *] at hc <;> try (exfalso; omega)) | with_reducible refine wS_nil ?_ | simp only [thenE, blockE, ↓reduceIte, Nat.reduceEqDiff] | ((with_reducible refine hK.out _ _ ?_); clear hK K) | ((with_reducible refine wE_if ?_ (fun hc => ?_) (fun hc => ?_)); (focus (simp [lk, upd, envOf, *]; done)); all_goals (simp [lk, upd, envOf, *] at hc <;> try (exfalso; omega))) | (clear hK; clear K))
      refine endE_tmp2 rfl ⟨?_, HB2.out⟩
      rw [HR.out, HL.out]
      simp [upd, *]
    · have kk := k4
      clear k4
      have hz4 := nums_size A.picks (by obtain ⟨_, _, _, _, h, _⟩ := HA.out.picks; exact h)
      have HL := Lib.hid (show S (lineL A) = WD ++ S (numsL A.picks) by
        rw [lineL, if_neg (by omega), if_neg (by omega), if_pos (by omega), ← HWD.out]; simp [S_append])
      have hn := HS.out.npicks
      have HPX := Lib.hid (HA.out.picks.keep (Keeps.of_below HB2.out))
      have t1 : (A.kind == 1) = false := by rw [kk]; rfl
      have t2 : (A.kind == 2) = false := by rw [kk]; rfl
      have t7 : (A.kind == 7) = false := by rw [kk]; rfl
      have t4 : (A.kind == 4) = true := by rw [kk]; rfl
      have t5 : (A.kind == 5) = false := by rw [kk]; rfl
      have t8 : (A.kind == 8) = false := by rw [kk]; rfl
      have t6 : (A.kind == 6) = false := by rw [kk]; rfl
      clear kk
      repeat' (first | with_reducible (first | refine wE_seq (fun K hK => ?_) | refine wE_block ?_ | refine wE_skip ?_ | refine wE_ret ?_ | refine wE_exit ?_) | ((with_reducible refine wE_region ?_ ?_); (kernel_rfl); simp only [ls, stripO]) | ((with_reducible refine wS_step (fun K hK => ?_)); simp [go_sem, lk, upd, envOf, stepS_value, stepS_skip, stepS_enter, ↓IntWalk.iteOmega, *]; (try go_ints); refine hK.out _ _ ?_; clear hK K) | ((with_reducible refine wS_unit (fun K hK => ?_)); simp [go_sem, lk, upd, envOf, stepS_value, stepS_skip, stepS_enter, ↓IntWalk.iteOmega, *]; (try go_ints); refine hK.out _ _ ?_; clear hK K) | ((with_reducible refine wS_skip ?_ ?_); (focus (simp [lk, upd, envOf, *]; done))) | ((with_reducible refine wS_want ?_ ?_); (focus (simp [lk, upd, envOf, *]; done))) | ((with_reducible refine wS_split (fun hc => ?_) (fun hc => ?_)) <;> simp [lk, upd, envOf, *] at hc <;> try (exfalso; omega)) | with_reducible refine wS_nil ?_ | simp only [thenE, blockE, ↓reduceIte, Nat.reduceEqDiff] | ((with_reducible refine hK.out _ _ ?_); clear hK K) | ((with_reducible refine wE_if ?_ (fun hc => ?_) (fun hc => ?_)); (focus (simp [lk, upd, envOf, *]; done)); all_goals (simp [lk, upd, envOf, *] at hc <;> try (exfalso; omega))) | (clear hK; clear K))
      (with_reducible refine wS_step (fun K hK => ?_)); simp [go_sem, lk, upd, envOf, stepS_value, stepS_skip, stepS_enter, ↓IntWalk.iteOmega, *]; (try go_ints); refine (numbers_any _ _ _ HPX.out (by omega)).mono ?_; rintro e w3 ⟨rfl, rfl⟩; refine ⟨_, rfl, hK.out _ _ ?_⟩; clear hK K
      repeat' (first | with_reducible (first | refine wE_seq (fun K hK => ?_) | refine wE_block ?_ | refine wE_skip ?_ | refine wE_ret ?_ | refine wE_exit ?_) | ((with_reducible refine wE_region ?_ ?_); (kernel_rfl); simp only [ls, stripO]) | ((with_reducible refine wS_step (fun K hK => ?_)); simp [go_sem, lk, upd, envOf, stepS_value, stepS_skip, stepS_enter, ↓IntWalk.iteOmega, *]; (try go_ints); refine hK.out _ _ ?_; clear hK K) | ((with_reducible refine wS_unit (fun K hK => ?_)); simp [go_sem, lk, upd, envOf, stepS_value, stepS_skip, stepS_enter, ↓IntWalk.iteOmega, *]; (try go_ints); refine hK.out _ _ ?_; clear hK K) | ((with_reducible refine wS_skip ?_ ?_); (focus (simp [lk, upd, envOf, *]; done))) | ((with_reducible refine wS_want ?_ ?_); (focus (simp [lk, upd, envOf, *]; done))) | ((with_reducible refine wS_split (fun hc => ?_) (fun hc => ?_)) <;> simp [lk, upd, envOf, *] at hc <;> try (exfalso; omega)) | with_reducible refine wS_nil ?_ | simp only [thenE, blockE, ↓reduceIte, Nat.reduceEqDiff] | ((with_reducible refine hK.out _ _ ?_); clear hK K) | ((with_reducible refine wE_if ?_ (fun hc => ?_) (fun hc => ?_)); (focus (simp [lk, upd, envOf, *]; done)); all_goals (simp [lk, upd, envOf, *] at hc <;> try (exfalso; omega))) | (clear hK; clear K))
      refine endE_tmp2 rfl ⟨?_, HB2.out⟩
      rw [HR.out, HL.out]
      simp [upd, *]
    · rcases k58 with kk | kk
      · have hz4 := nums_size [A.count] (by simp [HA.out.count])
        have HL := Lib.hid (show S (lineL A) = WD ++ S (numsL [A.count]) by
          rw [lineL, if_neg (by omega), if_neg (by omega), if_neg (by omega), if_pos (by omega), ← HWD.out]; simp [S_append])
        simp only [List.length_cons, List.length_nil] at hz4
        have HP := Lib.hid HA.out.count
        have t1 : (A.kind == 1) = false := by rw [kk]; rfl
        have t2 : (A.kind == 2) = false := by rw [kk]; rfl
        have t7 : (A.kind == 7) = false := by rw [kk]; rfl
        have t4 : (A.kind == 4) = false := by rw [kk]; rfl
        have t5 : (A.kind == 5) = true := by rw [kk]; rfl
        have t8 : (A.kind == 8) = false := by rw [kk]; rfl
        have t6 : (A.kind == 6) = false := by rw [kk]; rfl
        clear kk
        repeat' (first | with_reducible (first | refine wE_seq (fun K hK => ?_) | refine wE_block ?_ | refine wE_skip ?_ | refine wE_ret ?_ | refine wE_exit ?_) | ((with_reducible refine wE_region ?_ ?_); (kernel_rfl); simp only [ls, stripO]) | ((with_reducible refine wS_step (fun K hK => ?_)); simp [go_sem, lk, upd, envOf, stepS_value, stepS_skip, stepS_enter, ↓IntWalk.iteOmega, *]; (try go_ints); refine hK.out _ _ ?_; clear hK K) | ((with_reducible refine wS_unit (fun K hK => ?_)); simp [go_sem, lk, upd, envOf, stepS_value, stepS_skip, stepS_enter, ↓IntWalk.iteOmega, *]; (try go_ints); refine hK.out _ _ ?_; clear hK K) | ((with_reducible refine wS_skip ?_ ?_); (focus (simp [lk, upd, envOf, *]; done))) | ((with_reducible refine wS_want ?_ ?_); (focus (simp [lk, upd, envOf, *]; done))) | ((with_reducible refine wS_split (fun hc => ?_) (fun hc => ?_)) <;> simp [lk, upd, envOf, *] at hc <;> try (exfalso; omega)) | with_reducible refine wS_nil ?_ | simp only [thenE, blockE, ↓reduceIte, Nat.reduceEqDiff] | ((with_reducible refine hK.out _ _ ?_); clear hK K) | ((with_reducible refine wE_if ?_ (fun hc => ?_) (fun hc => ?_)); (focus (simp [lk, upd, envOf, *]; done)); all_goals (simp [lk, upd, envOf, *] at hc <;> try (exfalso; omega))) | (clear hK; clear K))
        (with_reducible refine wS_step (fun K hK => ?_)); simp [go_sem, lk, upd, envOf, stepS_value, stepS_skip, stepS_enter, ↓IntWalk.iteOmega, *]; (try go_ints); refine (numbers_any _ _ _ (ints_new1 _ _ HP.out) (by simp)).mono ?_; rintro e w3 ⟨rfl, rfl⟩; refine ⟨_, rfl, hK.out _ _ ?_⟩; clear hK K
        repeat' (first | with_reducible (first | refine wE_seq (fun K hK => ?_) | refine wE_block ?_ | refine wE_skip ?_ | refine wE_ret ?_ | refine wE_exit ?_) | ((with_reducible refine wE_region ?_ ?_); (kernel_rfl); simp only [ls, stripO]) | ((with_reducible refine wS_step (fun K hK => ?_)); simp [go_sem, lk, upd, envOf, stepS_value, stepS_skip, stepS_enter, ↓IntWalk.iteOmega, *]; (try go_ints); refine hK.out _ _ ?_; clear hK K) | ((with_reducible refine wS_unit (fun K hK => ?_)); simp [go_sem, lk, upd, envOf, stepS_value, stepS_skip, stepS_enter, ↓IntWalk.iteOmega, *]; (try go_ints); refine hK.out _ _ ?_; clear hK K) | ((with_reducible refine wS_skip ?_ ?_); (focus (simp [lk, upd, envOf, *]; done))) | ((with_reducible refine wS_want ?_ ?_); (focus (simp [lk, upd, envOf, *]; done))) | ((with_reducible refine wS_split (fun hc => ?_) (fun hc => ?_)) <;> simp [lk, upd, envOf, *] at hc <;> try (exfalso; omega)) | with_reducible refine wS_nil ?_ | simp only [thenE, blockE, ↓reduceIte, Nat.reduceEqDiff] | ((with_reducible refine hK.out _ _ ?_); clear hK K) | ((with_reducible refine wE_if ?_ (fun hc => ?_) (fun hc => ?_)); (focus (simp [lk, upd, envOf, *]; done)); all_goals (simp [lk, upd, envOf, *] at hc <;> try (exfalso; omega))) | (clear hK; clear K))
        refine endE_tmp2 rfl ⟨?_, HB2.out.trans ((Below.refl _ _).alloc (by omega) _)⟩
        rw [HR.out, HL.out]
        simp [upd, *]
      · have hz4 := nums_size [A.count] (by simp [HA.out.count])
        have HL := Lib.hid (show S (lineL A) = WD ++ S (numsL [A.count]) by
          rw [lineL, if_neg (by omega), if_neg (by omega), if_neg (by omega), if_pos (by omega), ← HWD.out]; simp [S_append])
        simp only [List.length_cons, List.length_nil] at hz4
        have HP := Lib.hid HA.out.count
        have t1 : (A.kind == 1) = false := by rw [kk]; rfl
        have t2 : (A.kind == 2) = false := by rw [kk]; rfl
        have t7 : (A.kind == 7) = false := by rw [kk]; rfl
        have t4 : (A.kind == 4) = false := by rw [kk]; rfl
        have t5 : (A.kind == 5) = false := by rw [kk]; rfl
        have t8 : (A.kind == 8) = true := by rw [kk]; rfl
        have t6 : (A.kind == 6) = false := by rw [kk]; rfl
        clear kk
        repeat' (first | with_reducible (first | refine wE_seq (fun K hK => ?_) | refine wE_block ?_ | refine wE_skip ?_ | refine wE_ret ?_ | refine wE_exit ?_) | ((with_reducible refine wE_region ?_ ?_); (kernel_rfl); simp only [ls, stripO]) | ((with_reducible refine wS_step (fun K hK => ?_)); simp [go_sem, lk, upd, envOf, stepS_value, stepS_skip, stepS_enter, ↓IntWalk.iteOmega, *]; (try go_ints); refine hK.out _ _ ?_; clear hK K) | ((with_reducible refine wS_unit (fun K hK => ?_)); simp [go_sem, lk, upd, envOf, stepS_value, stepS_skip, stepS_enter, ↓IntWalk.iteOmega, *]; (try go_ints); refine hK.out _ _ ?_; clear hK K) | ((with_reducible refine wS_skip ?_ ?_); (focus (simp [lk, upd, envOf, *]; done))) | ((with_reducible refine wS_want ?_ ?_); (focus (simp [lk, upd, envOf, *]; done))) | ((with_reducible refine wS_split (fun hc => ?_) (fun hc => ?_)) <;> simp [lk, upd, envOf, *] at hc <;> try (exfalso; omega)) | with_reducible refine wS_nil ?_ | simp only [thenE, blockE, ↓reduceIte, Nat.reduceEqDiff] | ((with_reducible refine hK.out _ _ ?_); clear hK K) | ((with_reducible refine wE_if ?_ (fun hc => ?_) (fun hc => ?_)); (focus (simp [lk, upd, envOf, *]; done)); all_goals (simp [lk, upd, envOf, *] at hc <;> try (exfalso; omega))) | (clear hK; clear K))
        (with_reducible refine wS_step (fun K hK => ?_)); simp [go_sem, lk, upd, envOf, stepS_value, stepS_skip, stepS_enter, ↓IntWalk.iteOmega, *]; (try go_ints); refine (numbers_any _ _ _ (ints_new1 _ _ HP.out) (by simp)).mono ?_; rintro e w3 ⟨rfl, rfl⟩; refine ⟨_, rfl, hK.out _ _ ?_⟩; clear hK K
        repeat' (first | with_reducible (first | refine wE_seq (fun K hK => ?_) | refine wE_block ?_ | refine wE_skip ?_ | refine wE_ret ?_ | refine wE_exit ?_) | ((with_reducible refine wE_region ?_ ?_); (kernel_rfl); simp only [ls, stripO]) | ((with_reducible refine wS_step (fun K hK => ?_)); simp [go_sem, lk, upd, envOf, stepS_value, stepS_skip, stepS_enter, ↓IntWalk.iteOmega, *]; (try go_ints); refine hK.out _ _ ?_; clear hK K) | ((with_reducible refine wS_unit (fun K hK => ?_)); simp [go_sem, lk, upd, envOf, stepS_value, stepS_skip, stepS_enter, ↓IntWalk.iteOmega, *]; (try go_ints); refine hK.out _ _ ?_; clear hK K) | ((with_reducible refine wS_skip ?_ ?_); (focus (simp [lk, upd, envOf, *]; done))) | ((with_reducible refine wS_want ?_ ?_); (focus (simp [lk, upd, envOf, *]; done))) | ((with_reducible refine wS_split (fun hc => ?_) (fun hc => ?_)) <;> simp [lk, upd, envOf, *] at hc <;> try (exfalso; omega)) | with_reducible refine wS_nil ?_ | simp only [thenE, blockE, ↓reduceIte, Nat.reduceEqDiff] | ((with_reducible refine hK.out _ _ ?_); clear hK K) | ((with_reducible refine wE_if ?_ (fun hc => ?_) (fun hc => ?_)); (focus (simp [lk, upd, envOf, *]; done)); all_goals (simp [lk, upd, envOf, *] at hc <;> try (exfalso; omega))) | (clear hK; clear K))
        refine endE_tmp2 rfl ⟨?_, HB2.out.trans ((Below.refl _ _).alloc (by omega) _)⟩
        rw [HR.out, HL.out]
        simp [upd, *]
    · have kk := k6
      clear k6
      have hz4 := nums_size [A.count, A.at_] (by simp [HA.out.count, HA.out.at_])
      have HL := Lib.hid (show S (lineL A) = WD ++ (⟨#[32]⟩ : ByteArray) ++ S (quoteL A.who.data.toList) ++ S (numsL [A.count, A.at_]) by
        rw [lineL, if_neg (by omega), if_neg (by omega), if_neg (by omega), if_neg (by omega), if_pos (by omega), ← HWD.out]; simp [S_app_lit, S_append])
      simp only [List.length_cons, List.length_nil] at hz4
      have HP := Lib.hid HA.out.count
      have HT := Lib.hid HA.out.at_
      have t1 : (A.kind == 1) = false := by rw [kk]; rfl
      have t2 : (A.kind == 2) = false := by rw [kk]; rfl
      have t7 : (A.kind == 7) = false := by rw [kk]; rfl
      have t4 : (A.kind == 4) = false := by rw [kk]; rfl
      have t5 : (A.kind == 5) = false := by rw [kk]; rfl
      have t8 : (A.kind == 8) = false := by rw [kk]; rfl
      have t6 : (A.kind == 6) = true := by rw [kk]; rfl
      clear kk
      repeat' (first | with_reducible (first | refine wE_seq (fun K hK => ?_) | refine wE_block ?_ | refine wE_skip ?_ | refine wE_ret ?_ | refine wE_exit ?_) | ((with_reducible refine wE_region ?_ ?_); (kernel_rfl); simp only [ls, stripO]) | ((with_reducible refine wS_step (fun K hK => ?_)); simp [go_sem, lk, upd, envOf, stepS_value, stepS_skip, stepS_enter, ↓IntWalk.iteOmega, *]; (try go_ints); refine hK.out _ _ ?_; clear hK K) | ((with_reducible refine wS_unit (fun K hK => ?_)); simp [go_sem, lk, upd, envOf, stepS_value, stepS_skip, stepS_enter, ↓IntWalk.iteOmega, *]; (try go_ints); refine hK.out _ _ ?_; clear hK K) | ((with_reducible refine wS_skip ?_ ?_); (focus (simp [lk, upd, envOf, *]; done))) | ((with_reducible refine wS_want ?_ ?_); (focus (simp [lk, upd, envOf, *]; done))) | ((with_reducible refine wS_split (fun hc => ?_) (fun hc => ?_)) <;> simp [lk, upd, envOf, *] at hc <;> try (exfalso; omega)) | with_reducible refine wS_nil ?_ | simp only [thenE, blockE, ↓reduceIte, Nat.reduceEqDiff] | ((with_reducible refine hK.out _ _ ?_); clear hK K) | ((with_reducible refine wE_if ?_ (fun hc => ?_) (fun hc => ?_)); (focus (simp [lk, upd, envOf, *]; done)); all_goals (simp [lk, upd, envOf, *] at hc <;> try (exfalso; omega))) | (clear hK; clear K))
      refine wE_draw [SP.val (.string (WD)), SP.val (.string (WD ++ (⟨#[32]⟩ : ByteArray))), SP.val (.pointer (some ⟨w.heap.size, 1, none⟩)), SP.val (.string (A.who)), SP.val (.string (S (quoteL A.who.data.toList))), SP.val (.string (WD ++ (⟨#[32]⟩ : ByteArray) ++ S (quoteL A.who.data.toList))), SP.val (.pointer (some ⟨w.heap.size, 5, none⟩)), SP.val (.int .i64 A.count), SP.val (.pointer (some ⟨w.heap.size, 4, none⟩)), SP.val (.int .i64 A.at_), SP.ints [A.count, A.at_], SP.val (.string (S (numsL [A.count, A.at_]))), SP.val (.string (WD ++ (⟨#[32]⟩ : ByteArray) ++ S (quoteL A.who.data.toList) ++ S (numsL [A.count, A.at_]))), SP.val (.string (WD ++ (⟨#[32]⟩ : ByteArray) ++ S (quoteL A.who.data.toList) ++ S (numsL [A.count, A.at_])))] [[(5, none)], [(67, some 0)], [(1, none)], [(69, some 2)], [(70, some 3)], [(68, some 1), (71, some 4)], [(1, none)], [(73, some 6)], [(1, none)], [(75, some 8)], [(74, some 7), (76, some 9)], [(77, some 10)], [(72, some 5), (78, some 11)], [(79, some 12)]] (by kernel_rfl) (by kernel_rfl) (by kernel_rfl) ?_ ?_
      · simp only [ls, stripO, oblT, List.getD_cons_succ, List.getD_cons_zero, Nat.zero_add, Nat.reduceAdd]
        refine ⟨?_, ?_, ?_, ?_, ?_, ?_, ?_, ?_, ?_, ?_, ?_, ?_, ?_, ?_, trivial⟩
        · refine oneT_plain (fun σ w' hR hf => ?_); simp only [factsT, List.getD_cons_succ, List.getD_cons_zero, SP.val_p, and_true] at hf; obtain ⟨c0, c1, c2, c3, c4, c5, c6, c7⟩ := HCX.out w' hR; simp [go_sem, lk, upd, envOf, stepS_value, stepS_skip, stepS_enter, ↓IntWalk.iteOmega, hf, SP.val_p, SP.any_p, Grow.refl, *]
        · refine oneT_plain (fun σ w' hR hf => ?_); simp only [factsT, List.getD_cons_succ, List.getD_cons_zero, SP.val_p, and_true] at hf; obtain ⟨c0, c1, c2, c3, c4, c5, c6, c7⟩ := HCX.out w' hR; simp [go_sem, lk, upd, envOf, stepS_value, stepS_skip, stepS_enter, ↓IntWalk.iteOmega, hf, SP.val_p, SP.any_p, Grow.refl, *]
        · refine oneT_plain (fun σ w' hR hf => ?_); simp only [factsT, List.getD_cons_succ, List.getD_cons_zero, SP.val_p, and_true] at hf; obtain ⟨c0, c1, c2, c3, c4, c5, c6, c7⟩ := HCX.out w' hR; simp [go_sem, lk, upd, envOf, stepS_value, stepS_skip, stepS_enter, ↓IntWalk.iteOmega, hf, SP.val_p, SP.any_p, Grow.refl, *]
        · refine oneT_plain (fun σ w' hR hf => ?_); simp only [factsT, List.getD_cons_succ, List.getD_cons_zero, SP.val_p, and_true] at hf; obtain ⟨c0, c1, c2, c3, c4, c5, c6, c7⟩ := HCX.out w' hR; simp [go_sem, lk, upd, envOf, stepS_value, stepS_skip, stepS_enter, ↓IntWalk.iteOmega, hf, SP.val_p, SP.any_p, Grow.refl, *]
        · refine oneT_plain (fun σ w' hR hf => ?_); simp only [factsT, List.getD_cons_succ, List.getD_cons_zero, SP.val_p, and_true] at hf; obtain ⟨c0, c1, c2, c3, c4, c5, c6, c7⟩ := HCX.out w' hR; simp [go_sem, lk, upd, envOf, stepS_value, stepS_skip, stepS_enter, ↓IntWalk.iteOmega, hf, *]; (try go_ints); refine (Quote_any _ _ (by omega)).mono ?_; rintro e w'' ⟨rfl, n, rfl⟩; exact ⟨_, rfl, rfl, Grow.drewN _ _⟩
        · refine oneT_plain (fun σ w' hR hf => ?_); simp only [factsT, List.getD_cons_succ, List.getD_cons_zero, SP.val_p, and_true] at hf; obtain ⟨c0, c1, c2, c3, c4, c5, c6, c7⟩ := HCX.out w' hR; simp [go_sem, lk, upd, envOf, stepS_value, stepS_skip, stepS_enter, ↓IntWalk.iteOmega, hf, SP.val_p, SP.any_p, Grow.refl, *]
        · refine oneT_plain (fun σ w' hR hf => ?_); simp only [factsT, List.getD_cons_succ, List.getD_cons_zero, SP.val_p, and_true] at hf; obtain ⟨c0, c1, c2, c3, c4, c5, c6, c7⟩ := HCX.out w' hR; simp [go_sem, lk, upd, envOf, stepS_value, stepS_skip, stepS_enter, ↓IntWalk.iteOmega, hf, SP.val_p, SP.any_p, Grow.refl, *]
        · refine oneT_plain (fun σ w' hR hf => ?_); simp only [factsT, List.getD_cons_succ, List.getD_cons_zero, SP.val_p, and_true] at hf; obtain ⟨c0, c1, c2, c3, c4, c5, c6, c7⟩ := HCX.out w' hR; simp [go_sem, lk, upd, envOf, stepS_value, stepS_skip, stepS_enter, ↓IntWalk.iteOmega, hf, SP.val_p, SP.any_p, Grow.refl, *]
        · refine oneT_plain (fun σ w' hR hf => ?_); simp only [factsT, List.getD_cons_succ, List.getD_cons_zero, SP.val_p, and_true] at hf; obtain ⟨c0, c1, c2, c3, c4, c5, c6, c7⟩ := HCX.out w' hR; simp [go_sem, lk, upd, envOf, stepS_value, stepS_skip, stepS_enter, ↓IntWalk.iteOmega, hf, SP.val_p, SP.any_p, Grow.refl, *]
        · refine oneT_plain (fun σ w' hR hf => ?_); simp only [factsT, List.getD_cons_succ, List.getD_cons_zero, SP.val_p, and_true] at hf; obtain ⟨c0, c1, c2, c3, c4, c5, c6, c7⟩ := HCX.out w' hR; simp [go_sem, lk, upd, envOf, stepS_value, stepS_skip, stepS_enter, ↓IntWalk.iteOmega, hf, SP.val_p, SP.any_p, Grow.refl, *]
        · refine oneT_plain (fun σ w' hR hf => ?_); simp only [factsT, List.getD_cons_succ, List.getD_cons_zero, SP.val_p, and_true] at hf; obtain ⟨c0, c1, c2, c3, c4, c5, c6, c7⟩ := HCX.out w' hR; simp [go_sem, lk, upd, envOf, stepS_value, stepS_skip, stepS_enter, ↓IntWalk.iteOmega, hf, *]; (try go_ints); exact ⟨ints_new2 _ _ _ HP.out HT.out, Grow.alloc _ _⟩
        · refine oneT_plain (fun σ w' hR hf => ?_); simp only [factsT, List.getD_cons_succ, List.getD_cons_zero, SP.val_p, and_true] at hf; obtain ⟨c0, c1, c2, c3, c4, c5, c6, c7⟩ := HCX.out w' hR; simp [go_sem, lk, upd, envOf, stepS_value, stepS_skip, stepS_enter, ↓IntWalk.iteOmega, hf, *]; (try go_ints); refine (numbers_any _ _ _ hf (by simp)).mono ?_; rintro e w'' ⟨rfl, rfl⟩; exact ⟨_, rfl, rfl, Grow.refl _⟩
        · refine oneT_plain (fun σ w' hR hf => ?_); simp only [factsT, List.getD_cons_succ, List.getD_cons_zero, SP.val_p, and_true] at hf; obtain ⟨c0, c1, c2, c3, c4, c5, c6, c7⟩ := HCX.out w' hR; simp [go_sem, lk, upd, envOf, stepS_value, stepS_skip, stepS_enter, ↓IntWalk.iteOmega, hf, SP.val_p, SP.any_p, Grow.refl, *]
        · refine oneT_plain (fun σ w' hR hf => ?_); simp only [factsT, List.getD_cons_succ, List.getD_cons_zero, SP.val_p, and_true] at hf; obtain ⟨c0, c1, c2, c3, c4, c5, c6, c7⟩ := HCX.out w' hR; simp [go_sem, lk, upd, envOf, stepS_value, stepS_skip, stepS_enter, ↓IntWalk.iteOmega, hf, SP.val_p, SP.any_p, Grow.refl, *]
      intro σ' w3 hg hE
      have e5 := hE.at_ 13 5 rfl
      have HB3 := Lib.hid (HB2.out.trans (hg.mono (by omega)))
      simp only [List.getD_cons_succ, List.getD_cons_zero, SP.val_p] at e5
      clear hE
      repeat' (first | with_reducible (first | refine wE_seq (fun K hK => ?_) | refine wE_block ?_ | refine wE_skip ?_ | refine wE_ret ?_ | refine wE_exit ?_) | ((with_reducible refine wE_region ?_ ?_); (kernel_rfl); simp only [ls, stripO]) | ((with_reducible refine wS_step (fun K hK => ?_)); simp [go_sem, lk, upd, envOf, stepS_value, stepS_skip, stepS_enter, ↓IntWalk.iteOmega, *]; (try go_ints); refine hK.out _ _ ?_; clear hK K) | ((with_reducible refine wS_unit (fun K hK => ?_)); simp [go_sem, lk, upd, envOf, stepS_value, stepS_skip, stepS_enter, ↓IntWalk.iteOmega, *]; (try go_ints); refine hK.out _ _ ?_; clear hK K) | ((with_reducible refine wS_skip ?_ ?_); (focus (simp [lk, upd, envOf, *]; done))) | ((with_reducible refine wS_want ?_ ?_); (focus (simp [lk, upd, envOf, *]; done))) | ((with_reducible refine wS_split (fun hc => ?_) (fun hc => ?_)) <;> simp [lk, upd, envOf, *] at hc <;> try (exfalso; omega)) | with_reducible refine wS_nil ?_ | simp only [thenE, blockE, ↓reduceIte, Nat.reduceEqDiff] | ((with_reducible refine hK.out _ _ ?_); clear hK K) | ((with_reducible refine wE_if ?_ (fun hc => ?_) (fun hc => ?_)); (focus (simp [lk, upd, envOf, *]; done)); all_goals (simp [lk, upd, envOf, *] at hc <;> try (exfalso; omega))) | (clear hK; clear K))
      refine endE_tmp2 rfl ⟨?_, HB3.out⟩
      rw [HR.out, HL.out]
      simp [upd, *]
  · have HR := Lib.hid (show lineR A = .tuple #[.string ⟨#[]⟩, .int .i64 (checkN A)] by rw [lineR, if_neg hck])
    have hck' : (checkN A != 0) = true := by rw [bne_iff_ne]; exact hck
    have HN := Lib.hid hck
    clear hck
    repeat' (first | with_reducible (first | refine wE_seq (fun K hK => ?_) | refine wE_block ?_ | refine wE_skip ?_ | refine wE_ret ?_ | refine wE_exit ?_) | ((with_reducible refine wE_region ?_ ?_); (kernel_rfl); simp only [ls, stripO]) | ((with_reducible refine wS_step (fun K hK => ?_)); simp [go_sem, lk, upd, envOf, stepS_value, stepS_skip, stepS_enter, ↓IntWalk.iteOmega, *]; (try go_ints); refine hK.out _ _ ?_; clear hK K) | ((with_reducible refine wS_unit (fun K hK => ?_)); simp [go_sem, lk, upd, envOf, stepS_value, stepS_skip, stepS_enter, ↓IntWalk.iteOmega, *]; (try go_ints); refine hK.out _ _ ?_; clear hK K) | ((with_reducible refine wS_skip ?_ ?_); (focus (simp [lk, upd, envOf, *]; done))) | ((with_reducible refine wS_want ?_ ?_); (focus (simp [lk, upd, envOf, *]; done))) | ((with_reducible refine wS_split (fun hc => ?_) (fun hc => ?_)) <;> simp [lk, upd, envOf, *] at hc <;> try (exfalso; omega)) | with_reducible refine wS_nil ?_ | simp only [thenE, blockE, ↓reduceIte, Nat.reduceEqDiff] | ((with_reducible refine hK.out _ _ ?_); clear hK K) | ((with_reducible refine wE_if ?_ (fun hc => ?_) (fun hc => ?_)); (focus (simp [lk, upd, envOf, *]; done)); all_goals (simp [lk, upd, envOf, *] at hc <;> try (exfalso; omega))) | (clear hK; clear K))
    refine endE_tmp2 rfl ⟨?_, HB1.out⟩
    rw [HR.out]
    simp [upd]
end Go.Proofs.YtglekdhdogjnoaaGreatDoor
