/- The reference's ints and list, walked. -/
import Derived.Test.YtglekdhdogjnoaaGreatDoorRdC
import Derived.Test.YtglekdhdogjnoaaGreatDoorPrsF
namespace Go.Proofs.YtglekdhdogjnoaaGreatDoor
open Go.RowKit
set_option linter.unusedSimpArgs false
/-- A slice of the reference's parts. -/
def PtsAt (w : World) (v : Value) (ps : List PPart) : Prop :=
  ∃ a c, v = .slice a ps.length c ∧ ps.length ≤ c ∧ (ps = [] ∨ ∃ b o, a = some ⟨b, o, none⟩ ∧ ∀ (j : Nat) (p : PPart), ps[j]? = some p → w.cell? ⟨b, o + j * 2, none⟩ = some (.bool p.quoted) ∧ w.cell? ⟨b, o + j * 2 + 1, none⟩ = some (.string p.text))
theorem PtsAt.keep {w w' : World} {v : Value} {ps : List PPart} (h : PtsAt w v ps) (k : Keeps w w') : PtsAt w' v ps := by
  obtain ⟨a, c, h1, h2, h3⟩ := h
  refine ⟨a, c, h1, h2, h3.imp id ?_⟩
  rintro ⟨b, o, ha, hc⟩
  exact ⟨b, o, ha, fun j p hj => ⟨k _ _ (hc j p hj).1, k _ _ (hc j p hj).2⟩⟩
/-- No text of a part is great. -/
def TextsLe (ps : List PPart) : Prop := ∀ p ∈ ps, p.text.size ≤ 10000000
theorem numR_range (p : PPart) : I64 (numR p).1 := by
  unfold numR
  split
  · exact ⟨by simp, by simp⟩
  · rename_i h
    split
    · exact ⟨by simp, by simp⟩
    · rename_i n hn
      have key : ∀ (l : List UInt8) (b : Bool) (k : Nat) (m n : Int), 0 ≤ m → m < 10 ^ k → numF b l m = some n → 0 ≤ n ∧ n < 10 ^ (k + l.length) := by
        intro l
        induction l with
        | nil => intro b k m n h0 h1 h; simp only [numF, Option.some.injEq] at h; subst h; exact ⟨h0, by simpa using h1⟩
        | cons c r ih =>
          intro b k m n h0 h1 h
          rw [numF] at h
          split at h
          · have := ih false k m n h0 h1 h
            refine ⟨this.1, Int.lt_of_lt_of_le this.2 ?_⟩
            have : 10 ^ (k + r.length) ≤ 10 ^ (k + (c :: r).length) := Nat.pow_le_pow_right (by omega) (by simp)
            exact_mod_cast this
          · split at h
            · simp at h
            · have hc : 48 ≤ c.toNat ∧ c.toNat ≤ 57 := by omega
              have := ih false (k + 1) _ n (by omega) (by rw [Int.pow_succ]; generalize (10 : Int) ^ k = T at *; omega) h
              rw [show k + 1 + r.length = k + (c :: r).length by simp; omega] at this
              exact this
      have hz : p.text.data.toList.length ≤ 14 := by simp; omega
      have h1 := key _ true 0 0 n (by omega) (by decide) hn
      have h2 : (10 : Int) ^ (0 + p.text.data.toList.length) ≤ 10 ^ 14 := by
        have := Nat.pow_le_pow_right (n := 10) (by omega) (show 0 + p.text.data.toList.length ≤ 14 by omega)
        exact_mod_cast this
      have h3 : (10 : Int) ^ 14 = 100000000000000 := by decide
      simp only [numSign]
      split
      · exact ⟨by omega, by omega⟩
      · exact ⟨by omega, by omega⟩
theorem own_grow {w w' : World} {base : Nat} {e : TypeId} {size : Nat} {v : Value} {n : Nat} {xs : List Value} (h : w.ownsRow base e size v n xs) (g : Grow w w') : w'.ownsRow base e size v n xs :=
  h.kept (row := none) ⟨g.os, g.tape, g.output, g.size, fun k hk _ => g.block k hk⟩ (by cases v.ownBlock <;> simp)
def IntsEnd (ps : List PPart) (w : World) (e : Ending) (w' : World) : Prop :=
  Grow w w' ∧ match intsR ps with
    | some xs => ∃ a n c, e = .returned (.tuple #[.slice a n c, .bool true]) ∧ w'.ownsRow w.heap.size 3 1 (.slice a n c) xs.length (xs.map intV) ∧ ∀ x ∈ xs, I64 x
    | none => e = .returned (.tuple #[.slice none 0 0, .bool false])
theorem intsR_step (ps : List PPart) (k : Nat) (p : PPart) (xs : List Int) (hp : ps[k]? = some p) (h : intsR ps = (intsR (ps.drop k)).map (xs ++ ·)) :
    intsR ps = if (numR p).2 = true then (intsR (ps.drop (k + 1))).map ((xs ++ [(numR p).1]) ++ ·) else none := by
  have hd : ps.drop k = p :: ps.drop (k + 1) := by
    obtain ⟨hlt, rfl⟩ := List.getElem?_eq_some_iff.1 hp
    exact List.drop_eq_getElem_cons hlt
  rw [h, hd, intsR]
  split
  · cases intsR (ps.drop (k + 1)) <;> simp
  · rfl
set_option maxHeartbeats 4000000 in
set_option maxRecDepth 100000 in
theorem ints_any (v : Value) (ps : List PPart) (w : World) (hv : PtsAt w v ps) (hl : ps.length ≤ 1000000) (ht : TextsLe ps) : Calls Tryz.prog 48 #[v] w fun e w' => IntsEnd ps w e w' := by
  have HR : Hid (∀ e w', IntsEnd ps w e w' → IntsEnd ps w e w') := fun _ _ h => h
  obtain ⟨a, c, rfl, hcap, hpt⟩ := hv
  have HP := Lib.hid hpt
  have HT := Lib.hid ht
  clear hpt ht
  refine calls_of_wE Tryz.func48 rfl Tryz.ntmps48 (by simp) ?_
  repeat' (first | with_reducible (first | refine wE_seq (fun K hK => ?_) | refine wE_block ?_ | refine wE_skip ?_ | refine wE_ret ?_ | refine wE_exit ?_) | ((with_reducible refine wE_region ?_ ?_); (kernel_rfl); simp only [ls, stripO]) | ((with_reducible refine wS_step (fun K hK => ?_)); simp [go_sem, lk, upd, envOf, stepS_value, stepS_skip, stepS_enter, ↓IntWalk.iteOmega, *]; (try go_ints); refine hK.out _ _ ?_; clear hK K) | ((with_reducible refine wS_unit (fun K hK => ?_)); simp [go_sem, lk, upd, envOf, stepS_value, stepS_skip, stepS_enter, ↓IntWalk.iteOmega, *]; (try go_ints); refine hK.out _ _ ?_; clear hK K) | ((with_reducible refine wS_skip ?_ ?_); (focus (simp [lk, upd, envOf, *]; done))) | ((with_reducible refine wS_want ?_ ?_); (focus (simp [lk, upd, envOf, *]; done))) | ((with_reducible refine wS_split (fun hc => ?_) (fun hc => ?_)) <;> simp [lk, upd, envOf, *] at hc <;> try (exfalso; omega)) | with_reducible refine wS_nil ?_ | simp only [thenE, blockE, ↓reduceIte, Nat.reduceEqDiff] | ((with_reducible refine hK.out _ _ ?_); clear hK K) | ((with_reducible refine wE_if ?_ (fun hc => ?_) (fun hc => ?_)); (focus (simp [lk, upd, envOf, *]; done)); all_goals (simp [lk, upd, envOf, *] at hc <;> try (exfalso; omega))) | (clear hK; clear K))
  refine wE_loop (fun (k : Nat) σ w' => k ≤ ps.length ∧ σ 0 = .slice a ps.length c ∧ σ 5 = .int .i64 k ∧ (∃ xs, xs.length = k ∧ (∀ x ∈ xs, I64 x) ∧ intsR ps = (intsR (ps.drop k)).map (xs ++ ·) ∧ w'.ownsRow w.heap.size 3 1 (σ 4) xs.length (xs.map intV)) ∧ Grow w w') (fun k => ps.length - k) 0 ?_ ?_
  · refine ⟨by omega, by simp [upd, envOf], by simp [upd], ⟨[], rfl, by simp, by rw [List.drop_zero]; cases intsR ps <;> simp, ?_⟩, Grow.refl _⟩
    simp [upd]
    exact World.ownsRow_nil _ _ _ _
  rintro k σ w1 ⟨hk, e0, e5, ⟨xs, hxl, hxi, hxe, ho⟩, hg⟩
  generalize hv4 : σ 4 = v4 at ho
  have HXE := Lib.hid hxe
  have HXI := Lib.hid hxi
  have HXL := Lib.hid hxl
  have HO := Lib.hid ho
  have HG := Lib.hid hg
  clear hxe hxi ho hg hxl
  by_cases hlt : k < ps.length
  · obtain ⟨p, hp⟩ : ∃ p, ps[k]? = some p := ⟨_, List.getElem?_eq_getElem hlt⟩
    rcases HP.out with h | ⟨b, o, rfl, hc⟩
    · rw [h] at hlt; simp at hlt
    obtain ⟨g1, g2⟩ := hc k p hp
    have g1' := Keeps.of_below HG.out _ _ g1
    have g2' := Keeps.of_below HG.out _ _ g2
    have HST := Lib.hid (intsR_step ps k p xs hp HXE.out)
    have HTP := Lib.hid (HT.out p (List.mem_of_getElem? hp))
    have HNR := Lib.hid (numR_range p)
    obtain ⟨q, t⟩ := p
    have HNA := Lib.hid (number_any q t w1 HTP.out)
    simp only at g1' g2'
    generalize numR ⟨q, t⟩ = nr at *
    obtain ⟨n, bk⟩ := nr
    simp only at *
    clear g1 g2 hc hp
    cases bk with
    | false =>
      repeat' (first | with_reducible (first | refine wE_seq (fun K hK => ?_) | refine wE_block ?_ | refine wE_skip ?_ | refine wE_ret ?_ | refine wE_exit ?_) | ((with_reducible refine wE_region ?_ ?_); (kernel_rfl); simp only [ls, stripO]) | ((with_reducible refine wS_step (fun K hK => ?_)); simp [go_sem, lk, upd, envOf, stepS_value, stepS_skip, stepS_enter, ↓IntWalk.iteOmega, *]; (try go_ints); refine hK.out _ _ ?_; clear hK K) | ((with_reducible refine wS_unit (fun K hK => ?_)); simp [go_sem, lk, upd, envOf, stepS_value, stepS_skip, stepS_enter, ↓IntWalk.iteOmega, *]; (try go_ints); refine hK.out _ _ ?_; clear hK K) | ((with_reducible refine wS_skip ?_ ?_); (focus (simp [lk, upd, envOf, *]; done))) | ((with_reducible refine wS_want ?_ ?_); (focus (simp [lk, upd, envOf, *]; done))) | ((with_reducible refine wS_split (fun hc => ?_) (fun hc => ?_)) <;> simp [lk, upd, envOf, *] at hc <;> try (exfalso; omega)) | with_reducible refine wS_nil ?_ | simp only [thenE, blockE, ↓reduceIte, Nat.reduceEqDiff] | ((with_reducible refine hK.out _ _ ?_); clear hK K) | ((with_reducible refine wE_if ?_ (fun hc => ?_) (fun hc => ?_)); (focus (simp [lk, upd, envOf, *]; done)); all_goals (simp [lk, upd, envOf, *] at hc <;> try (exfalso; omega))) | (clear hK; clear K))
      (with_reducible refine wS_step (fun K hK => ?_)); simp [go_sem, lk, upd, envOf, stepS_value, stepS_skip, stepS_enter, ↓IntWalk.iteOmega, *]; (try go_ints); refine (HNA.out).mono ?_; rintro e w2 ⟨rfl, hg2⟩; refine ⟨_, rfl, hK.out _ _ ?_⟩; clear hK K
      have HG2 := Lib.hid (HG.out.trans hg2)
      clear hg2
      repeat' (first | with_reducible (first | refine wE_seq (fun K hK => ?_) | refine wE_block ?_ | refine wE_skip ?_ | refine wE_ret ?_ | refine wE_exit ?_) | ((with_reducible refine wE_region ?_ ?_); (kernel_rfl); simp only [ls, stripO]) | ((with_reducible refine wS_step (fun K hK => ?_)); simp [go_sem, lk, upd, envOf, stepS_value, stepS_skip, stepS_enter, ↓IntWalk.iteOmega, *]; (try go_ints); refine hK.out _ _ ?_; clear hK K) | ((with_reducible refine wS_unit (fun K hK => ?_)); simp [go_sem, lk, upd, envOf, stepS_value, stepS_skip, stepS_enter, ↓IntWalk.iteOmega, *]; (try go_ints); refine hK.out _ _ ?_; clear hK K) | ((with_reducible refine wS_skip ?_ ?_); (focus (simp [lk, upd, envOf, *]; done))) | ((with_reducible refine wS_want ?_ ?_); (focus (simp [lk, upd, envOf, *]; done))) | ((with_reducible refine wS_split (fun hc => ?_) (fun hc => ?_)) <;> simp [lk, upd, envOf, *] at hc <;> try (exfalso; omega)) | with_reducible refine wS_nil ?_ | simp only [thenE, blockE, ↓reduceIte, Nat.reduceEqDiff] | ((with_reducible refine hK.out _ _ ?_); clear hK K) | ((with_reducible refine wE_if ?_ (fun hc => ?_) (fun hc => ?_)); (focus (simp [lk, upd, envOf, *]; done)); all_goals (simp [lk, upd, envOf, *] at hc <;> try (exfalso; omega))) | (clear hK; clear K))
      refine endE_tmp2R rfl ⟨HG2.out, ?_⟩
      rw [HST.out]
      simp [upd]
    | true =>
      repeat' (first | with_reducible (first | refine wE_seq (fun K hK => ?_) | refine wE_block ?_ | refine wE_skip ?_ | refine wE_ret ?_ | refine wE_exit ?_) | ((with_reducible refine wE_region ?_ ?_); (kernel_rfl); simp only [ls, stripO]) | ((with_reducible refine wS_step (fun K hK => ?_)); simp [go_sem, lk, upd, envOf, stepS_value, stepS_skip, stepS_enter, ↓IntWalk.iteOmega, *]; (try go_ints); refine hK.out _ _ ?_; clear hK K) | ((with_reducible refine wS_unit (fun K hK => ?_)); simp [go_sem, lk, upd, envOf, stepS_value, stepS_skip, stepS_enter, ↓IntWalk.iteOmega, *]; (try go_ints); refine hK.out _ _ ?_; clear hK K) | ((with_reducible refine wS_skip ?_ ?_); (focus (simp [lk, upd, envOf, *]; done))) | ((with_reducible refine wS_want ?_ ?_); (focus (simp [lk, upd, envOf, *]; done))) | ((with_reducible refine wS_split (fun hc => ?_) (fun hc => ?_)) <;> simp [lk, upd, envOf, *] at hc <;> try (exfalso; omega)) | with_reducible refine wS_nil ?_ | simp only [thenE, blockE, ↓reduceIte, Nat.reduceEqDiff] | ((with_reducible refine hK.out _ _ ?_); clear hK K) | ((with_reducible refine wE_if ?_ (fun hc => ?_) (fun hc => ?_)); (focus (simp [lk, upd, envOf, *]; done)); all_goals (simp [lk, upd, envOf, *] at hc <;> try (exfalso; omega))) | (clear hK; clear K))
      (with_reducible refine wS_step (fun K hK => ?_)); simp [go_sem, lk, upd, envOf, stepS_value, stepS_skip, stepS_enter, ↓IntWalk.iteOmega, *]; (try go_ints); refine (HNA.out).mono ?_; rintro e w2 ⟨rfl, hg2⟩; refine ⟨_, rfl, hK.out _ _ ?_⟩; clear hK K
      have HG2 := Lib.hid (HG.out.trans hg2)
      obtain ⟨v', w3, hrun, hown3, hbel3⟩ := app_int w2 w.heap.size v4 xs n (own_grow HO.out hg2) (by have := HXL.out; omega) (by have := HG2.out.size; exact this)
      have HRN := Lib.hid hrun
      have HO3 := Lib.hid hown3
      have HG3 := Lib.hid (HG2.out.trans' hbel3)
      clear hg2 hrun hown3 hbel3
      repeat' (first | with_reducible (first | refine wE_seq (fun K hK => ?_) | refine wE_block ?_ | refine wE_skip ?_ | refine wE_ret ?_ | refine wE_exit ?_) | ((with_reducible refine wE_region ?_ ?_); (kernel_rfl); simp only [ls, stripO]) | ((with_reducible refine wS_step (fun K hK => ?_)); simp [go_sem, lk, upd, envOf, stepS_value, stepS_skip, stepS_enter, ↓IntWalk.iteOmega, *]; (try go_ints); refine hK.out _ _ ?_; clear hK K) | ((with_reducible refine wS_unit (fun K hK => ?_)); simp [go_sem, lk, upd, envOf, stepS_value, stepS_skip, stepS_enter, ↓IntWalk.iteOmega, *]; (try go_ints); refine hK.out _ _ ?_; clear hK K) | ((with_reducible refine wS_skip ?_ ?_); (focus (simp [lk, upd, envOf, *]; done))) | ((with_reducible refine wS_want ?_ ?_); (focus (simp [lk, upd, envOf, *]; done))) | ((with_reducible refine wS_split (fun hc => ?_) (fun hc => ?_)) <;> simp [lk, upd, envOf, *] at hc <;> try (exfalso; omega)) | with_reducible refine wS_nil ?_ | simp only [thenE, blockE, ↓reduceIte, Nat.reduceEqDiff] | ((with_reducible refine hK.out _ _ ?_); clear hK K) | ((with_reducible refine wE_if ?_ (fun hc => ?_) (fun hc => ?_)); (focus (simp [lk, upd, envOf, *]; done)); all_goals (simp [lk, upd, envOf, *] at hc <;> try (exfalso; omega))) | (clear hK; clear K))
      refine wS_append v4 (.slice (some ⟨w2.heap.size, 0, none⟩) 1 1) ?_ ?_ HRN.out ?_
      · simp [evalS_tmp, upd, *]
      · simp [evalS_tmp, upd]
      repeat' (first | with_reducible (first | refine wE_seq (fun K hK => ?_) | refine wE_block ?_ | refine wE_skip ?_ | refine wE_ret ?_ | refine wE_exit ?_) | ((with_reducible refine wE_region ?_ ?_); (kernel_rfl); simp only [ls, stripO]) | ((with_reducible refine wS_step (fun K hK => ?_)); simp [go_sem, lk, upd, envOf, stepS_value, stepS_skip, stepS_enter, ↓IntWalk.iteOmega, *]; (try go_ints); refine hK.out _ _ ?_; clear hK K) | ((with_reducible refine wS_unit (fun K hK => ?_)); simp [go_sem, lk, upd, envOf, stepS_value, stepS_skip, stepS_enter, ↓IntWalk.iteOmega, *]; (try go_ints); refine hK.out _ _ ?_; clear hK K) | ((with_reducible refine wS_skip ?_ ?_); (focus (simp [lk, upd, envOf, *]; done))) | ((with_reducible refine wS_want ?_ ?_); (focus (simp [lk, upd, envOf, *]; done))) | ((with_reducible refine wS_split (fun hc => ?_) (fun hc => ?_)) <;> simp [lk, upd, envOf, *] at hc <;> try (exfalso; omega)) | with_reducible refine wS_nil ?_ | simp only [thenE, blockE, ↓reduceIte, Nat.reduceEqDiff] | ((with_reducible refine hK.out _ _ ?_); clear hK K) | ((with_reducible refine wE_if ?_ (fun hc => ?_) (fun hc => ?_)); (focus (simp [lk, upd, envOf, *]; done)); all_goals (simp [lk, upd, envOf, *] at hc <;> try (exfalso; omega))) | (clear hK; clear K))
      have hxl := HXL.out
      refine ⟨k + 1, ⟨by omega, by simp [upd, *], by simp [upd], ⟨xs ++ [n], by simp; omega, ?_, ?_, ?_⟩, HG3.out⟩, by omega⟩
      · intro x hx
        rcases List.mem_append.1 hx with h | h
        · exact HXI.out x h
        · rw [List.mem_singleton.1 h]; exact HNR.out
      · rw [HST.out, if_pos rfl]
      · simpa [upd] using HO3.out
  · repeat' (first | with_reducible (first | refine wE_seq (fun K hK => ?_) | refine wE_block ?_ | refine wE_skip ?_ | refine wE_ret ?_ | refine wE_exit ?_) | ((with_reducible refine wE_region ?_ ?_); (kernel_rfl); simp only [ls, stripO]) | ((with_reducible refine wS_step (fun K hK => ?_)); simp [go_sem, lk, upd, envOf, stepS_value, stepS_skip, stepS_enter, ↓IntWalk.iteOmega, *]; (try go_ints); refine hK.out _ _ ?_; clear hK K) | ((with_reducible refine wS_unit (fun K hK => ?_)); simp [go_sem, lk, upd, envOf, stepS_value, stepS_skip, stepS_enter, ↓IntWalk.iteOmega, *]; (try go_ints); refine hK.out _ _ ?_; clear hK K) | ((with_reducible refine wS_skip ?_ ?_); (focus (simp [lk, upd, envOf, *]; done))) | ((with_reducible refine wS_want ?_ ?_); (focus (simp [lk, upd, envOf, *]; done))) | ((with_reducible refine wS_split (fun hc => ?_) (fun hc => ?_)) <;> simp [lk, upd, envOf, *] at hc <;> try (exfalso; omega)) | with_reducible refine wS_nil ?_ | simp only [thenE, blockE, ↓reduceIte, Nat.reduceEqDiff] | ((with_reducible refine hK.out _ _ ?_); clear hK K) | ((with_reducible refine wE_if ?_ (fun hc => ?_) (fun hc => ?_)); (focus (simp [lk, upd, envOf, *]; done)); all_goals (simp [lk, upd, envOf, *] at hc <;> try (exfalso; omega))) | (clear hK; clear K))
    have hkl : k = ps.length := by omega
    have he := HXE.out
    rw [List.drop_eq_nil_of_le (by omega)] at he
    obtain ⟨aa, cc, rfl, -⟩ := ints_own HO.out HXI.out
    refine endE_tmp2R rfl ⟨HG.out, ?_⟩
    rw [he]
    simp only [intsR, Option.map_some, List.append_nil]
    exact ⟨aa, xs.length, cc, by simp [upd, hv4], HO.out, HXI.out⟩
end Go.Proofs.YtglekdhdogjnoaaGreatDoor
