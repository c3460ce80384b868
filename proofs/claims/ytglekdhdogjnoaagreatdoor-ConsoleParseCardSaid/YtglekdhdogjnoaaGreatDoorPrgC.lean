/- The program's writer: text, number, files, picks. -/
import Derived.Test.YtglekdhdogjnoaaGreatDoorPrgB
namespace Go.Proofs.YtglekdhdogjnoaaGreatDoor
open Go.RowKit
set_option linter.unusedSimpArgs false
theorem grow_of (w : World) (k : Nat) (os : Array Obj) : Grow w (Sort.grow (w.drewN k) os) := by
  refine ⟨rfl, rfl, rfl, by simp [Sort.grow, World.drewN], fun i hi => ?_⟩
  show (w.heap ++ os)[i]? = w.heap[i]?
  rw [Array.getElem?_append_left hi]
theorem itoa_g (n : Int) (w : World) (hn : I64 n) (ht : Tab10 w) :
    Calls Tryz.prog 22 #[.int .i64 n] w fun e w' => e = .returned (.string (S (Lib.itoa n))) ∧ Grow w w' := by
  refine (Tryz.strconv_Itoa n hn.1 hn.2 w ht).mono ?_
  rintro e w' ⟨rfl, k, os, rfl⟩
  exact ⟨rfl, grow_of _ _ _⟩
set_option maxHeartbeats 1000000 in
theorem text_w (pw : Nat) (xs : List ByteArray) (o t : Bool) (v : Value) (s : ByteArray) (w : World) (h : WrAt w pw xs o t v) (hl : xs.length ≤ 100000) (hs : s.size ≤ 65536) :
    Calls Tryz.prog 29 #[.pointer (some ⟨pw, 0, none⟩), .string s] w fun e w' => e = .returned (.tuple #[]) ∧ ∃ v', WrAt w' pw (xs ++ [S (quoteL s.data.toList)]) o t v' ∧ WStep pw w w' := by
  have HW := Lib.hid h
  have hs' : ¬ (65536 : Int) < s.size := by omega
  clear h
  refine calls_of_wE Tryz.func29 rfl Tryz.ntmps29 (by simp) ?_
  repeat' (first | with_reducible (first | refine wE_seq (fun K hK => ?_) | refine wE_block ?_ | refine wE_skip ?_ | refine wE_ret ?_ | refine wE_exit ?_) | ((with_reducible refine wE_region ?_ ?_); (kernel_rfl); simp only [ls, stripO]) | ((with_reducible refine wS_step (fun K hK => ?_)); simp [go_sem, lk, upd, envOf, stepS_value, stepS_skip, stepS_enter, ↓IntWalk.iteOmega, *]; (try go_ints); refine hK.out _ _ ?_; clear hK K) | ((with_reducible refine wS_unit (fun K hK => ?_)); simp [go_sem, lk, upd, envOf, stepS_value, stepS_skip, stepS_enter, ↓IntWalk.iteOmega, *]; (try go_ints); refine hK.out _ _ ?_; clear hK K) | ((with_reducible refine wS_skip ?_ ?_); (focus (simp [lk, upd, envOf, *]; done))) | ((with_reducible refine wS_want ?_ ?_); (focus (simp [lk, upd, envOf, *]; done))) | ((with_reducible refine wS_split (fun hc => ?_) (fun hc => ?_)) <;> simp [lk, upd, envOf, *] at hc <;> try (exfalso; omega)) | with_reducible refine wS_nil ?_ | simp only [thenE, blockE, ↓reduceIte, Nat.reduceEqDiff] | ((with_reducible refine hK.out _ _ ?_); clear hK K) | ((with_reducible refine wE_if ?_ (fun hc => ?_) (fun hc => ?_)); (focus (simp [lk, upd, envOf, *]; done)); all_goals (simp [lk, upd, envOf, *] at hc <;> try (exfalso; omega))) | (clear hK; clear K))
  (with_reducible refine wS_step (fun K hK => ?_)); simp [go_sem, lk, upd, envOf, stepS_value, stepS_skip, stepS_enter, ↓IntWalk.iteOmega, *]; (try go_ints); refine (quote_any s _ (by omega)).mono ?_; rintro e w1 ⟨rfl, hb1⟩; refine ⟨_, rfl, hK.out _ _ ?_⟩; clear hK K
  have HW1 := Lib.hid (HW.out.grow hb1)
  have HS := Lib.hid (WStep.grow HW.out.lt hb1)
  clear hb1
  repeat' (first | with_reducible (first | refine wE_seq (fun K hK => ?_) | refine wE_block ?_ | refine wE_skip ?_ | refine wE_ret ?_ | refine wE_exit ?_) | ((with_reducible refine wE_region ?_ ?_); (kernel_rfl); simp only [ls, stripO]) | ((with_reducible refine wS_step (fun K hK => ?_)); simp [go_sem, lk, upd, envOf, stepS_value, stepS_skip, stepS_enter, ↓IntWalk.iteOmega, *]; (try go_ints); refine hK.out _ _ ?_; clear hK K) | ((with_reducible refine wS_unit (fun K hK => ?_)); simp [go_sem, lk, upd, envOf, stepS_value, stepS_skip, stepS_enter, ↓IntWalk.iteOmega, *]; (try go_ints); refine hK.out _ _ ?_; clear hK K) | ((with_reducible refine wS_skip ?_ ?_); (focus (simp [lk, upd, envOf, *]; done))) | ((with_reducible refine wS_want ?_ ?_); (focus (simp [lk, upd, envOf, *]; done))) | ((with_reducible refine wS_split (fun hc => ?_) (fun hc => ?_)) <;> simp [lk, upd, envOf, *] at hc <;> try (exfalso; omega)) | with_reducible refine wS_nil ?_ | simp only [thenE, blockE, ↓reduceIte, Nat.reduceEqDiff] | ((with_reducible refine hK.out _ _ ?_); clear hK K) | ((with_reducible refine wE_if ?_ (fun hc => ?_) (fun hc => ?_)); (focus (simp [lk, upd, envOf, *]; done)); all_goals (simp [lk, upd, envOf, *] at hc <;> try (exfalso; omega))) | (clear hK; clear K))
  (with_reducible refine wS_step (fun K hK => ?_)); simp [go_sem, lk, upd, envOf, stepS_value, stepS_skip, stepS_enter, ↓IntWalk.iteOmega, *]; (try go_ints); refine (word_w pw xs o t v _ _ HW1.out hl).mono ?_; rintro e w2 ⟨rfl, v', hw2, hs2⟩; refine ⟨_, rfl, hK.out _ _ ?_⟩; clear hK K
  have HW2 := Lib.hid hw2
  have HS2 := Lib.hid (HS.out.trans hs2)
  clear hw2 hs2
  repeat' (first | with_reducible (first | refine wE_seq (fun K hK => ?_) | refine wE_block ?_ | refine wE_skip ?_ | refine wE_ret ?_ | refine wE_exit ?_) | ((with_reducible refine wE_region ?_ ?_); (kernel_rfl); simp only [ls, stripO]) | ((with_reducible refine wS_step (fun K hK => ?_)); simp [go_sem, lk, upd, envOf, stepS_value, stepS_skip, stepS_enter, ↓IntWalk.iteOmega, *]; (try go_ints); refine hK.out _ _ ?_; clear hK K) | ((with_reducible refine wS_unit (fun K hK => ?_)); simp [go_sem, lk, upd, envOf, stepS_value, stepS_skip, stepS_enter, ↓IntWalk.iteOmega, *]; (try go_ints); refine hK.out _ _ ?_; clear hK K) | ((with_reducible refine wS_skip ?_ ?_); (focus (simp [lk, upd, envOf, *]; done))) | ((with_reducible refine wS_want ?_ ?_); (focus (simp [lk, upd, envOf, *]; done))) | ((with_reducible refine wS_split (fun hc => ?_) (fun hc => ?_)) <;> simp [lk, upd, envOf, *] at hc <;> try (exfalso; omega)) | with_reducible refine wS_nil ?_ | simp only [thenE, blockE, ↓reduceIte, Nat.reduceEqDiff] | ((with_reducible refine hK.out _ _ ?_); clear hK K) | ((with_reducible refine wE_if ?_ (fun hc => ?_) (fun hc => ?_)); (focus (simp [lk, upd, envOf, *]; done)); all_goals (simp [lk, upd, envOf, *] at hc <;> try (exfalso; omega))) | (clear hK; clear K))
  exact endE_none rfl ⟨rfl, v', HW2.out, HS2.out⟩
/-- A block that the writer does not touch. -/
def Aside (w : World) (pw : Nat) (va : Value) : Prop := ∀ b o n c, va = .slice (some ⟨b, o, none⟩) n c → n = 0 ∨ (b < w.heap.size ∧ b ≠ pw ∧ rowOf w pw ≠ some b)
theorem Aside.step {w w' : World} {pw : Nat} {va : Value} (h : Aside w pw va) (s : WStep pw w w') : Aside w' pw va := by
  intro b o n c e
  rcases h b o n c e with h | ⟨h1, h2, h3⟩
  · exact .inl h
  · exact .inr ⟨Nat.lt_of_lt_of_le h1 s.size, h2, fun e => by rcases s.row b e with e | e; exact h3 e; omega⟩
theorem IntsAt.step {w w' : World} {pw : Nat} {va : Value} {ns : List Int} (h : IntsAt w va ns) (ha : Aside w pw va) (s : WStep pw w w') : IntsAt w' va ns := by
  obtain ⟨a, c, rfl, h2, h3, h4⟩ := h
  refine ⟨a, c, rfl, h2, h3, ?_⟩
  rcases h4 with h4 | ⟨b, o, rfl, hc⟩
  · exact .inl h4
  · rcases ha b o _ _ rfl with h | ⟨h1, h2, h3⟩
    · exact .inl (List.eq_nil_of_length_eq_zero h)
    · exact .inr ⟨b, o, rfl, fun j x hj => by rw [World.cell?_of_block (w := w) (a := ⟨b, o + j, none⟩) (s.block b h1 h2 h3)]; exact hc j x hj⟩
theorem FilesAt.step {w w' : World} {pw : Nat} {va : Value} {fs : List File} (h : FilesAt w va fs) (ha : Aside w pw va) (s : WStep pw w w') : FilesAt w' va fs := by
  obtain ⟨a, c, rfl, h2, h4⟩ := h
  refine ⟨a, c, rfl, h2, ?_⟩
  rcases h4 with h4 | ⟨b, o, rfl, hc⟩
  · exact .inl h4
  · rcases ha b o _ _ rfl with h | ⟨h1, h2, h3⟩
    · exact .inl (List.eq_nil_of_length_eq_zero h)
    · exact .inr ⟨b, o, rfl, fun j x hj => ⟨by rw [World.cell?_of_block (w := w) (a := ⟨b, o + j * 2, none⟩) (s.block b h1 h2 h3)]; exact (hc j x hj).1, by rw [World.cell?_of_block (w := w) (a := ⟨b, o + j * 2 + 1, none⟩) (s.block b h1 h2 h3)]; exact (hc j x hj).2⟩⟩
def itoaS (n : Int) : ByteArray := S (Lib.itoa n)
theorem map_take_succ {α β : Type} (f : α → β) (l : List α) (k : Nat) (x : α) (h : l[k]? = some x) : (l.take (k + 1)).map f = (l.take k).map f ++ [f x] := by
  rw [List.take_add_one, h]; simp
/-- A mark of the writer is set. -/
theorem mark1 {w : World} {pw : Nat} {xs : List ByteArray} {o t : Bool} {v : Value} (h : WrAt w pw xs o t v) : WrAt (w.setCell ⟨pw, 1, none⟩ (.bool true)) pw xs true t v ∧ WStep pw w (w.setCell ⟨pw, 1, none⟩ (.bool true)) := by
  have hc := heap_setCell_same w pw 1 _ _ (.bool true) h.cell
  refine ⟨⟨hc, ownsRow_setCell_below h.own (Nat.lt_succ_self _) _⟩, ⟨rfl, rfl, rfl, by simp [World.setCell], fun k _ hp _ => heap_setCell_other _ _ _ _ hp, fun k hk => .inl ?_⟩⟩
  unfold rowOf at *
  rw [hc] at hk
  rw [h.cell]
  exact hk
set_option maxHeartbeats 2000000 in
theorem number_w (pw : Nat) (xs : List ByteArray) (o t : Bool) (v va : Value) (ns : List Int) (w : World) (h : WrAt w pw xs o t v) (ht : Tab10 w) (hp : 1 < pw) (hl : xs.length + ns.length ≤ 100000) (hv : IntsAt w va ns) (hav : Aside w pw va) :
    Calls Tryz.prog 30 #[.pointer (some ⟨pw, 0, none⟩), va] w fun e w' => e = .returned (.tuple #[]) ∧ ∃ v', WrAt w' pw (xs ++ ns.map itoaS) (o || ns.any largeB) t v' ∧ WStep pw w w' := by
  obtain ⟨a, c, rfl, hc, hr, hcell⟩ := hv
  have HW := Lib.hid h
  have HT := Lib.hid ht
  have HR := Lib.hid hr
  have HC := Lib.hid hcell
  have HA := Lib.hid hav
  clear h ht hr hcell hav
  refine calls_of_wE Tryz.func30 rfl Tryz.ntmps30 (by simp) ?_
  repeat' (first | with_reducible (first | refine wE_seq (fun K hK => ?_) | refine wE_block ?_ | refine wE_skip ?_ | refine wE_ret ?_ | refine wE_exit ?_) | ((with_reducible refine wE_region ?_ ?_); (kernel_rfl); simp only [ls, stripO]) | ((with_reducible refine wS_step (fun K hK => ?_)); simp [go_sem, lk, upd, envOf, stepS_value, stepS_skip, stepS_enter, ↓IntWalk.iteOmega, *]; (try go_ints); refine hK.out _ _ ?_; clear hK K) | ((with_reducible refine wS_unit (fun K hK => ?_)); simp [go_sem, lk, upd, envOf, stepS_value, stepS_skip, stepS_enter, ↓IntWalk.iteOmega, *]; (try go_ints); refine hK.out _ _ ?_; clear hK K) | ((with_reducible refine wS_skip ?_ ?_); (focus (simp [lk, upd, envOf, *]; done))) | ((with_reducible refine wS_want ?_ ?_); (focus (simp [lk, upd, envOf, *]; done))) | ((with_reducible refine wS_split (fun hc => ?_) (fun hc => ?_)) <;> simp [lk, upd, envOf, *] at hc <;> try (exfalso; omega)) | with_reducible refine wS_nil ?_ | simp only [thenE, blockE, ↓reduceIte, Nat.reduceEqDiff] | ((with_reducible refine hK.out _ _ ?_); clear hK K) | ((with_reducible refine wE_if ?_ (fun hc => ?_) (fun hc => ?_)); (focus (simp [lk, upd, envOf, *]; done)); all_goals (simp [lk, upd, envOf, *] at hc <;> try (exfalso; omega))) | (clear hK; clear K))
  refine wE_loop (fun (k : Nat) σ w' => k ≤ ns.length ∧ σ 0 = .pointer (some ⟨pw, 0, none⟩) ∧ σ 6 = .slice a ns.length c ∧ σ 7 = .int .i64 ns.length ∧ σ 8 = .int .i64 k ∧ ∃ v', WrAt w' pw (xs ++ (ns.take k).map itoaS) (o || (ns.take k).any largeB) t v' ∧ WStep pw w w' ∧ Tab10 w') (fun k => ns.length - k) 0 ?_ ?_
  · refine ⟨by omega, by simp [upd, envOf], by simp [upd], by simp [upd], by simp [upd], v, by simpa using HW.out, WStep.refl _ _, HT.out⟩
  rintro k σ w' ⟨hk, h0, h6, h7, h8, v', hw, hst, htb⟩
  have HW' := Lib.hid hw
  have HS' := Lib.hid hst
  have HT' := Lib.hid htb
  clear hw hst htb
  by_cases hlt : k < ns.length
  · obtain ⟨x, hx⟩ : ∃ x, ns[k]? = some x := ⟨_, List.getElem?_eq_getElem hlt⟩
    rcases HC.out with h | ⟨b, off, rfl, hcell⟩
    · rw [h] at hlt; simp at hlt
    obtain ⟨hb0, hb1, hb2⟩ := (HA.out b off _ _ rfl).resolve_left (by omega)
    clear hb0
    have hcx : w'.cell? ⟨b, off + k, none⟩ = some (.int .i64 x) := by
      have h1 := hcell k x hx
      rw [World.cell?_of_block (w := w) (a := ⟨b, off + k, none⟩) (HS'.out.block b (World.block_lt_of_cell? w _ h1) hb1 hb2)]; exact h1
    have HX := Lib.hid (HR.out x (List.mem_of_getElem? hx))
    have HM := Lib.hid (map_take_succ itoaS ns k x hx)
    have HN := Lib.hid (any_take_succ largeB ns k x hx)
    clear hx hcell hb1 hb2
    have hlen : (xs ++ (ns.take k).map itoaS).length ≤ 100000 := by simp; omega
    by_cases hlg : x < -1099511627776 ∨ 1099511627776 < x
    · have HL := Lib.hid (show largeB x = true by simp [largeB]; omega)
      obtain ⟨m1, m2⟩ := mark1 HW'.out
      have HM1 := Lib.hid m1
      have HM2 := Lib.hid m2
      have HMT := Lib.hid (HT'.out.step HW'.out hp m2)
      have fw : w'.frozen? ⟨pw, 1, none⟩ = false := frozen_of_row w' pw 1 _ _ HW'.out.cell
      have cw : w'.cell? ⟨pw, 1, none⟩ = some (.bool (o || (ns.take k).any largeB)) := by rw [cell_of_row w' pw 1 _ _ _ HW'.out.cell]; rfl
      clear m1 m2
      rcases hlg with hlg | hlg
      · repeat' (first | with_reducible (first | refine wE_seq (fun K hK => ?_) | refine wE_block ?_ | refine wE_skip ?_ | refine wE_ret ?_ | refine wE_exit ?_) | ((with_reducible refine wE_region ?_ ?_); (kernel_rfl); simp only [ls, stripO]) | ((with_reducible refine wS_step (fun K hK => ?_)); simp [go_sem, lk, upd, envOf, stepS_value, stepS_skip, stepS_enter, ↓IntWalk.iteOmega, *]; (try go_ints); refine hK.out _ _ ?_; clear hK K) | ((with_reducible refine wS_unit (fun K hK => ?_)); simp [go_sem, lk, upd, envOf, stepS_value, stepS_skip, stepS_enter, ↓IntWalk.iteOmega, *]; (try go_ints); refine hK.out _ _ ?_; clear hK K) | ((with_reducible refine wS_skip ?_ ?_); (focus (simp [lk, upd, envOf, *]; done))) | ((with_reducible refine wS_want ?_ ?_); (focus (simp [lk, upd, envOf, *]; done))) | ((with_reducible refine wS_split (fun hc => ?_) (fun hc => ?_)) <;> simp [lk, upd, envOf, *] at hc <;> try (exfalso; omega)) | with_reducible refine wS_nil ?_ | simp only [thenE, blockE, ↓reduceIte, Nat.reduceEqDiff] | ((with_reducible refine hK.out _ _ ?_); clear hK K) | ((with_reducible refine wE_if ?_ (fun hc => ?_) (fun hc => ?_)); (focus (simp [lk, upd, envOf, *]; done)); all_goals (simp [lk, upd, envOf, *] at hc <;> try (exfalso; omega))) | (clear hK; clear K))
        generalize w'.setCell ⟨pw, 1, none⟩ (.bool true) = wm at *
        have HSM := Lib.hid (HS'.out.trans HM2.out)
        (with_reducible refine wS_step (fun K hK => ?_)); simp [go_sem, lk, upd, envOf, stepS_value, stepS_skip, stepS_enter, ↓IntWalk.iteOmega, *]; (try go_ints); refine (itoa_g x _ HX.out HMT.out).mono ?_; rintro e w1 ⟨rfl, hg⟩; refine ⟨_, rfl, hK.out _ _ ?_⟩; clear hK K
        have HW1 := Lib.hid (HM1.out.grow hg)
        have HS1 := Lib.hid (HSM.out.trans (WStep.grow HM1.out.lt hg))
        have HT1 := Lib.hid (HMT.out.grow hg)
        clear hg
        repeat' (first | with_reducible (first | refine wE_seq (fun K hK => ?_) | refine wE_block ?_ | refine wE_skip ?_ | refine wE_ret ?_ | refine wE_exit ?_) | ((with_reducible refine wE_region ?_ ?_); (kernel_rfl); simp only [ls, stripO]) | ((with_reducible refine wS_step (fun K hK => ?_)); simp [go_sem, lk, upd, envOf, stepS_value, stepS_skip, stepS_enter, ↓IntWalk.iteOmega, *]; (try go_ints); refine hK.out _ _ ?_; clear hK K) | ((with_reducible refine wS_unit (fun K hK => ?_)); simp [go_sem, lk, upd, envOf, stepS_value, stepS_skip, stepS_enter, ↓IntWalk.iteOmega, *]; (try go_ints); refine hK.out _ _ ?_; clear hK K) | ((with_reducible refine wS_skip ?_ ?_); (focus (simp [lk, upd, envOf, *]; done))) | ((with_reducible refine wS_want ?_ ?_); (focus (simp [lk, upd, envOf, *]; done))) | ((with_reducible refine wS_split (fun hc => ?_) (fun hc => ?_)) <;> simp [lk, upd, envOf, *] at hc <;> try (exfalso; omega)) | with_reducible refine wS_nil ?_ | simp only [thenE, blockE, ↓reduceIte, Nat.reduceEqDiff] | ((with_reducible refine hK.out _ _ ?_); clear hK K) | ((with_reducible refine wE_if ?_ (fun hc => ?_) (fun hc => ?_)); (focus (simp [lk, upd, envOf, *]; done)); all_goals (simp [lk, upd, envOf, *] at hc <;> try (exfalso; omega))) | (clear hK; clear K))
        (with_reducible refine wS_step (fun K hK => ?_)); simp [go_sem, lk, upd, envOf, stepS_value, stepS_skip, stepS_enter, ↓IntWalk.iteOmega, *]; (try go_ints); refine (word_w pw _ _ _ _ _ _ HW1.out hlen).mono ?_; rintro e w2 ⟨rfl, v2, hw2, hs2⟩; refine ⟨_, rfl, hK.out _ _ ?_⟩; clear hK K
        have HW2 := Lib.hid hw2
        have HS2 := Lib.hid (HS1.out.trans hs2)
        have HT2 := Lib.hid (HT1.out.step HW1.out hp hs2)
        clear hw2 hs2
        repeat' (first | with_reducible (first | refine wE_seq (fun K hK => ?_) | refine wE_block ?_ | refine wE_skip ?_ | refine wE_ret ?_ | refine wE_exit ?_) | ((with_reducible refine wE_region ?_ ?_); (kernel_rfl); simp only [ls, stripO]) | ((with_reducible refine wS_step (fun K hK => ?_)); simp [go_sem, lk, upd, envOf, stepS_value, stepS_skip, stepS_enter, ↓IntWalk.iteOmega, *]; (try go_ints); refine hK.out _ _ ?_; clear hK K) | ((with_reducible refine wS_unit (fun K hK => ?_)); simp [go_sem, lk, upd, envOf, stepS_value, stepS_skip, stepS_enter, ↓IntWalk.iteOmega, *]; (try go_ints); refine hK.out _ _ ?_; clear hK K) | ((with_reducible refine wS_skip ?_ ?_); (focus (simp [lk, upd, envOf, *]; done))) | ((with_reducible refine wS_want ?_ ?_); (focus (simp [lk, upd, envOf, *]; done))) | ((with_reducible refine wS_split (fun hc => ?_) (fun hc => ?_)) <;> simp [lk, upd, envOf, *] at hc <;> try (exfalso; omega)) | with_reducible refine wS_nil ?_ | simp only [thenE, blockE, ↓reduceIte, Nat.reduceEqDiff] | ((with_reducible refine hK.out _ _ ?_); clear hK K) | ((with_reducible refine wE_if ?_ (fun hc => ?_) (fun hc => ?_)); (focus (simp [lk, upd, envOf, *]; done)); all_goals (simp [lk, upd, envOf, *] at hc <;> try (exfalso; omega))) | (clear hK; clear K))
        refine ⟨k + 1, ⟨by omega, by simp [upd, *], by simp [upd, *], by simp [upd, *], by simp [upd], v2, ?_, HS2.out, HT2.out⟩, by omega⟩
        have hw := HW2.out
        rw [HM.out, HN.out, HL.out]
        simpa [itoaS] using hw
      · have hlg' : ¬ x < -1099511627776 := by omega
        repeat' (first | with_reducible (first | refine wE_seq (fun K hK => ?_) | refine wE_block ?_ | refine wE_skip ?_ | refine wE_ret ?_ | refine wE_exit ?_) | ((with_reducible refine wE_region ?_ ?_); (kernel_rfl); simp only [ls, stripO]) | ((with_reducible refine wS_step (fun K hK => ?_)); simp [go_sem, lk, upd, envOf, stepS_value, stepS_skip, stepS_enter, ↓IntWalk.iteOmega, *]; (try go_ints); refine hK.out _ _ ?_; clear hK K) | ((with_reducible refine wS_unit (fun K hK => ?_)); simp [go_sem, lk, upd, envOf, stepS_value, stepS_skip, stepS_enter, ↓IntWalk.iteOmega, *]; (try go_ints); refine hK.out _ _ ?_; clear hK K) | ((with_reducible refine wS_skip ?_ ?_); (focus (simp [lk, upd, envOf, *]; done))) | ((with_reducible refine wS_want ?_ ?_); (focus (simp [lk, upd, envOf, *]; done))) | ((with_reducible refine wS_split (fun hc => ?_) (fun hc => ?_)) <;> simp [lk, upd, envOf, *] at hc <;> try (exfalso; omega)) | with_reducible refine wS_nil ?_ | simp only [thenE, blockE, ↓reduceIte, Nat.reduceEqDiff] | ((with_reducible refine hK.out _ _ ?_); clear hK K) | ((with_reducible refine wE_if ?_ (fun hc => ?_) (fun hc => ?_)); (focus (simp [lk, upd, envOf, *]; done)); all_goals (simp [lk, upd, envOf, *] at hc <;> try (exfalso; omega))) | (clear hK; clear K))
        generalize w'.setCell ⟨pw, 1, none⟩ (.bool true) = wm at *
        have HSM := Lib.hid (HS'.out.trans HM2.out)
        (with_reducible refine wS_step (fun K hK => ?_)); simp [go_sem, lk, upd, envOf, stepS_value, stepS_skip, stepS_enter, ↓IntWalk.iteOmega, *]; (try go_ints); refine (itoa_g x _ HX.out HMT.out).mono ?_; rintro e w1 ⟨rfl, hg⟩; refine ⟨_, rfl, hK.out _ _ ?_⟩; clear hK K
        have HW1 := Lib.hid (HM1.out.grow hg)
        have HS1 := Lib.hid (HSM.out.trans (WStep.grow HM1.out.lt hg))
        have HT1 := Lib.hid (HMT.out.grow hg)
        clear hg
        repeat' (first | with_reducible (first | refine wE_seq (fun K hK => ?_) | refine wE_block ?_ | refine wE_skip ?_ | refine wE_ret ?_ | refine wE_exit ?_) | ((with_reducible refine wE_region ?_ ?_); (kernel_rfl); simp only [ls, stripO]) | ((with_reducible refine wS_step (fun K hK => ?_)); simp [go_sem, lk, upd, envOf, stepS_value, stepS_skip, stepS_enter, ↓IntWalk.iteOmega, *]; (try go_ints); refine hK.out _ _ ?_; clear hK K) | ((with_reducible refine wS_unit (fun K hK => ?_)); simp [go_sem, lk, upd, envOf, stepS_value, stepS_skip, stepS_enter, ↓IntWalk.iteOmega, *]; (try go_ints); refine hK.out _ _ ?_; clear hK K) | ((with_reducible refine wS_skip ?_ ?_); (focus (simp [lk, upd, envOf, *]; done))) | ((with_reducible refine wS_want ?_ ?_); (focus (simp [lk, upd, envOf, *]; done))) | ((with_reducible refine wS_split (fun hc => ?_) (fun hc => ?_)) <;> simp [lk, upd, envOf, *] at hc <;> try (exfalso; omega)) | with_reducible refine wS_nil ?_ | simp only [thenE, blockE, ↓reduceIte, Nat.reduceEqDiff] | ((with_reducible refine hK.out _ _ ?_); clear hK K) | ((with_reducible refine wE_if ?_ (fun hc => ?_) (fun hc => ?_)); (focus (simp [lk, upd, envOf, *]; done)); all_goals (simp [lk, upd, envOf, *] at hc <;> try (exfalso; omega))) | (clear hK; clear K))
        (with_reducible refine wS_step (fun K hK => ?_)); simp [go_sem, lk, upd, envOf, stepS_value, stepS_skip, stepS_enter, ↓IntWalk.iteOmega, *]; (try go_ints); refine (word_w pw _ _ _ _ _ _ HW1.out hlen).mono ?_; rintro e w2 ⟨rfl, v2, hw2, hs2⟩; refine ⟨_, rfl, hK.out _ _ ?_⟩; clear hK K
        have HW2 := Lib.hid hw2
        have HS2 := Lib.hid (HS1.out.trans hs2)
        have HT2 := Lib.hid (HT1.out.step HW1.out hp hs2)
        clear hw2 hs2
        repeat' (first | with_reducible (first | refine wE_seq (fun K hK => ?_) | refine wE_block ?_ | refine wE_skip ?_ | refine wE_ret ?_ | refine wE_exit ?_) | ((with_reducible refine wE_region ?_ ?_); (kernel_rfl); simp only [ls, stripO]) | ((with_reducible refine wS_step (fun K hK => ?_)); simp [go_sem, lk, upd, envOf, stepS_value, stepS_skip, stepS_enter, ↓IntWalk.iteOmega, *]; (try go_ints); refine hK.out _ _ ?_; clear hK K) | ((with_reducible refine wS_unit (fun K hK => ?_)); simp [go_sem, lk, upd, envOf, stepS_value, stepS_skip, stepS_enter, ↓IntWalk.iteOmega, *]; (try go_ints); refine hK.out _ _ ?_; clear hK K) | ((with_reducible refine wS_skip ?_ ?_); (focus (simp [lk, upd, envOf, *]; done))) | ((with_reducible refine wS_want ?_ ?_); (focus (simp [lk, upd, envOf, *]; done))) | ((with_reducible refine wS_split (fun hc => ?_) (fun hc => ?_)) <;> simp [lk, upd, envOf, *] at hc <;> try (exfalso; omega)) | with_reducible refine wS_nil ?_ | simp only [thenE, blockE, ↓reduceIte, Nat.reduceEqDiff] | ((with_reducible refine hK.out _ _ ?_); clear hK K) | ((with_reducible refine wE_if ?_ (fun hc => ?_) (fun hc => ?_)); (focus (simp [lk, upd, envOf, *]; done)); all_goals (simp [lk, upd, envOf, *] at hc <;> try (exfalso; omega))) | (clear hK; clear K))
        refine ⟨k + 1, ⟨by omega, by simp [upd, *], by simp [upd, *], by simp [upd, *], by simp [upd], v2, ?_, HS2.out, HT2.out⟩, by omega⟩
        have hw := HW2.out
        rw [HM.out, HN.out, HL.out]
        simpa [itoaS] using hw
    · have h1 : ¬ x < -1099511627776 := by omega
      have h2 : ¬ 1099511627776 < x := by omega
      have HL := Lib.hid (show largeB x = false by simp [largeB]; omega)
      clear hlg
      repeat' (first | with_reducible (first | refine wE_seq (fun K hK => ?_) | refine wE_block ?_ | refine wE_skip ?_ | refine wE_ret ?_ | refine wE_exit ?_) | ((with_reducible refine wE_region ?_ ?_); (kernel_rfl); simp only [ls, stripO]) | ((with_reducible refine wS_step (fun K hK => ?_)); simp [go_sem, lk, upd, envOf, stepS_value, stepS_skip, stepS_enter, ↓IntWalk.iteOmega, *]; (try go_ints); refine hK.out _ _ ?_; clear hK K) | ((with_reducible refine wS_unit (fun K hK => ?_)); simp [go_sem, lk, upd, envOf, stepS_value, stepS_skip, stepS_enter, ↓IntWalk.iteOmega, *]; (try go_ints); refine hK.out _ _ ?_; clear hK K) | ((with_reducible refine wS_skip ?_ ?_); (focus (simp [lk, upd, envOf, *]; done))) | ((with_reducible refine wS_want ?_ ?_); (focus (simp [lk, upd, envOf, *]; done))) | ((with_reducible refine wS_split (fun hc => ?_) (fun hc => ?_)) <;> simp [lk, upd, envOf, *] at hc <;> try (exfalso; omega)) | with_reducible refine wS_nil ?_ | simp only [thenE, blockE, ↓reduceIte, Nat.reduceEqDiff] | ((with_reducible refine hK.out _ _ ?_); clear hK K) | ((with_reducible refine wE_if ?_ (fun hc => ?_) (fun hc => ?_)); (focus (simp [lk, upd, envOf, *]; done)); all_goals (simp [lk, upd, envOf, *] at hc <;> try (exfalso; omega))) | (clear hK; clear K))
      (with_reducible refine wS_step (fun K hK => ?_)); simp [go_sem, lk, upd, envOf, stepS_value, stepS_skip, stepS_enter, ↓IntWalk.iteOmega, *]; (try go_ints); refine (itoa_g x _ HX.out HT'.out).mono ?_; rintro e w1 ⟨rfl, hg⟩; refine ⟨_, rfl, hK.out _ _ ?_⟩; clear hK K
      have HW1 := Lib.hid (HW'.out.grow hg)
      have HS1 := Lib.hid (HS'.out.trans (WStep.grow HW'.out.lt hg))
      have HT1 := Lib.hid (HT'.out.grow hg)
      clear hg
      repeat' (first | with_reducible (first | refine wE_seq (fun K hK => ?_) | refine wE_block ?_ | refine wE_skip ?_ | refine wE_ret ?_ | refine wE_exit ?_) | ((with_reducible refine wE_region ?_ ?_); (kernel_rfl); simp only [ls, stripO]) | ((with_reducible refine wS_step (fun K hK => ?_)); simp [go_sem, lk, upd, envOf, stepS_value, stepS_skip, stepS_enter, ↓IntWalk.iteOmega, *]; (try go_ints); refine hK.out _ _ ?_; clear hK K) | ((with_reducible refine wS_unit (fun K hK => ?_)); simp [go_sem, lk, upd, envOf, stepS_value, stepS_skip, stepS_enter, ↓IntWalk.iteOmega, *]; (try go_ints); refine hK.out _ _ ?_; clear hK K) | ((with_reducible refine wS_skip ?_ ?_); (focus (simp [lk, upd, envOf, *]; done))) | ((with_reducible refine wS_want ?_ ?_); (focus (simp [lk, upd, envOf, *]; done))) | ((with_reducible refine wS_split (fun hc => ?_) (fun hc => ?_)) <;> simp [lk, upd, envOf, *] at hc <;> try (exfalso; omega)) | with_reducible refine wS_nil ?_ | simp only [thenE, blockE, ↓reduceIte, Nat.reduceEqDiff] | ((with_reducible refine hK.out _ _ ?_); clear hK K) | ((with_reducible refine wE_if ?_ (fun hc => ?_) (fun hc => ?_)); (focus (simp [lk, upd, envOf, *]; done)); all_goals (simp [lk, upd, envOf, *] at hc <;> try (exfalso; omega))) | (clear hK; clear K))
      (with_reducible refine wS_step (fun K hK => ?_)); simp [go_sem, lk, upd, envOf, stepS_value, stepS_skip, stepS_enter, ↓IntWalk.iteOmega, *]; (try go_ints); refine (word_w pw _ _ _ _ _ _ HW1.out hlen).mono ?_; rintro e w2 ⟨rfl, v2, hw2, hs2⟩; refine ⟨_, rfl, hK.out _ _ ?_⟩; clear hK K
      have HW2 := Lib.hid hw2
      have HS2 := Lib.hid (HS1.out.trans hs2)
      have HT2 := Lib.hid (HT1.out.step HW1.out hp hs2)
      clear hw2 hs2
      repeat' (first | with_reducible (first | refine wE_seq (fun K hK => ?_) | refine wE_block ?_ | refine wE_skip ?_ | refine wE_ret ?_ | refine wE_exit ?_) | ((with_reducible refine wE_region ?_ ?_); (kernel_rfl); simp only [ls, stripO]) | ((with_reducible refine wS_step (fun K hK => ?_)); simp [go_sem, lk, upd, envOf, stepS_value, stepS_skip, stepS_enter, ↓IntWalk.iteOmega, *]; (try go_ints); refine hK.out _ _ ?_; clear hK K) | ((with_reducible refine wS_unit (fun K hK => ?_)); simp [go_sem, lk, upd, envOf, stepS_value, stepS_skip, stepS_enter, ↓IntWalk.iteOmega, *]; (try go_ints); refine hK.out _ _ ?_; clear hK K) | ((with_reducible refine wS_skip ?_ ?_); (focus (simp [lk, upd, envOf, *]; done))) | ((with_reducible refine wS_want ?_ ?_); (focus (simp [lk, upd, envOf, *]; done))) | ((with_reducible refine wS_split (fun hc => ?_) (fun hc => ?_)) <;> simp [lk, upd, envOf, *] at hc <;> try (exfalso; omega)) | with_reducible refine wS_nil ?_ | simp only [thenE, blockE, ↓reduceIte, Nat.reduceEqDiff] | ((with_reducible refine hK.out _ _ ?_); clear hK K) | ((with_reducible refine wE_if ?_ (fun hc => ?_) (fun hc => ?_)); (focus (simp [lk, upd, envOf, *]; done)); all_goals (simp [lk, upd, envOf, *] at hc <;> try (exfalso; omega))) | (clear hK; clear K))
      refine ⟨k + 1, ⟨by omega, by simp [upd, *], by simp [upd, *], by simp [upd, *], by simp [upd], v2, ?_, HS2.out, HT2.out⟩, by omega⟩
      have hw := HW2.out
      rw [HM.out, HN.out, HL.out]
      simpa [itoaS] using hw
  · have HEQ := Lib.hid (show ns.take k = ns from List.take_of_length_le (by omega))
    repeat' (first | with_reducible (first | refine wE_seq (fun K hK => ?_) | refine wE_block ?_ | refine wE_skip ?_ | refine wE_ret ?_ | refine wE_exit ?_) | ((with_reducible refine wE_region ?_ ?_); (kernel_rfl); simp only [ls, stripO]) | ((with_reducible refine wS_step (fun K hK => ?_)); simp [go_sem, lk, upd, envOf, stepS_value, stepS_skip, stepS_enter, ↓IntWalk.iteOmega, *]; (try go_ints); refine hK.out _ _ ?_; clear hK K) | ((with_reducible refine wS_unit (fun K hK => ?_)); simp [go_sem, lk, upd, envOf, stepS_value, stepS_skip, stepS_enter, ↓IntWalk.iteOmega, *]; (try go_ints); refine hK.out _ _ ?_; clear hK K) | ((with_reducible refine wS_skip ?_ ?_); (focus (simp [lk, upd, envOf, *]; done))) | ((with_reducible refine wS_want ?_ ?_); (focus (simp [lk, upd, envOf, *]; done))) | ((with_reducible refine wS_split (fun hc => ?_) (fun hc => ?_)) <;> simp [lk, upd, envOf, *] at hc <;> try (exfalso; omega)) | with_reducible refine wS_nil ?_ | simp only [thenE, blockE, ↓reduceIte, Nat.reduceEqDiff] | ((with_reducible refine hK.out _ _ ?_); clear hK K) | ((with_reducible refine wE_if ?_ (fun hc => ?_) (fun hc => ?_)); (focus (simp [lk, upd, envOf, *]; done)); all_goals (simp [lk, upd, envOf, *] at hc <;> try (exfalso; omega))) | (clear hK; clear K))
    have hw := HW'.out
    rw [HEQ.out] at hw
    exact endE_none rfl ⟨rfl, v', hw, HS'.out⟩
end Go.Proofs.YtglekdhdogjnoaaGreatDoor
