/- The program's writer: files, picks, line. -/
import Derived.Test.YtglekdhdogjnoaaGreatDoorPrgC
namespace Go.Proofs.YtglekdhdogjnoaaGreatDoor
open Go.RowKit
set_option linter.unusedSimpArgs false
set_option maxHeartbeats 1000000 in
theorem picks_w (pw : Nat) (xs : List ByteArray) (o t : Bool) (v va : Value) (ns : List Int) (w : World) (h : WrAt w pw xs o t v) (ht : Tab10 w) (hp : 1 < pw) (hl : xs.length ≤ 90000) (hn : ns.length ≤ 1000) (hv : IntsAt w va ns) (hav : Aside w pw va) :
    Calls Tryz.prog 39 #[.pointer (some ⟨pw, 0, none⟩), va] w fun e w' => e = .returned (.tuple #[]) ∧ ∃ v', WrAt w' pw (xs ++ ns.map itoaS) (o || ns.any largeB) t v' ∧ WStep pw w w' := by
  have HN := Lib.hid (number_w pw xs o t v va ns w h ht hp (by omega) hv hav)
  obtain ⟨a, c, rfl, -⟩ := hv
  have hn' : ¬ (1000 : Int) < ns.length := by omega
  clear h ht hav
  refine calls_of_wE Tryz.func39 rfl Tryz.ntmps39 (by simp) ?_
  repeat' (first | with_reducible (first | refine wE_seq (fun K hK => ?_) | refine wE_block ?_ | refine wE_skip ?_ | refine wE_ret ?_ | refine wE_exit ?_) | ((with_reducible refine wE_region ?_ ?_); (kernel_rfl); simp only [ls, stripO]) | ((with_reducible refine wS_step (fun K hK => ?_)); simp [go_sem, lk, upd, envOf, stepS_value, stepS_skip, stepS_enter, ↓IntWalk.iteOmega, *]; (try go_ints); refine hK.out _ _ ?_; clear hK K) | ((with_reducible refine wS_unit (fun K hK => ?_)); simp [go_sem, lk, upd, envOf, stepS_value, stepS_skip, stepS_enter, ↓IntWalk.iteOmega, *]; (try go_ints); refine hK.out _ _ ?_; clear hK K) | ((with_reducible refine wS_skip ?_ ?_); (focus (simp [lk, upd, envOf, *]; done))) | ((with_reducible refine wS_want ?_ ?_); (focus (simp [lk, upd, envOf, *]; done))) | ((with_reducible refine wS_split (fun hc => ?_) (fun hc => ?_)) <;> simp [lk, upd, envOf, *] at hc <;> try (exfalso; omega)) | with_reducible refine wS_nil ?_ | simp only [thenE, blockE, ↓reduceIte, Nat.reduceEqDiff] | ((with_reducible refine hK.out _ _ ?_); clear hK K) | ((with_reducible refine wE_if ?_ (fun hc => ?_) (fun hc => ?_)); (focus (simp [lk, upd, envOf, *]; done)); all_goals (simp [lk, upd, envOf, *] at hc <;> try (exfalso; omega))) | (clear hK; clear K))
  (with_reducible refine wS_step (fun K hK => ?_)); simp [go_sem, lk, upd, envOf, stepS_value, stepS_skip, stepS_enter, ↓IntWalk.iteOmega, *]; (try go_ints); refine (HN.out).mono ?_; rintro e w1 ⟨rfl, v', hw, hs⟩; refine ⟨_, rfl, hK.out _ _ ?_⟩; clear hK K
  have HW := Lib.hid hw
  have HS := Lib.hid hs
  clear hw hs
  repeat' (first | with_reducible (first | refine wE_seq (fun K hK => ?_) | refine wE_block ?_ | refine wE_skip ?_ | refine wE_ret ?_ | refine wE_exit ?_) | ((with_reducible refine wE_region ?_ ?_); (kernel_rfl); simp only [ls, stripO]) | ((with_reducible refine wS_step (fun K hK => ?_)); simp [go_sem, lk, upd, envOf, stepS_value, stepS_skip, stepS_enter, ↓IntWalk.iteOmega, *]; (try go_ints); refine hK.out _ _ ?_; clear hK K) | ((with_reducible refine wS_unit (fun K hK => ?_)); simp [go_sem, lk, upd, envOf, stepS_value, stepS_skip, stepS_enter, ↓IntWalk.iteOmega, *]; (try go_ints); refine hK.out _ _ ?_; clear hK K) | ((with_reducible refine wS_skip ?_ ?_); (focus (simp [lk, upd, envOf, *]; done))) | ((with_reducible refine wS_want ?_ ?_); (focus (simp [lk, upd, envOf, *]; done))) | ((with_reducible refine wS_split (fun hc => ?_) (fun hc => ?_)) <;> simp [lk, upd, envOf, *] at hc <;> try (exfalso; omega)) | with_reducible refine wS_nil ?_ | simp only [thenE, blockE, ↓reduceIte, Nat.reduceEqDiff] | ((with_reducible refine hK.out _ _ ?_); clear hK K) | ((with_reducible refine wE_if ?_ (fun hc => ?_) (fun hc => ?_)); (focus (simp [lk, upd, envOf, *]; done)); all_goals (simp [lk, upd, envOf, *] at hc <;> try (exfalso; omega))) | (clear hK; clear K))
  exact endE_none rfl ⟨rfl, v', HW.out, HS.out⟩
def fileWords (f : File) : List ByteArray := [S (quoteL f.1.data.toList), S (quoteL f.2.data.toList)]
theorem flat_take_succ {α β : Type} (f : α → List β) (l : List α) (k : Nat) (x : α) (h : l[k]? = some x) : (l.take (k + 1)).flatMap f = (l.take k).flatMap f ++ f x := by
  rw [List.take_add_one, h]; simp
theorem fileWords_len (l : List File) : (l.flatMap fileWords).length = 2 * l.length := by
  induction l with
  | nil => rfl
  | cons f l ih => simp only [List.flatMap_cons, List.length_append, ih, fileWords, List.length_cons, List.length_nil]; omega
set_option maxHeartbeats 2000000 in
theorem files_w (pw : Nat) (xs : List ByteArray) (o t : Bool) (v va : Value) (fs : List File) (w : World) (h : WrAt w pw xs o t v) (hl : xs.length ≤ 90000) (hn : fs.length ≤ 200) (hsm : ∀ f ∈ fs, FileSmall f) (hv : FilesAt w va fs) (hav : Aside w pw va) :
    Calls Tryz.prog 31 #[.pointer (some ⟨pw, 0, none⟩), va] w fun e w' => e = .returned (.tuple #[]) ∧ ∃ v', WrAt w' pw (xs ++ fs.flatMap fileWords) o t v' ∧ WStep pw w w' := by
  obtain ⟨a, c, rfl, hc, hcell⟩ := hv
  have HW := Lib.hid h
  have HC := Lib.hid hcell
  have HA := Lib.hid hav
  have HSM := Lib.hid hsm
  have hn' : ¬ (200 : Int) < fs.length := by omega
  clear h hcell hav hsm
  refine calls_of_wE Tryz.func31 rfl Tryz.ntmps31 (by simp) ?_
  repeat' (first | with_reducible (first | refine wE_seq (fun K hK => ?_) | refine wE_block ?_ | refine wE_skip ?_ | refine wE_ret ?_ | refine wE_exit ?_) | ((with_reducible refine wE_region ?_ ?_); (kernel_rfl); simp only [ls, stripO]) | ((with_reducible refine wS_step (fun K hK => ?_)); simp [go_sem, lk, upd, envOf, stepS_value, stepS_skip, stepS_enter, ↓IntWalk.iteOmega, *]; (try go_ints); refine hK.out _ _ ?_; clear hK K) | ((with_reducible refine wS_unit (fun K hK => ?_)); simp [go_sem, lk, upd, envOf, stepS_value, stepS_skip, stepS_enter, ↓IntWalk.iteOmega, *]; (try go_ints); refine hK.out _ _ ?_; clear hK K) | ((with_reducible refine wS_skip ?_ ?_); (focus (simp [lk, upd, envOf, *]; done))) | ((with_reducible refine wS_want ?_ ?_); (focus (simp [lk, upd, envOf, *]; done))) | ((with_reducible refine wS_split (fun hc => ?_) (fun hc => ?_)) <;> simp [lk, upd, envOf, *] at hc <;> try (exfalso; omega)) | with_reducible refine wS_nil ?_ | simp only [thenE, blockE, ↓reduceIte, Nat.reduceEqDiff] | ((with_reducible refine hK.out _ _ ?_); clear hK K) | ((with_reducible refine wE_if ?_ (fun hc => ?_) (fun hc => ?_)); (focus (simp [lk, upd, envOf, *]; done)); all_goals (simp [lk, upd, envOf, *] at hc <;> try (exfalso; omega))) | (clear hK; clear K))
  refine wE_loop (fun (k : Nat) σ w' => k ≤ fs.length ∧ σ 0 = .pointer (some ⟨pw, 0, none⟩) ∧ σ 12 = .slice a fs.length c ∧ σ 13 = .int .i64 fs.length ∧ σ 14 = .int .i64 k ∧ ∃ v', WrAt w' pw (xs ++ (fs.take k).flatMap fileWords) o t v' ∧ WStep pw w w') (fun k => fs.length - k) 0 ?_ ?_
  · refine ⟨by omega, by simp [upd, envOf], by simp [upd], by simp [upd], by simp [upd], v, by simpa using HW.out, WStep.refl _ _⟩
  rintro k σ w' ⟨hk, h0, h12, h13, h14, v', hw, hst⟩
  have HW' := Lib.hid hw
  have HS' := Lib.hid hst
  clear hw hst
  by_cases hlt : k < fs.length
  · obtain ⟨x, hx⟩ : ∃ x, fs[k]? = some x := ⟨_, List.getElem?_eq_getElem hlt⟩
    rcases HC.out with h | ⟨b, off, rfl, hcell⟩
    · rw [h] at hlt; simp at hlt
    obtain ⟨hb0, hb1, hb2⟩ := (HA.out b off _ _ rfl).resolve_left (by omega)
    clear hb0
    obtain ⟨hq1, hq2⟩ := hcell k x hx
    have hblk := HS'.out.block b (World.block_lt_of_cell? w _ hq1) hb1 hb2
    have hcx : w'.cell? ⟨b, off + k * 2, none⟩ = some (.string x.1) := by rw [World.cell?_of_block (w := w) (a := ⟨b, off + k * 2, none⟩) hblk]; exact hq1
    have hcy : w'.cell? ⟨b, off + k * 2 + 1, none⟩ = some (.string x.2) := by rw [World.cell?_of_block (w := w) (a := ⟨b, off + k * 2 + 1, none⟩) hblk]; exact hq2
    obtain ⟨hs1, hs2⟩ := HSM.out x (List.mem_of_getElem? hx)
    have HM := Lib.hid (flat_take_succ fileWords fs k x hx)
    have hlen : (xs ++ (fs.take k).flatMap fileWords).length ≤ 95000 := by
      have := fileWords_len (fs.take k)
      rw [List.length_append, this, List.length_take]; omega
    clear hx hcell hb1 hb2 hq1 hq2 hblk
    repeat' (first | with_reducible (first | refine wE_seq (fun K hK => ?_) | refine wE_block ?_ | refine wE_skip ?_ | refine wE_ret ?_ | refine wE_exit ?_) | ((with_reducible refine wE_region ?_ ?_); (kernel_rfl); simp only [ls, stripO]) | ((with_reducible refine wS_step (fun K hK => ?_)); simp [go_sem, lk, upd, envOf, stepS_value, stepS_skip, stepS_enter, ↓IntWalk.iteOmega, *]; (try go_ints); refine hK.out _ _ ?_; clear hK K) | ((with_reducible refine wS_unit (fun K hK => ?_)); simp [go_sem, lk, upd, envOf, stepS_value, stepS_skip, stepS_enter, ↓IntWalk.iteOmega, *]; (try go_ints); refine hK.out _ _ ?_; clear hK K) | ((with_reducible refine wS_skip ?_ ?_); (focus (simp [lk, upd, envOf, *]; done))) | ((with_reducible refine wS_want ?_ ?_); (focus (simp [lk, upd, envOf, *]; done))) | ((with_reducible refine wS_split (fun hc => ?_) (fun hc => ?_)) <;> simp [lk, upd, envOf, *] at hc <;> try (exfalso; omega)) | with_reducible refine wS_nil ?_ | simp only [thenE, blockE, ↓reduceIte, Nat.reduceEqDiff] | ((with_reducible refine hK.out _ _ ?_); clear hK K) | ((with_reducible refine wE_if ?_ (fun hc => ?_) (fun hc => ?_)); (focus (simp [lk, upd, envOf, *]; done)); all_goals (simp [lk, upd, envOf, *] at hc <;> try (exfalso; omega))) | (clear hK; clear K))
    have hg := Grow.alloc w' (.cells #[.string x.1, .string x.2] 35)
    have hbn : (w'.alloc (.cells #[.string x.1, .string x.2] 35)).heap[w'.heap.size]? = some (.cells #[.string x.1, .string x.2] 35 (0, 0)) := heap_alloc_new w' _
    generalize w'.alloc (.cells #[.string x.1, .string x.2] 35) = wa at *
    have HWa := Lib.hid (HW'.out.grow hg)
    have HSa := Lib.hid (WStep.grow HW'.out.lt hg)
    have hpne : w'.heap.size ≠ pw := by have := HW'.out.lt; omega
    have hrne : rowOf wa pw ≠ some w'.heap.size := by
      intro e
      have e2 : rowOf w' pw = some w'.heap.size := by unfold rowOf at e ⊢; rw [hg.block pw HW'.out.lt] at e; exact e
      have := (HW'.out.row_ge _ e2).2
      omega
    have HBN := Lib.hid hbn
    have HP := Lib.hid hpne
    have HRN := Lib.hid hrne
    clear hg hbn hpne hrne
    (with_reducible refine wS_step (fun K hK => ?_)); simp [go_sem, lk, upd, envOf, stepS_value, stepS_skip, stepS_enter, ↓IntWalk.iteOmega, *]; (try go_ints); refine (text_w pw _ _ _ _ _ _ HWa.out (by omega) (by omega)).mono ?_; rintro e w1 ⟨rfl, v1, hw1, hst1⟩; refine ⟨_, rfl, hK.out _ _ ?_⟩; clear hK K
    have c2 : w1.cell? ⟨w'.heap.size, 1, none⟩ = some (.string x.2) := by rw [cell_of_row w1 _ 1 _ _ _ (hst1.heap HBN.out HP.out HRN.out)]; rfl
    have HW1 := Lib.hid hw1
    have HS1 := Lib.hid (HSa.out.trans hst1)
    clear hw1 hst1
    have hlen1 : (xs ++ (fs.take k).flatMap fileWords ++ [S (quoteL x.1.data.toList)]).length ≤ 100000 := by rw [List.length_append]; simp at hlen ⊢; omega
    repeat' (first | with_reducible (first | refine wE_seq (fun K hK => ?_) | refine wE_block ?_ | refine wE_skip ?_ | refine wE_ret ?_ | refine wE_exit ?_) | ((with_reducible refine wE_region ?_ ?_); (kernel_rfl); simp only [ls, stripO]) | ((with_reducible refine wS_step (fun K hK => ?_)); simp [go_sem, lk, upd, envOf, stepS_value, stepS_skip, stepS_enter, ↓IntWalk.iteOmega, *]; (try go_ints); refine hK.out _ _ ?_; clear hK K) | ((with_reducible refine wS_unit (fun K hK => ?_)); simp [go_sem, lk, upd, envOf, stepS_value, stepS_skip, stepS_enter, ↓IntWalk.iteOmega, *]; (try go_ints); refine hK.out _ _ ?_; clear hK K) | ((with_reducible refine wS_skip ?_ ?_); (focus (simp [lk, upd, envOf, *]; done))) | ((with_reducible refine wS_want ?_ ?_); (focus (simp [lk, upd, envOf, *]; done))) | ((with_reducible refine wS_split (fun hc => ?_) (fun hc => ?_)) <;> simp [lk, upd, envOf, *] at hc <;> try (exfalso; omega)) | with_reducible refine wS_nil ?_ | simp only [thenE, blockE, ↓reduceIte, Nat.reduceEqDiff] | ((with_reducible refine hK.out _ _ ?_); clear hK K) | ((with_reducible refine wE_if ?_ (fun hc => ?_) (fun hc => ?_)); (focus (simp [lk, upd, envOf, *]; done)); all_goals (simp [lk, upd, envOf, *] at hc <;> try (exfalso; omega))) | (clear hK; clear K))
    (with_reducible refine wS_step (fun K hK => ?_)); simp [go_sem, lk, upd, envOf, stepS_value, stepS_skip, stepS_enter, ↓IntWalk.iteOmega, *]; (try go_ints); refine (text_w pw _ _ _ _ _ _ HW1.out hlen1 (by omega)).mono ?_; rintro e w2 ⟨rfl, v2, hw2, hst2⟩; refine ⟨_, rfl, hK.out _ _ ?_⟩; clear hK K
    have HW2 := Lib.hid hw2
    have HS2 := Lib.hid (HS1.out.trans hst2)
    clear hw2 hst2
    repeat' (first | with_reducible (first | refine wE_seq (fun K hK => ?_) | refine wE_block ?_ | refine wE_skip ?_ | refine wE_ret ?_ | refine wE_exit ?_) | ((with_reducible refine wE_region ?_ ?_); (kernel_rfl); simp only [ls, stripO]) | ((with_reducible refine wS_step (fun K hK => ?_)); simp [go_sem, lk, upd, envOf, stepS_value, stepS_skip, stepS_enter, ↓IntWalk.iteOmega, *]; (try go_ints); refine hK.out _ _ ?_; clear hK K) | ((with_reducible refine wS_unit (fun K hK => ?_)); simp [go_sem, lk, upd, envOf, stepS_value, stepS_skip, stepS_enter, ↓IntWalk.iteOmega, *]; (try go_ints); refine hK.out _ _ ?_; clear hK K) | ((with_reducible refine wS_skip ?_ ?_); (focus (simp [lk, upd, envOf, *]; done))) | ((with_reducible refine wS_want ?_ ?_); (focus (simp [lk, upd, envOf, *]; done))) | ((with_reducible refine wS_split (fun hc => ?_) (fun hc => ?_)) <;> simp [lk, upd, envOf, *] at hc <;> try (exfalso; omega)) | with_reducible refine wS_nil ?_ | simp only [thenE, blockE, ↓reduceIte, Nat.reduceEqDiff] | ((with_reducible refine hK.out _ _ ?_); clear hK K) | ((with_reducible refine wE_if ?_ (fun hc => ?_) (fun hc => ?_)); (focus (simp [lk, upd, envOf, *]; done)); all_goals (simp [lk, upd, envOf, *] at hc <;> try (exfalso; omega))) | (clear hK; clear K))
    refine ⟨k + 1, ⟨by omega, by simp [upd, *], by simp [upd, *], by simp [upd, *], by simp [upd], v2, ?_, HS'.out.trans HS2.out⟩, by omega⟩
    have hw := HW2.out
    rw [HM.out]
    simpa [fileWords] using hw
  · have HEQ := Lib.hid (show fs.take k = fs from List.take_of_length_le (by omega))
    repeat' (first | with_reducible (first | refine wE_seq (fun K hK => ?_) | refine wE_block ?_ | refine wE_skip ?_ | refine wE_ret ?_ | refine wE_exit ?_) | ((with_reducible refine wE_region ?_ ?_); (kernel_rfl); simp only [ls, stripO]) | ((with_reducible refine wS_step (fun K hK => ?_)); simp [go_sem, lk, upd, envOf, stepS_value, stepS_skip, stepS_enter, ↓IntWalk.iteOmega, *]; (try go_ints); refine hK.out _ _ ?_; clear hK K) | ((with_reducible refine wS_unit (fun K hK => ?_)); simp [go_sem, lk, upd, envOf, stepS_value, stepS_skip, stepS_enter, ↓IntWalk.iteOmega, *]; (try go_ints); refine hK.out _ _ ?_; clear hK K) | ((with_reducible refine wS_skip ?_ ?_); (focus (simp [lk, upd, envOf, *]; done))) | ((with_reducible refine wS_want ?_ ?_); (focus (simp [lk, upd, envOf, *]; done))) | ((with_reducible refine wS_split (fun hc => ?_) (fun hc => ?_)) <;> simp [lk, upd, envOf, *] at hc <;> try (exfalso; omega)) | with_reducible refine wS_nil ?_ | simp only [thenE, blockE, ↓reduceIte, Nat.reduceEqDiff] | ((with_reducible refine hK.out _ _ ?_); clear hK K) | ((with_reducible refine wE_if ?_ (fun hc => ?_) (fun hc => ?_)); (focus (simp [lk, upd, envOf, *]; done)); all_goals (simp [lk, upd, envOf, *] at hc <;> try (exfalso; omega))) | (clear hK; clear K))
    have hw := HW'.out
    rw [HEQ.out] at hw
    exact endE_none rfl ⟨rfl, v', hw, HS'.out⟩
def joinS (xs : List ByteArray) : List UInt8 := Lib.join (xs.map (·.data.toList)) [32]
def wlineR (xs : List ByteArray) (o t : Bool) : Value := if o then .tuple #[.string ⟨#[]⟩, .int .i64 2] else if t then .tuple #[.string ⟨#[]⟩, .int .i64 4] else .tuple #[.string (S (joinS xs)), .int .i64 0]
set_option maxHeartbeats 1000000 in
theorem line_w (pw : Nat) (xs : List ByteArray) (o t : Bool) (v : Value) (w : World) (h : WrAt w pw xs o t v) (hne : xs ≠ []) (hl : xs.length ≤ 100000) (hj : (joinS xs).length ≤ 140737488355328) :
    Calls Tryz.prog 20 #[.pointer (some ⟨pw, 0, none⟩)] w fun e w' => e = .returned (wlineR xs o t) ∧ Grow w w' := by
  have c0 : w.cell? ⟨pw, 0, none⟩ = some v := by rw [cell_of_row w pw 0 _ _ _ h.cell]; rfl
  have c1 : w.cell? ⟨pw, 1, none⟩ = some (.bool o) := by rw [cell_of_row w pw 1 _ _ _ h.cell]; rfl
  have c2 : w.cell? ⟨pw, 2, none⟩ = some (.bool t) := by rw [cell_of_row w pw 2 _ _ _ h.cell]; rfl
  have hform : ∃ g cap, v = .slice (some ⟨g, 0, none⟩) xs.length cap ∧ g < w.heap.size ∧ xs.length ≤ cap := by
    rcases h.own.2 with ⟨_, hn⟩ | ⟨g, cap, cur, hv, _, hg, hnc, _⟩
    · exact absurd (List.eq_nil_of_length_eq_zero hn) hne
    · exact ⟨g, cap, hv, (Array.getElem?_eq_some_iff.1 hg).1, hnc⟩
  obtain ⟨g, cap, rfl, hg, hcap⟩ := hform
  have HJ := Lib.hid (Tryz.strings_Join g 0 cap xs ⟨#[32]⟩ w (fun j x hj => by
    have := h.own.cells (g := g) rfl j (.string x) (by simp [hj])
    rw [Addr.add_lit] at this; exact this) hg (by omega) hcap hj)
  clear h hj
  cases o
  · cases t
    · refine calls_of_wE Tryz.func20 rfl Tryz.ntmps20 (by simp) ?_
      repeat' (first | with_reducible (first | refine wE_seq (fun K hK => ?_) | refine wE_block ?_ | refine wE_skip ?_ | refine wE_ret ?_ | refine wE_exit ?_) | ((with_reducible refine wE_region ?_ ?_); (kernel_rfl); simp only [ls, stripO]) | ((with_reducible refine wS_step (fun K hK => ?_)); simp [go_sem, lk, upd, envOf, stepS_value, stepS_skip, stepS_enter, ↓IntWalk.iteOmega, *]; (try go_ints); refine hK.out _ _ ?_; clear hK K) | ((with_reducible refine wS_unit (fun K hK => ?_)); simp [go_sem, lk, upd, envOf, stepS_value, stepS_skip, stepS_enter, ↓IntWalk.iteOmega, *]; (try go_ints); refine hK.out _ _ ?_; clear hK K) | ((with_reducible refine wS_skip ?_ ?_); (focus (simp [lk, upd, envOf, *]; done))) | ((with_reducible refine wS_want ?_ ?_); (focus (simp [lk, upd, envOf, *]; done))) | ((with_reducible refine wS_split (fun hc => ?_) (fun hc => ?_)) <;> simp [lk, upd, envOf, *] at hc <;> try (exfalso; omega)) | with_reducible refine wS_nil ?_ | simp only [thenE, blockE, ↓reduceIte, Nat.reduceEqDiff] | ((with_reducible refine hK.out _ _ ?_); clear hK K) | ((with_reducible refine wE_if ?_ (fun hc => ?_) (fun hc => ?_)); (focus (simp [lk, upd, envOf, *]; done)); all_goals (simp [lk, upd, envOf, *] at hc <;> try (exfalso; omega))) | (clear hK; clear K))
      (with_reducible refine wS_step (fun K hK => ?_)); simp [go_sem, lk, upd, envOf, stepS_value, stepS_skip, stepS_enter, ↓IntWalk.iteOmega, *]; (try go_ints); refine (HJ.out).mono ?_; rintro e w1 ⟨rfl, hb1⟩; refine ⟨_, rfl, hK.out _ _ ?_⟩; clear hK K
      have HB := Lib.hid hb1
      clear hb1
      repeat' (first | with_reducible (first | refine wE_seq (fun K hK => ?_) | refine wE_block ?_ | refine wE_skip ?_ | refine wE_ret ?_ | refine wE_exit ?_) | ((with_reducible refine wE_region ?_ ?_); (kernel_rfl); simp only [ls, stripO]) | ((with_reducible refine wS_step (fun K hK => ?_)); simp [go_sem, lk, upd, envOf, stepS_value, stepS_skip, stepS_enter, ↓IntWalk.iteOmega, *]; (try go_ints); refine hK.out _ _ ?_; clear hK K) | ((with_reducible refine wS_unit (fun K hK => ?_)); simp [go_sem, lk, upd, envOf, stepS_value, stepS_skip, stepS_enter, ↓IntWalk.iteOmega, *]; (try go_ints); refine hK.out _ _ ?_; clear hK K) | ((with_reducible refine wS_skip ?_ ?_); (focus (simp [lk, upd, envOf, *]; done))) | ((with_reducible refine wS_want ?_ ?_); (focus (simp [lk, upd, envOf, *]; done))) | ((with_reducible refine wS_split (fun hc => ?_) (fun hc => ?_)) <;> simp [lk, upd, envOf, *] at hc <;> try (exfalso; omega)) | with_reducible refine wS_nil ?_ | simp only [thenE, blockE, ↓reduceIte, Nat.reduceEqDiff] | ((with_reducible refine hK.out _ _ ?_); clear hK K) | ((with_reducible refine wE_if ?_ (fun hc => ?_) (fun hc => ?_)); (focus (simp [lk, upd, envOf, *]; done)); all_goals (simp [lk, upd, envOf, *] at hc <;> try (exfalso; omega))) | (clear hK; clear K))
      exact endE_tmp2 rfl ⟨by simp [upd, wlineR]; rfl, HB.out⟩
    · refine calls_of_wE Tryz.func20 rfl Tryz.ntmps20 (by simp) ?_
      repeat' (first | with_reducible (first | refine wE_seq (fun K hK => ?_) | refine wE_block ?_ | refine wE_skip ?_ | refine wE_ret ?_ | refine wE_exit ?_) | ((with_reducible refine wE_region ?_ ?_); (kernel_rfl); simp only [ls, stripO]) | ((with_reducible refine wS_step (fun K hK => ?_)); simp [go_sem, lk, upd, envOf, stepS_value, stepS_skip, stepS_enter, ↓IntWalk.iteOmega, *]; (try go_ints); refine hK.out _ _ ?_; clear hK K) | ((with_reducible refine wS_unit (fun K hK => ?_)); simp [go_sem, lk, upd, envOf, stepS_value, stepS_skip, stepS_enter, ↓IntWalk.iteOmega, *]; (try go_ints); refine hK.out _ _ ?_; clear hK K) | ((with_reducible refine wS_skip ?_ ?_); (focus (simp [lk, upd, envOf, *]; done))) | ((with_reducible refine wS_want ?_ ?_); (focus (simp [lk, upd, envOf, *]; done))) | ((with_reducible refine wS_split (fun hc => ?_) (fun hc => ?_)) <;> simp [lk, upd, envOf, *] at hc <;> try (exfalso; omega)) | with_reducible refine wS_nil ?_ | simp only [thenE, blockE, ↓reduceIte, Nat.reduceEqDiff] | ((with_reducible refine hK.out _ _ ?_); clear hK K) | ((with_reducible refine wE_if ?_ (fun hc => ?_) (fun hc => ?_)); (focus (simp [lk, upd, envOf, *]; done)); all_goals (simp [lk, upd, envOf, *] at hc <;> try (exfalso; omega))) | (clear hK; clear K))
      exact endE_tmp2 rfl ⟨by simp [upd, wlineR], Grow.refl _⟩
  · refine calls_of_wE Tryz.func20 rfl Tryz.ntmps20 (by simp) ?_
    repeat' (first | with_reducible (first | refine wE_seq (fun K hK => ?_) | refine wE_block ?_ | refine wE_skip ?_ | refine wE_ret ?_ | refine wE_exit ?_) | ((with_reducible refine wE_region ?_ ?_); (kernel_rfl); simp only [ls, stripO]) | ((with_reducible refine wS_step (fun K hK => ?_)); simp [go_sem, lk, upd, envOf, stepS_value, stepS_skip, stepS_enter, ↓IntWalk.iteOmega, *]; (try go_ints); refine hK.out _ _ ?_; clear hK K) | ((with_reducible refine wS_unit (fun K hK => ?_)); simp [go_sem, lk, upd, envOf, stepS_value, stepS_skip, stepS_enter, ↓IntWalk.iteOmega, *]; (try go_ints); refine hK.out _ _ ?_; clear hK K) | ((with_reducible refine wS_skip ?_ ?_); (focus (simp [lk, upd, envOf, *]; done))) | ((with_reducible refine wS_want ?_ ?_); (focus (simp [lk, upd, envOf, *]; done))) | ((with_reducible refine wS_split (fun hc => ?_) (fun hc => ?_)) <;> simp [lk, upd, envOf, *] at hc <;> try (exfalso; omega)) | with_reducible refine wS_nil ?_ | simp only [thenE, blockE, ↓reduceIte, Nat.reduceEqDiff] | ((with_reducible refine hK.out _ _ ?_); clear hK K) | ((with_reducible refine wE_if ?_ (fun hc => ?_) (fun hc => ?_)); (focus (simp [lk, upd, envOf, *]; done)); all_goals (simp [lk, upd, envOf, *] at hc <;> try (exfalso; omega))) | (clear hK; clear K))
    exact endE_tmp2 rfl ⟨by simp [upd, wlineR], Grow.refl _⟩
end Go.Proofs.YtglekdhdogjnoaaGreatDoor
