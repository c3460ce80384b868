/- The program's reader: files and picks. -/
import Derived.Test.YtglekdhdogjnoaaGreatDoorPrsD
namespace Go.Proofs.YtglekdhdogjnoaaGreatDoor
open Go.RowKit
set_option linter.unusedSimpArgs false
def fileCells (f : File) : List Value := [.string f.1, .string f.2]
def filesC (fs : List File) : List Value := fs.flatMap fileCells
theorem info52 : (Tryz.prog.info? 35).map (fun i => (i.zero, i.size, i.bytes)) = some (some (.agg #[.string ⟨#[]⟩, .string ⟨#[]⟩]), 2, 32) := by kernel_rfl
theorem info3 : (Tryz.prog.info? 3).map (fun i => (i.zero, i.size, i.bytes)) = some (some (.int .i64 0), 1, 8) := by kernel_rfl
theorem app_file (w : World) (base : Nat) (v : Value) (fs : List File) (f : File) (hown : w.ownsRow base 35 2 v fs.length (filesC fs)) (hl : fs.length ≤ 100000000) (hbase : base ≤ w.heap.size) :
    ∃ v' w', (Builtin.append_ #[23, 23] 23 #[v, .slice (some ⟨w.heap.size, 0, none⟩) 1 1]).run Tryz.prog (w.alloc (.cells #[.string f.1, .string f.2] 35)) = .ok v' w' ∧ w'.ownsRow base 35 2 v' (fs ++ [f]).length (filesC (fs ++ [f])) ∧ Below base w w' := by
  obtain ⟨i, hi, hz0, hz1, hz2⟩ := info_parts info52
  obtain ⟨v', w', hrun, h2, h3, _⟩ := run_append_own (P := Tryz.prog) (w.alloc (.cells #[.string f.1, .string f.2] 35)) base 23 23 35 i (.agg #[.string ⟨#[]⟩, .string ⟨#[]⟩]) 2 32 Tryz.underlying23 hi hz0 hz1 hz2 rfl (by omega)
    v fs.length (filesC fs) (hown.alloc _) ⟨w.heap.size, 0, none⟩ 1 1 (fileCells f) rfl (by
      intro j u hj
      rw [Addr.add_lit, cell_of_row _ w.heap.size (0 + j) _ _ _ (heap_alloc_new w _)]
      match j, hj with
      | 0, hj => simpa [fileCells] using hj
      | 1, hj => simpa [fileCells] using hj
      | j + 2, hj => simp [fileCells] at hj) (by
      intro u hu
      simp only [fileCells, List.mem_cons, List.not_mem_nil, or_false] at hu
      rcases hu with rfl | rfl <;> rfl) (by unfold maxLen; omega) (by omega) (by simp; omega)
  refine ⟨v', w', hrun, ?_, ?_⟩
  · have : filesC (fs ++ [f]) = filesC fs ++ fileCells f := by simp [filesC]
    rw [this]
    simpa using h2
  · refine ⟨h3.os, h3.tape, h3.output, ?_, fun k hk => ?_⟩
    · have := h3.size; simp at this; omega
    · rw [h3.block k (by simp; omega) (fun e => by have := hown.lt k e.symm; omega), Below.heap_alloc _ _ _ (by omega)]
def intV (n : Int) : Value := .int .i64 n
theorem app_int (w : World) (base : Nat) (v : Value) (ns : List Int) (n : Int) (hown : w.ownsRow base 3 1 v ns.length (ns.map intV)) (hl : ns.length ≤ 100000000) (hbase : base ≤ w.heap.size) :
    ∃ v' w', (Builtin.append_ #[24, 24] 24 #[v, .slice (some ⟨w.heap.size, 0, none⟩) 1 1]).run Tryz.prog (w.alloc (.cells #[.int .i64 n] 3)) = .ok v' w' ∧ w'.ownsRow base 3 1 v' (ns ++ [n]).length ((ns ++ [n]).map intV) ∧ Below base w w' := by
  obtain ⟨i, hi, hz0, hz1, hz2⟩ := info_parts info3
  obtain ⟨v', w', hrun, h2, h3, _⟩ := run_append_own (P := Tryz.prog) (w.alloc (.cells #[.int .i64 n] 3)) base 24 24 3 i (.int .i64 0) 1 8 Tryz.underlying24 hi hz0 hz1 hz2 rfl (by omega)
    v ns.length (ns.map intV) (hown.alloc _) ⟨w.heap.size, 0, none⟩ 1 1 [.int .i64 n] rfl (by
      intro j u hj
      rw [Addr.add_lit, cell_of_row _ w.heap.size (0 + j) _ _ _ (heap_alloc_new w _)]
      match j, hj with
      | 0, hj => simpa using hj
      | j + 1, hj => simp at hj) (by
      intro u hu
      simp only [List.mem_cons, List.not_mem_nil, or_false] at hu
      rw [hu]; rfl) (by unfold maxLen; omega) (by omega) (by simp; omega)
  refine ⟨v', w', hrun, ?_, ?_⟩
  · simpa [intV] using h2
  · refine ⟨h3.os, h3.tape, h3.output, ?_, fun k hk => ?_⟩
    · have := h3.size; simp at this; omega
    · rw [h3.block k (by simp; omega) (fun e => by have := hown.lt k e.symm; omega), Below.heap_alloc _ _ _ (by omega)]
theorem files_own {w : World} {base : Nat} {v : Value} {fs : List File} (h : w.ownsRow base 35 2 v fs.length (filesC fs)) : FilesAt w v fs := by
  rcases h.2 with ⟨rfl, hn⟩ | ⟨g, cap, cur, rfl, hb, hg, hnc, _⟩
  · have : fs = [] := List.eq_nil_of_length_eq_zero hn
    subst this
    exact ⟨none, 0, rfl, by simp, .inl rfl⟩
  · refine ⟨_, cap, rfl, hnc, .inr ⟨g, 0, rfl, fun j f hj => ?_⟩⟩
    have hlt := (List.getElem?_eq_some_iff.1 hj).1
    have key : ∀ (l : List File) (j : Nat) (f : File), l[j]? = some f → (filesC l)[j * 2]? = some (.string f.1) ∧ (filesC l)[j * 2 + 1]? = some (.string f.2) := by
      intro l
      induction l with
      | nil => intro j f h; simp at h
      | cons x l ih =>
        intro j f h
        cases j with
        | zero => simp at h; subst h; exact ⟨rfl, rfl⟩
        | succ j =>
          have := ih j f (by simpa using h)
          rw [show (j + 1) * 2 = j * 2 + 2 by omega]
          exact this
    obtain ⟨k1, k2⟩ := key fs j f hj
    have c1 := h.cells (g := g) rfl _ _ k1
    have c2 := h.cells (g := g) rfl _ _ k2
    rw [Addr.add_lit] at c1 c2
    rw [show 0 + j * 2 + 1 = 0 + (j * 2 + 1) by omega]
    exact ⟨c1, c2⟩
theorem ints_own {w : World} {base : Nat} {v : Value} {ns : List Int} (h : w.ownsRow base 3 1 v ns.length (ns.map intV)) (hi : ∀ n ∈ ns, I64 n) : IntsAt w v ns := by
  rcases h.2 with ⟨rfl, hn⟩ | ⟨g, cap, cur, rfl, hb, hg, hnc, _⟩
  · have : ns = [] := List.eq_nil_of_length_eq_zero hn
    subst this
    exact ⟨none, 0, rfl, by simp, by simp, .inl rfl⟩
  · refine ⟨_, cap, rfl, hnc, hi, .inr ⟨g, 0, rfl, fun j n hj => ?_⟩⟩
    have c1 := h.cells (g := g) rfl j (.int .i64 n) (by simp [hj, intV])
    rw [Addr.add_lit] at c1
    exact c1
/-- An own row stays while the reader turns. -/
theorem row_step {w w' : World} {base pr : Nat} {e : TypeId} {size : Nat} {v : Value} {n : Nat} {xs : List Value} (h : w.ownsRow base e size v n xs) (s : RStep pr w w') (hp : pr < base) : w'.ownsRow base e size v n xs :=
  h.kept (row := some pr) ⟨s.os, s.tape, s.output, s.size, fun k hk hr => s.block k hk (fun e => hr (by rw [e]))⟩ (by
    cases hv : v.ownBlock with
    | none => simp
    | some k => have := h.lt k hv; simp; omega)
theorem files_stop {R : Rd} (h : R.quotedNext = false) : R.files = ([], R) := by
  obtain ⟨ps, wr⟩ := R
  cases wr
  · simp only [Rd.quotedNext, Bool.not_false, Bool.true_and] at h
    unfold Rd.files
    simp only [Bool.false_eq_true, if_false]
    match ps, h with
    | [], _ => rfl
    | [p], h => simp only at h; simp [filesF, h]
    | p :: q :: ps, h => simp only at h; simp [filesF, h]
  · rfl
theorem files_go {R : Rd} (h : R.quotedNext = true) : ∃ p r, R = ⟨p :: r, false⟩ ∧ p.quoted = true ∧ R.next true = (p.text, ⟨r, false⟩) ∧
    R.files = ((p.text, ((Rd.mk r false).next true).1) :: ((Rd.mk r false).next true).2.files.1, ((Rd.mk r false).next true).2.files.2) ∧ ((Rd.mk r false).next true).2.parts.length ≤ r.length := by
  obtain ⟨ps, wr⟩ := R
  cases wr
  · simp only [Rd.quotedNext, Bool.not_false, Bool.true_and] at h
    match ps, h with
    | p :: r, h =>
      simp only at h
      refine ⟨p, r, rfl, h, by simp [Rd.next, h], ?_, ?_⟩
      · match r with
        | [] => simp [Rd.files, filesF, h, Rd.next]
        | q :: r => by_cases hq : q.quoted = true <;> simp [Rd.files, filesF, h, Rd.next, hq]
      · match r with
        | [] => simp [Rd.next]
        | q :: r => by_cases hq : q.quoted = true <;> simp [Rd.next, hq]
  · simp [Rd.quotedNext] at h
set_option maxHeartbeats 4000000 in
set_option maxRecDepth 100000 in
theorem files_r (pr B : Nat) (R : Rd) (v : Value) (w : World) (h : RdAt w pr B R v) (hB : B ≤ w.heap.size) (hpB : pr < B) (hl : R.parts.length ≤ 10000000) :
    Calls Tryz.prog 34 #[.pointer (some ⟨pr, 0, none⟩)] w fun e w' => ∃ vf v', e = .returned vf ∧ w'.ownsRow w.heap.size 35 2 vf R.files.1.length (filesC R.files.1) ∧ RdAt w' pr B R.files.2 v' ∧ RStep pr w w' := by
  have HR := Lib.hid h
  have hpw := h.lt
  clear h
  refine calls_of_wE Tryz.func34 rfl Tryz.ntmps34 (by simp) ?_
  repeat' (first | with_reducible (first | refine wE_seq (fun K hK => ?_) | refine wE_block ?_ | refine wE_skip ?_ | refine wE_ret ?_ | refine wE_exit ?_) | ((with_reducible refine wE_region ?_ ?_); (kernel_rfl); simp only [ls, stripO]) | ((with_reducible refine wS_step (fun K hK => ?_)); simp [go_sem, lk, upd, envOf, stepS_value, stepS_skip, stepS_enter, ↓IntWalk.iteOmega, *]; (try go_ints); refine hK.out _ _ ?_; clear hK K) | ((with_reducible refine wS_unit (fun K hK => ?_)); simp [go_sem, lk, upd, envOf, stepS_value, stepS_skip, stepS_enter, ↓IntWalk.iteOmega, *]; (try go_ints); refine hK.out _ _ ?_; clear hK K) | ((with_reducible refine wS_skip ?_ ?_); (focus (simp [lk, upd, envOf, *]; done))) | ((with_reducible refine wS_want ?_ ?_); (focus (simp [lk, upd, envOf, *]; done))) | ((with_reducible refine wS_split (fun hc => ?_) (fun hc => ?_)) <;> simp [lk, upd, envOf, *] at hc <;> try (exfalso; omega)) | with_reducible refine wS_nil ?_ | simp only [thenE, blockE, ↓reduceIte, Nat.reduceEqDiff] | ((with_reducible refine hK.out _ _ ?_); clear hK K) | ((with_reducible refine wE_if ?_ (fun hc => ?_) (fun hc => ?_)); (focus (simp [lk, upd, envOf, *]; done)); all_goals (simp [lk, upd, envOf, *] at hc <;> try (exfalso; omega))) | (clear hK; clear K))
  refine wE_loop (fun (m : Nat) σ w' => σ 0 = .pointer (some ⟨pr, 0, none⟩) ∧ ∃ acc R' v', m = R'.parts.length ∧ R.files = (acc ++ R'.files.1, R'.files.2) ∧ acc.length + R'.parts.length ≤ R.parts.length ∧ w'.ownsRow w.heap.size 35 2 (σ 3) acc.length (filesC acc) ∧ RdAt w' pr B R' v' ∧ RStep pr w w') (fun m => m) R.parts.length ?_ ?_
  · refine ⟨by simp [upd, envOf], [], R, v, rfl, by simp, by simp, ?_, HR.out, RStep.refl _ _⟩
    simp [upd]
    exact World.ownsRow_nil _ _ _ _
  rintro m σ w1 ⟨e0, acc, R', v', rfl, hf, hc, ho, hr, hs⟩
  generalize hv : σ 3 = va at ho
  have HF := Lib.hid hf
  have HO := Lib.hid ho
  have HR1 := Lib.hid hr
  have HS1 := Lib.hid hs
  have hws : w.heap.size ≤ w1.heap.size := hs.size
  clear hf ho hr hs
  have HQ := Lib.hid (quotedNext_r pr B R' v' w1 HR1.out)
  by_cases hq : R'.quotedNext = true
  · obtain ⟨p, r, rfl, hpq, hnx, hfl, hle⟩ := files_go hq
    rw [hq] at HQ
    have HN1 := Lib.hid (next_r pr B _ v' true w1 HR1.out)
    rw [hnx] at HN1
    have HFL := Lib.hid hfl
    have HLE := Lib.hid hle
    simp only [List.length_cons] at hc
    clear hq hpq hnx hfl hle
    repeat' (first | with_reducible (first | refine wE_seq (fun K hK => ?_) | refine wE_block ?_ | refine wE_skip ?_ | refine wE_ret ?_ | refine wE_exit ?_) | ((with_reducible refine wE_region ?_ ?_); (kernel_rfl); simp only [ls, stripO]) | ((with_reducible refine wS_step (fun K hK => ?_)); simp [go_sem, lk, upd, envOf, stepS_value, stepS_skip, stepS_enter, ↓IntWalk.iteOmega, *]; (try go_ints); refine hK.out _ _ ?_; clear hK K) | ((with_reducible refine wS_unit (fun K hK => ?_)); simp [go_sem, lk, upd, envOf, stepS_value, stepS_skip, stepS_enter, ↓IntWalk.iteOmega, *]; (try go_ints); refine hK.out _ _ ?_; clear hK K) | ((with_reducible refine wS_skip ?_ ?_); (focus (simp [lk, upd, envOf, *]; done))) | ((with_reducible refine wS_want ?_ ?_); (focus (simp [lk, upd, envOf, *]; done))) | ((with_reducible refine wS_split (fun hc => ?_) (fun hc => ?_)) <;> simp [lk, upd, envOf, *] at hc <;> try (exfalso; omega)) | with_reducible refine wS_nil ?_ | simp only [thenE, blockE, ↓reduceIte, Nat.reduceEqDiff] | ((with_reducible refine hK.out _ _ ?_); clear hK K) | ((with_reducible refine wE_if ?_ (fun hc => ?_) (fun hc => ?_)); (focus (simp [lk, upd, envOf, *]; done)); all_goals (simp [lk, upd, envOf, *] at hc <;> try (exfalso; omega))) | (clear hK; clear K))
    (with_reducible refine wS_step (fun K hK => ?_)); simp [go_sem, lk, upd, envOf, stepS_value, stepS_skip, stepS_enter, ↓IntWalk.iteOmega, *]; (try go_ints); refine (HQ.out).mono ?_; rintro e w2 ⟨rfl, rfl⟩; refine ⟨_, rfl, hK.out _ _ ?_⟩; clear hK K
    repeat' (first | with_reducible (first | refine wE_seq (fun K hK => ?_) | refine wE_block ?_ | refine wE_skip ?_ | refine wE_ret ?_ | refine wE_exit ?_) | ((with_reducible refine wE_region ?_ ?_); (kernel_rfl); simp only [ls, stripO]) | ((with_reducible refine wS_step (fun K hK => ?_)); simp [go_sem, lk, upd, envOf, stepS_value, stepS_skip, stepS_enter, ↓IntWalk.iteOmega, *]; (try go_ints); refine hK.out _ _ ?_; clear hK K) | ((with_reducible refine wS_unit (fun K hK => ?_)); simp [go_sem, lk, upd, envOf, stepS_value, stepS_skip, stepS_enter, ↓IntWalk.iteOmega, *]; (try go_ints); refine hK.out _ _ ?_; clear hK K) | ((with_reducible refine wS_skip ?_ ?_); (focus (simp [lk, upd, envOf, *]; done))) | ((with_reducible refine wS_want ?_ ?_); (focus (simp [lk, upd, envOf, *]; done))) | ((with_reducible refine wS_split (fun hc => ?_) (fun hc => ?_)) <;> simp [lk, upd, envOf, *] at hc <;> try (exfalso; omega)) | with_reducible refine wS_nil ?_ | simp only [thenE, blockE, ↓reduceIte, Nat.reduceEqDiff] | ((with_reducible refine hK.out _ _ ?_); clear hK K) | ((with_reducible refine wE_if ?_ (fun hc => ?_) (fun hc => ?_)); (focus (simp [lk, upd, envOf, *]; done)); all_goals (simp [lk, upd, envOf, *] at hc <;> try (exfalso; omega))) | (clear hK; clear K))
    (with_reducible refine wS_step (fun K hK => ?_)); simp [go_sem, lk, upd, envOf, stepS_value, stepS_skip, stepS_enter, ↓IntWalk.iteOmega, *]; (try go_ints); refine (HN1.out).mono ?_; rintro e w3 ⟨rfl, v3, hr3, hs3⟩; refine ⟨_, rfl, hK.out _ _ ?_⟩; clear hK K
    have HR3 := Lib.hid hr3
    have HS3 := Lib.hid (HS1.out.trans hs3)
    have HO3 := Lib.hid (row_step HO.out hs3 hpw)
    have hw3 : w1.heap.size ≤ w3.heap.size := hs3.size
    clear hr3 hs3
    repeat' (first | with_reducible (first | refine wE_seq (fun K hK => ?_) | refine wE_block ?_ | refine wE_skip ?_ | refine wE_ret ?_ | refine wE_exit ?_) | ((with_reducible refine wE_region ?_ ?_); (kernel_rfl); simp only [ls, stripO]) | ((with_reducible refine wS_step (fun K hK => ?_)); simp [go_sem, lk, upd, envOf, stepS_value, stepS_skip, stepS_enter, ↓IntWalk.iteOmega, *]; (try go_ints); refine hK.out _ _ ?_; clear hK K) | ((with_reducible refine wS_unit (fun K hK => ?_)); simp [go_sem, lk, upd, envOf, stepS_value, stepS_skip, stepS_enter, ↓IntWalk.iteOmega, *]; (try go_ints); refine hK.out _ _ ?_; clear hK K) | ((with_reducible refine wS_skip ?_ ?_); (focus (simp [lk, upd, envOf, *]; done))) | ((with_reducible refine wS_want ?_ ?_); (focus (simp [lk, upd, envOf, *]; done))) | ((with_reducible refine wS_split (fun hc => ?_) (fun hc => ?_)) <;> simp [lk, upd, envOf, *] at hc <;> try (exfalso; omega)) | with_reducible refine wS_nil ?_ | simp only [thenE, blockE, ↓reduceIte, Nat.reduceEqDiff] | ((with_reducible refine hK.out _ _ ?_); clear hK K) | ((with_reducible refine wE_if ?_ (fun hc => ?_) (fun hc => ?_)); (focus (simp [lk, upd, envOf, *]; done)); all_goals (simp [lk, upd, envOf, *] at hc <;> try (exfalso; omega))) | (clear hK; clear K))
    (with_reducible refine wS_step (fun K hK => ?_)); simp [go_sem, lk, upd, envOf, stepS_value, stepS_skip, stepS_enter, ↓IntWalk.iteOmega, *]; (try go_ints); refine (next_r pr B ⟨r, false⟩ v3 true w3 HR3.out).mono ?_; rintro e w4 ⟨rfl, v4, hr4, hs4⟩; refine ⟨_, rfl, hK.out _ _ ?_⟩; clear hK K
    have HR4 := Lib.hid hr4
    have HS4 := Lib.hid (HS3.out.trans hs4)
    have ho4 := row_step HO3.out hs4 hpw
    have hw4 : w3.heap.size ≤ w4.heap.size := hs4.size
    clear hr4 hs4
    generalize hnx : (Rd.mk r false).next true = nx at *
    obtain ⟨tx, R2⟩ := nx
    simp only at *
    obtain ⟨v5, w5, hrun, hown5, hbel5⟩ := app_file w4 w.heap.size va acc (p.text, tx) ho4 (by omega) (by omega)
    have HRN := Lib.hid hrun
    have HO5 := Lib.hid hown5
    have HR5 := Lib.hid (HR4.out.below (hbel5.mono hB) hpB)
    have HS5 : Hid (RStep pr w w5) := ⟨hbel5.os.trans HS4.out.os, hbel5.tape.trans HS4.out.tape, hbel5.output.trans HS4.out.output, Nat.le_trans HS4.out.size hbel5.size, fun k hk hp => by rw [hbel5.block k hk, HS4.out.block k hk hp]⟩
    clear ho4 hrun hown5 hbel5
    repeat' (first | with_reducible (first | refine wE_seq (fun K hK => ?_) | refine wE_block ?_ | refine wE_skip ?_ | refine wE_ret ?_ | refine wE_exit ?_) | ((with_reducible refine wE_region ?_ ?_); (kernel_rfl); simp only [ls, stripO]) | ((with_reducible refine wS_step (fun K hK => ?_)); simp [go_sem, lk, upd, envOf, stepS_value, stepS_skip, stepS_enter, ↓IntWalk.iteOmega, *]; (try go_ints); refine hK.out _ _ ?_; clear hK K) | ((with_reducible refine wS_unit (fun K hK => ?_)); simp [go_sem, lk, upd, envOf, stepS_value, stepS_skip, stepS_enter, ↓IntWalk.iteOmega, *]; (try go_ints); refine hK.out _ _ ?_; clear hK K) | ((with_reducible refine wS_skip ?_ ?_); (focus (simp [lk, upd, envOf, *]; done))) | ((with_reducible refine wS_want ?_ ?_); (focus (simp [lk, upd, envOf, *]; done))) | ((with_reducible refine wS_split (fun hc => ?_) (fun hc => ?_)) <;> simp [lk, upd, envOf, *] at hc <;> try (exfalso; omega)) | with_reducible refine wS_nil ?_ | simp only [thenE, blockE, ↓reduceIte, Nat.reduceEqDiff] | ((with_reducible refine hK.out _ _ ?_); clear hK K) | ((with_reducible refine wE_if ?_ (fun hc => ?_) (fun hc => ?_)); (focus (simp [lk, upd, envOf, *]; done)); all_goals (simp [lk, upd, envOf, *] at hc <;> try (exfalso; omega))) | (clear hK; clear K))
    refine wS_append va (.slice (some ⟨w4.heap.size, 0, none⟩) 1 1) ?_ ?_ HRN.out ?_
    · simp [evalS_tmp, upd, *]
    · simp [evalS_tmp, upd]
    repeat' (first | with_reducible (first | refine wE_seq (fun K hK => ?_) | refine wE_block ?_ | refine wE_skip ?_ | refine wE_ret ?_ | refine wE_exit ?_) | ((with_reducible refine wE_region ?_ ?_); (kernel_rfl); simp only [ls, stripO]) | ((with_reducible refine wS_step (fun K hK => ?_)); simp [go_sem, lk, upd, envOf, stepS_value, stepS_skip, stepS_enter, ↓IntWalk.iteOmega, *]; (try go_ints); refine hK.out _ _ ?_; clear hK K) | ((with_reducible refine wS_unit (fun K hK => ?_)); simp [go_sem, lk, upd, envOf, stepS_value, stepS_skip, stepS_enter, ↓IntWalk.iteOmega, *]; (try go_ints); refine hK.out _ _ ?_; clear hK K) | ((with_reducible refine wS_skip ?_ ?_); (focus (simp [lk, upd, envOf, *]; done))) | ((with_reducible refine wS_want ?_ ?_); (focus (simp [lk, upd, envOf, *]; done))) | ((with_reducible refine wS_split (fun hc => ?_) (fun hc => ?_)) <;> simp [lk, upd, envOf, *] at hc <;> try (exfalso; omega)) | with_reducible refine wS_nil ?_ | simp only [thenE, blockE, ↓reduceIte, Nat.reduceEqDiff] | ((with_reducible refine hK.out _ _ ?_); clear hK K) | ((with_reducible refine wE_if ?_ (fun hc => ?_) (fun hc => ?_)); (focus (simp [lk, upd, envOf, *]; done)); all_goals (simp [lk, upd, envOf, *] at hc <;> try (exfalso; omega))) | (clear hK; clear K))
    refine ⟨R2.parts.length, ⟨by simp [upd, *], acc ++ [(p.text, tx)], R2, v4, rfl, ?_, ?_, ?_, HR5.out, HS5.out⟩, ?_⟩
    · rw [HF.out, HFL.out]; simp
    · have := HLE.out; simp; omega
    · simpa [upd] using HO5.out
    · have := HLE.out; simp; omega
  · have hq' : R'.quotedNext = false := by simpa using hq
    have HST := Lib.hid (files_stop hq')
    rw [hq'] at HQ
    clear hq hq'
    repeat' (first | with_reducible (first | refine wE_seq (fun K hK => ?_) | refine wE_block ?_ | refine wE_skip ?_ | refine wE_ret ?_ | refine wE_exit ?_) | ((with_reducible refine wE_region ?_ ?_); (kernel_rfl); simp only [ls, stripO]) | ((with_reducible refine wS_step (fun K hK => ?_)); simp [go_sem, lk, upd, envOf, stepS_value, stepS_skip, stepS_enter, ↓IntWalk.iteOmega, *]; (try go_ints); refine hK.out _ _ ?_; clear hK K) | ((with_reducible refine wS_unit (fun K hK => ?_)); simp [go_sem, lk, upd, envOf, stepS_value, stepS_skip, stepS_enter, ↓IntWalk.iteOmega, *]; (try go_ints); refine hK.out _ _ ?_; clear hK K) | ((with_reducible refine wS_skip ?_ ?_); (focus (simp [lk, upd, envOf, *]; done))) | ((with_reducible refine wS_want ?_ ?_); (focus (simp [lk, upd, envOf, *]; done))) | ((with_reducible refine wS_split (fun hc => ?_) (fun hc => ?_)) <;> simp [lk, upd, envOf, *] at hc <;> try (exfalso; omega)) | with_reducible refine wS_nil ?_ | simp only [thenE, blockE, ↓reduceIte, Nat.reduceEqDiff] | ((with_reducible refine hK.out _ _ ?_); clear hK K) | ((with_reducible refine wE_if ?_ (fun hc => ?_) (fun hc => ?_)); (focus (simp [lk, upd, envOf, *]; done)); all_goals (simp [lk, upd, envOf, *] at hc <;> try (exfalso; omega))) | (clear hK; clear K))
    (with_reducible refine wS_step (fun K hK => ?_)); simp [go_sem, lk, upd, envOf, stepS_value, stepS_skip, stepS_enter, ↓IntWalk.iteOmega, *]; (try go_ints); refine (HQ.out).mono ?_; rintro e w2 ⟨rfl, rfl⟩; refine ⟨_, rfl, hK.out _ _ ?_⟩; clear hK K
    repeat' (first | with_reducible (first | refine wE_seq (fun K hK => ?_) | refine wE_block ?_ | refine wE_skip ?_ | refine wE_ret ?_ | refine wE_exit ?_) | ((with_reducible refine wE_region ?_ ?_); (kernel_rfl); simp only [ls, stripO]) | ((with_reducible refine wS_step (fun K hK => ?_)); simp [go_sem, lk, upd, envOf, stepS_value, stepS_skip, stepS_enter, ↓IntWalk.iteOmega, *]; (try go_ints); refine hK.out _ _ ?_; clear hK K) | ((with_reducible refine wS_unit (fun K hK => ?_)); simp [go_sem, lk, upd, envOf, stepS_value, stepS_skip, stepS_enter, ↓IntWalk.iteOmega, *]; (try go_ints); refine hK.out _ _ ?_; clear hK K) | ((with_reducible refine wS_skip ?_ ?_); (focus (simp [lk, upd, envOf, *]; done))) | ((with_reducible refine wS_want ?_ ?_); (focus (simp [lk, upd, envOf, *]; done))) | ((with_reducible refine wS_split (fun hc => ?_) (fun hc => ?_)) <;> simp [lk, upd, envOf, *] at hc <;> try (exfalso; omega)) | with_reducible refine wS_nil ?_ | simp only [thenE, blockE, ↓reduceIte, Nat.reduceEqDiff] | ((with_reducible refine hK.out _ _ ?_); clear hK K) | ((with_reducible refine wE_if ?_ (fun hc => ?_) (fun hc => ?_)); (focus (simp [lk, upd, envOf, *]; done)); all_goals (simp [lk, upd, envOf, *] at hc <;> try (exfalso; omega))) | (clear hK; clear K))
    refine endE_tmp rfl ⟨va, v', by simp [upd, hv], ?_, ?_, HS1.out⟩
    · rw [HF.out, HST.out]; simpa using HO.out
    · rw [HF.out, HST.out]; exact HR1.out
theorem picks_stop {R : Rd} (h : R.wrong = true ∨ R.parts = []) : R.picks = ([], R) := by
  obtain ⟨ps, wr⟩ := R
  rcases h with h | h
  · simp only at h; subst h; rfl
  · simp only at h; subst h
    cases wr <;> rfl
theorem atoiV_range (s : ByteArray) : I64 (atoiV s).1 := by
  unfold atoiV
  split
  · rename_i v h
    exact Lib.atoiAll_bounds h
  · unfold Lib.atoiSat
    split
    · exact ⟨by omega, by omega⟩
    · exact ⟨by omega, by omega⟩
  · exact ⟨by omega, by omega⟩
theorem picks_go {p : PPart} {r : List PPart} : (Rd.mk (p :: r) false).picks = ((Rd.mk (p :: r) false).number.1 :: (Rd.mk (p :: r) false).number.2.picks.1, (Rd.mk (p :: r) false).number.2.picks.2) ∧
    ((Rd.mk (p :: r) false).number.2.wrong = true ∨ (Rd.mk (p :: r) false).number.2 = ⟨r, false⟩) := by
  by_cases hw : (Rd.mk (p :: r) false).number.2.wrong = true
  · refine ⟨?_, .inl hw⟩
    rw [picks_stop (R := (Rd.mk (p :: r) false).number.2) (.inl hw)]
    unfold Rd.picks
    simp only [Bool.false_eq_true, if_false]
    rw [picksF, if_pos hw]
  · have hw' : (Rd.mk (p :: r) false).number.2.wrong = false := by simpa using hw
    have e : (Rd.mk (p :: r) false).number.2 = ⟨r, false⟩ := by
      have h1 := hw'
      simp only [Rd.number] at h1 ⊢
      rw [Bool.or_eq_false_iff] at h1
      by_cases hq : p.quoted = false
      · simp only [Rd.next, hq, if_true] at h1 ⊢
        rw [h1.2]; rfl
      · simp [Rd.next, hq] at h1
    refine ⟨?_, .inr e⟩
    rw [e]
    unfold Rd.picks
    simp only [Bool.false_eq_true, if_false]
    rw [picksF, if_neg hw]
set_option maxHeartbeats 4000000 in
set_option maxRecDepth 100000 in
theorem picks_r (pr B : Nat) (R : Rd) (v : Value) (w : World) (h : RdAt w pr B R v) (he : Errs w) (hp3 : 3 < pr) (hB : B ≤ w.heap.size) (hpB : pr < B) (hsm : SmallP R.parts) (hl : R.parts.length ≤ 10000000) :
    Calls Tryz.prog 41 #[.pointer (some ⟨pr, 0, none⟩)] w fun e w' => ∃ vf v', e = .returned vf ∧ w'.ownsRow w.heap.size 3 1 vf R.picks.1.length (R.picks.1.map intV) ∧ (∀ n ∈ R.picks.1, I64 n) ∧ RdAt w' pr B R.picks.2 v' ∧ RStep pr w w' := by
  have HR := Lib.hid h
  have HE := Lib.hid he
  have HSM := Lib.hid hsm
  have hpw := h.lt
  clear h he hsm
  refine calls_of_wE Tryz.func41 rfl Tryz.ntmps41 (by simp) ?_
  repeat' (first | with_reducible (first | refine wE_seq (fun K hK => ?_) | refine wE_block ?_ | refine wE_skip ?_ | refine wE_ret ?_ | refine wE_exit ?_) | ((with_reducible refine wE_region ?_ ?_); (kernel_rfl); simp only [ls, stripO]) | ((with_reducible refine wS_step (fun K hK => ?_)); simp [go_sem, lk, upd, envOf, stepS_value, stepS_skip, stepS_enter, ↓IntWalk.iteOmega, *]; (try go_ints); refine hK.out _ _ ?_; clear hK K) | ((with_reducible refine wS_unit (fun K hK => ?_)); simp [go_sem, lk, upd, envOf, stepS_value, stepS_skip, stepS_enter, ↓IntWalk.iteOmega, *]; (try go_ints); refine hK.out _ _ ?_; clear hK K) | ((with_reducible refine wS_skip ?_ ?_); (focus (simp [lk, upd, envOf, *]; done))) | ((with_reducible refine wS_want ?_ ?_); (focus (simp [lk, upd, envOf, *]; done))) | ((with_reducible refine wS_split (fun hc => ?_) (fun hc => ?_)) <;> simp [lk, upd, envOf, *] at hc <;> try (exfalso; omega)) | with_reducible refine wS_nil ?_ | simp only [thenE, blockE, ↓reduceIte, Nat.reduceEqDiff] | ((with_reducible refine hK.out _ _ ?_); clear hK K) | ((with_reducible refine wE_if ?_ (fun hc => ?_) (fun hc => ?_)); (focus (simp [lk, upd, envOf, *]; done)); all_goals (simp [lk, upd, envOf, *] at hc <;> try (exfalso; omega))) | (clear hK; clear K))
  refine wE_loop (fun (m : Nat) σ w' => σ 0 = .pointer (some ⟨pr, 0, none⟩) ∧ ∃ acc R' v', m = (if R'.wrong then 0 else R'.parts.length + 1) ∧ R.picks = (acc ++ R'.picks.1, R'.picks.2) ∧ SmallP R'.parts ∧ (∀ n ∈ acc, I64 n) ∧ (R'.wrong = false → acc.length + R'.parts.length ≤ R.parts.length) ∧ w'.ownsRow w.heap.size 3 1 (σ 3) acc.length (acc.map intV) ∧ RdAt w' pr B R' v' ∧ RStep pr w w') (fun m => m) (if R.wrong then 0 else R.parts.length + 1) ?_ ?_
  · refine ⟨by simp [upd, envOf], [], R, v, rfl, by simp, HSM.out, by simp, by simp, ?_, HR.out, RStep.refl _ _⟩
    simp [upd]
    exact World.ownsRow_nil _ _ _ _
  rintro m σ w1 ⟨e0, acc, R', v', rfl, hf, hsm', hi, hc, ho, hr, hs⟩
  generalize hv : σ 3 = va at ho
  have HF := Lib.hid hf
  have HO := Lib.hid ho
  have HR1 := Lib.hid hr
  have HS1 := Lib.hid hs
  have HI := Lib.hid hi
  have HC := Lib.hid hc
  have HSM' := Lib.hid hsm'
  have hws : w.heap.size ≤ w1.heap.size := hs.size
  clear hf ho hr hs hi hc hsm'
  obtain ⟨a, c, rfl, hcap, -⟩ := HR1.out.parts
  have r0 : w1.cell? ⟨pr, 0, none⟩ = some (.slice a R'.parts.length c) := by rw [cell_of_row w1 pr 0 _ _ _ HR1.out.cell]; rfl
  have r1 : w1.cell? ⟨pr, 1, none⟩ = some (.bool R'.wrong) := by rw [cell_of_row w1 pr 1 _ _ _ HR1.out.cell]; rfl
  by_cases hst : R'.wrong = true ∨ R'.parts = []
  · have HST := Lib.hid (picks_stop hst)
    rcases hst with hw | hw
    · rw [hw] at r1
      clear hw
      repeat' (first | with_reducible (first | refine wE_seq (fun K hK => ?_) | refine wE_block ?_ | refine wE_skip ?_ | refine wE_ret ?_ | refine wE_exit ?_) | ((with_reducible refine wE_region ?_ ?_); (kernel_rfl); simp only [ls, stripO]) | ((with_reducible refine wS_step (fun K hK => ?_)); simp [go_sem, lk, upd, envOf, stepS_value, stepS_skip, stepS_enter, ↓IntWalk.iteOmega, *]; (try go_ints); refine hK.out _ _ ?_; clear hK K) | ((with_reducible refine wS_unit (fun K hK => ?_)); simp [go_sem, lk, upd, envOf, stepS_value, stepS_skip, stepS_enter, ↓IntWalk.iteOmega, *]; (try go_ints); refine hK.out _ _ ?_; clear hK K) | ((with_reducible refine wS_skip ?_ ?_); (focus (simp [lk, upd, envOf, *]; done))) | ((with_reducible refine wS_want ?_ ?_); (focus (simp [lk, upd, envOf, *]; done))) | ((with_reducible refine wS_split (fun hc => ?_) (fun hc => ?_)) <;> simp [lk, upd, envOf, *] at hc <;> try (exfalso; omega)) | with_reducible refine wS_nil ?_ | simp only [thenE, blockE, ↓reduceIte, Nat.reduceEqDiff] | ((with_reducible refine hK.out _ _ ?_); clear hK K) | ((with_reducible refine wE_if ?_ (fun hc => ?_) (fun hc => ?_)); (focus (simp [lk, upd, envOf, *]; done)); all_goals (simp [lk, upd, envOf, *] at hc <;> try (exfalso; omega))) | (clear hK; clear K))
      refine endE_tmp rfl ⟨va, .slice a R'.parts.length c, by simp [upd, hv], ?_, ?_, ?_, HS1.out⟩
      · rw [HF.out, HST.out]; simpa using HO.out
      · rw [HF.out, HST.out]; simpa using HI.out
      · rw [HF.out, HST.out]; exact HR1.out
    · rw [hw] at r0
      simp only [List.length_nil] at r0
      cases hwr : R'.wrong
      · rw [hwr] at r1
        clear hw hwr
        repeat' (first | with_reducible (first | refine wE_seq (fun K hK => ?_) | refine wE_block ?_ | refine wE_skip ?_ | refine wE_ret ?_ | refine wE_exit ?_) | ((with_reducible refine wE_region ?_ ?_); (kernel_rfl); simp only [ls, stripO]) | ((with_reducible refine wS_step (fun K hK => ?_)); simp [go_sem, lk, upd, envOf, stepS_value, stepS_skip, stepS_enter, ↓IntWalk.iteOmega, *]; (try go_ints); refine hK.out _ _ ?_; clear hK K) | ((with_reducible refine wS_unit (fun K hK => ?_)); simp [go_sem, lk, upd, envOf, stepS_value, stepS_skip, stepS_enter, ↓IntWalk.iteOmega, *]; (try go_ints); refine hK.out _ _ ?_; clear hK K) | ((with_reducible refine wS_skip ?_ ?_); (focus (simp [lk, upd, envOf, *]; done))) | ((with_reducible refine wS_want ?_ ?_); (focus (simp [lk, upd, envOf, *]; done))) | ((with_reducible refine wS_split (fun hc => ?_) (fun hc => ?_)) <;> simp [lk, upd, envOf, *] at hc <;> try (exfalso; omega)) | with_reducible refine wS_nil ?_ | simp only [thenE, blockE, ↓reduceIte, Nat.reduceEqDiff] | ((with_reducible refine hK.out _ _ ?_); clear hK K) | ((with_reducible refine wE_if ?_ (fun hc => ?_) (fun hc => ?_)); (focus (simp [lk, upd, envOf, *]; done)); all_goals (simp [lk, upd, envOf, *] at hc <;> try (exfalso; omega))) | (clear hK; clear K))
        refine endE_tmp rfl ⟨va, .slice a R'.parts.length c, by simp [upd, hv], ?_, ?_, ?_, HS1.out⟩
        · rw [HF.out, HST.out]; simpa using HO.out
        · rw [HF.out, HST.out]; simpa using HI.out
        · rw [HF.out, HST.out]; exact HR1.out
      · rw [hwr] at r1
        clear hw hwr
        repeat' (first | with_reducible (first | refine wE_seq (fun K hK => ?_) | refine wE_block ?_ | refine wE_skip ?_ | refine wE_ret ?_ | refine wE_exit ?_) | ((with_reducible refine wE_region ?_ ?_); (kernel_rfl); simp only [ls, stripO]) | ((with_reducible refine wS_step (fun K hK => ?_)); simp [go_sem, lk, upd, envOf, stepS_value, stepS_skip, stepS_enter, ↓IntWalk.iteOmega, *]; (try go_ints); refine hK.out _ _ ?_; clear hK K) | ((with_reducible refine wS_unit (fun K hK => ?_)); simp [go_sem, lk, upd, envOf, stepS_value, stepS_skip, stepS_enter, ↓IntWalk.iteOmega, *]; (try go_ints); refine hK.out _ _ ?_; clear hK K) | ((with_reducible refine wS_skip ?_ ?_); (focus (simp [lk, upd, envOf, *]; done))) | ((with_reducible refine wS_want ?_ ?_); (focus (simp [lk, upd, envOf, *]; done))) | ((with_reducible refine wS_split (fun hc => ?_) (fun hc => ?_)) <;> simp [lk, upd, envOf, *] at hc <;> try (exfalso; omega)) | with_reducible refine wS_nil ?_ | simp only [thenE, blockE, ↓reduceIte, Nat.reduceEqDiff] | ((with_reducible refine hK.out _ _ ?_); clear hK K) | ((with_reducible refine wE_if ?_ (fun hc => ?_) (fun hc => ?_)); (focus (simp [lk, upd, envOf, *]; done)); all_goals (simp [lk, upd, envOf, *] at hc <;> try (exfalso; omega))) | (clear hK; clear K))
        refine endE_tmp rfl ⟨va, .slice a R'.parts.length c, by simp [upd, hv], ?_, ?_, ?_, HS1.out⟩
        · rw [HF.out, HST.out]; simpa using HO.out
        · rw [HF.out, HST.out]; simpa using HI.out
        · rw [HF.out, HST.out]; exact HR1.out
  · rw [not_or] at hst
    obtain ⟨hw, hne⟩ := hst
    obtain ⟨ps, wr⟩ := R'
    simp only at *
    have hwr : wr = false := by simpa using hw
    subst hwr
    cases ps with
    | nil => exact absurd rfl hne
    | cons p r =>
      simp only [List.length_cons] at *
      obtain ⟨hgo, hnx⟩ := picks_go (p := p) (r := r)
      have HGO := Lib.hid hgo
      have HNX := Lib.hid hnx
      have hcn : acc.length + (r.length + 1) ≤ R.parts.length := by have := HC.out trivial; simpa using this
      have HNI := Lib.hid (show I64 (Rd.mk (p :: r) false).number.1 from atoiV_range _)
      have HSN := Lib.hid (show SmallP (Rd.mk (p :: r) false).number.2.parts from (next_small HSM'.out false).2)
      have HNM := Lib.hid (number_r pr B ⟨p :: r, false⟩ _ w1 HR1.out (HE.out.step HS1.out hp3) hp3 HSM'.out)
      clear hgo hnx hw hne
      generalize (Rd.mk (p :: r) false).number = nx at *
      obtain ⟨n, R2⟩ := nx
      simp only at *
      repeat' (first | with_reducible (first | refine wE_seq (fun K hK => ?_) | refine wE_block ?_ | refine wE_skip ?_ | refine wE_ret ?_ | refine wE_exit ?_) | ((with_reducible refine wE_region ?_ ?_); (kernel_rfl); simp only [ls, stripO]) | ((with_reducible refine wS_step (fun K hK => ?_)); simp [go_sem, lk, upd, envOf, stepS_value, stepS_skip, stepS_enter, ↓IntWalk.iteOmega, *]; (try go_ints); refine hK.out _ _ ?_; clear hK K) | ((with_reducible refine wS_unit (fun K hK => ?_)); simp [go_sem, lk, upd, envOf, stepS_value, stepS_skip, stepS_enter, ↓IntWalk.iteOmega, *]; (try go_ints); refine hK.out _ _ ?_; clear hK K) | ((with_reducible refine wS_skip ?_ ?_); (focus (simp [lk, upd, envOf, *]; done))) | ((with_reducible refine wS_want ?_ ?_); (focus (simp [lk, upd, envOf, *]; done))) | ((with_reducible refine wS_split (fun hc => ?_) (fun hc => ?_)) <;> simp [lk, upd, envOf, *] at hc <;> try (exfalso; omega)) | with_reducible refine wS_nil ?_ | simp only [thenE, blockE, ↓reduceIte, Nat.reduceEqDiff] | ((with_reducible refine hK.out _ _ ?_); clear hK K) | ((with_reducible refine wE_if ?_ (fun hc => ?_) (fun hc => ?_)); (focus (simp [lk, upd, envOf, *]; done)); all_goals (simp [lk, upd, envOf, *] at hc <;> try (exfalso; omega))) | (clear hK; clear K))
      (with_reducible refine wS_step (fun K hK => ?_)); simp [go_sem, lk, upd, envOf, stepS_value, stepS_skip, stepS_enter, ↓IntWalk.iteOmega, *]; (try go_ints); refine (HNM.out).mono ?_; rintro e w2 ⟨rfl, v2, hr2, hs2⟩; refine ⟨_, rfl, hK.out _ _ ?_⟩; clear hK K
      have HR2 := Lib.hid hr2
      have HS2 := Lib.hid (HS1.out.trans hs2)
      have ho2 := row_step HO.out hs2 hpw
      have hw2 : w1.heap.size ≤ w2.heap.size := hs2.size
      obtain ⟨v5, w5, hrun, hown5, hbel5⟩ := app_int w2 w.heap.size va acc n ho2 (by omega) (by omega)
      have HRN := Lib.hid hrun
      have HO5 := Lib.hid hown5
      have HR5 := Lib.hid (HR2.out.below (hbel5.mono hB) hpB)
      have HS5 : Hid (RStep pr w w5) := ⟨hbel5.os.trans HS2.out.os, hbel5.tape.trans HS2.out.tape, hbel5.output.trans HS2.out.output, Nat.le_trans HS2.out.size hbel5.size, fun k hk hp => by rw [hbel5.block k hk, HS2.out.block k hk hp]⟩
      clear hr2 hs2 ho2 hrun hown5 hbel5
      repeat' (first | with_reducible (first | refine wE_seq (fun K hK => ?_) | refine wE_block ?_ | refine wE_skip ?_ | refine wE_ret ?_ | refine wE_exit ?_) | ((with_reducible refine wE_region ?_ ?_); (kernel_rfl); simp only [ls, stripO]) | ((with_reducible refine wS_step (fun K hK => ?_)); simp [go_sem, lk, upd, envOf, stepS_value, stepS_skip, stepS_enter, ↓IntWalk.iteOmega, *]; (try go_ints); refine hK.out _ _ ?_; clear hK K) | ((with_reducible refine wS_unit (fun K hK => ?_)); simp [go_sem, lk, upd, envOf, stepS_value, stepS_skip, stepS_enter, ↓IntWalk.iteOmega, *]; (try go_ints); refine hK.out _ _ ?_; clear hK K) | ((with_reducible refine wS_skip ?_ ?_); (focus (simp [lk, upd, envOf, *]; done))) | ((with_reducible refine wS_want ?_ ?_); (focus (simp [lk, upd, envOf, *]; done))) | ((with_reducible refine wS_split (fun hc => ?_) (fun hc => ?_)) <;> simp [lk, upd, envOf, *] at hc <;> try (exfalso; omega)) | with_reducible refine wS_nil ?_ | simp only [thenE, blockE, ↓reduceIte, Nat.reduceEqDiff] | ((with_reducible refine hK.out _ _ ?_); clear hK K) | ((with_reducible refine wE_if ?_ (fun hc => ?_) (fun hc => ?_)); (focus (simp [lk, upd, envOf, *]; done)); all_goals (simp [lk, upd, envOf, *] at hc <;> try (exfalso; omega))) | (clear hK; clear K))
      refine wS_append va (.slice (some ⟨w2.heap.size, 0, none⟩) 1 1) ?_ ?_ HRN.out ?_
      · simp [evalS_tmp, upd, *]
      · simp [evalS_tmp, upd]
      repeat' (first | with_reducible (first | refine wE_seq (fun K hK => ?_) | refine wE_block ?_ | refine wE_skip ?_ | refine wE_ret ?_ | refine wE_exit ?_) | ((with_reducible refine wE_region ?_ ?_); (kernel_rfl); simp only [ls, stripO]) | ((with_reducible refine wS_step (fun K hK => ?_)); simp [go_sem, lk, upd, envOf, stepS_value, stepS_skip, stepS_enter, ↓IntWalk.iteOmega, *]; (try go_ints); refine hK.out _ _ ?_; clear hK K) | ((with_reducible refine wS_unit (fun K hK => ?_)); simp [go_sem, lk, upd, envOf, stepS_value, stepS_skip, stepS_enter, ↓IntWalk.iteOmega, *]; (try go_ints); refine hK.out _ _ ?_; clear hK K) | ((with_reducible refine wS_skip ?_ ?_); (focus (simp [lk, upd, envOf, *]; done))) | ((with_reducible refine wS_want ?_ ?_); (focus (simp [lk, upd, envOf, *]; done))) | ((with_reducible refine wS_split (fun hc => ?_) (fun hc => ?_)) <;> simp [lk, upd, envOf, *] at hc <;> try (exfalso; omega)) | with_reducible refine wS_nil ?_ | simp only [thenE, blockE, ↓reduceIte, Nat.reduceEqDiff] | ((with_reducible refine hK.out _ _ ?_); clear hK K) | ((with_reducible refine wE_if ?_ (fun hc => ?_) (fun hc => ?_)); (focus (simp [lk, upd, envOf, *]; done)); all_goals (simp [lk, upd, envOf, *] at hc <;> try (exfalso; omega))) | (clear hK; clear K))
      refine ⟨_, ⟨by simp [upd, *], acc ++ [n], R2, v2, rfl, ?_, HSN.out, ?_, ?_, ?_, HR5.out, HS5.out⟩, ?_⟩
      · rw [HF.out, HGO.out]; simp
      · intro x hx
        rw [List.mem_append] at hx
        rcases hx with hx | hx
        · exact HI.out x hx
        · rw [List.mem_singleton] at hx; rw [hx]; exact HNI.out
      · intro hwf
        rcases HNX.out with h | h
        · rw [hwf] at h; simp at h
        · rw [h]; simp; omega
      · simpa [upd] using HO5.out
      · rcases HNX.out with h | h
        · simp [h]
        · rw [h]; simp
end Go.Proofs.YtglekdhdogjnoaaGreatDoor
