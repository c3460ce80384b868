/- The program's reader: its state in memory; next, number, quotedNext. -/
import Derived.Test.YtglekdhdogjnoaaGreatDoorPrsC
namespace Go.Proofs.YtglekdhdogjnoaaGreatDoor
open Go.RowKit
set_option linter.unusedSimpArgs false
/-- A slice of parts beside the block pr. -/
def PartsAt (w : World) (pr B : Nat) (v : Value) (ps : List PPart) : Prop :=
  ∃ a c, v = .slice a ps.length c ∧ ps.length ≤ c ∧ (ps = [] ∨ ∃ b o, a = some ⟨b, o, none⟩ ∧ b ≠ pr ∧ b < B ∧ ∀ (j : Nat) (p : PPart), ps[j]? = some p → w.cell? ⟨b, o + j * 2, none⟩ = some (.bool p.quoted) ∧ w.cell? ⟨b, o + j * 2 + 1, none⟩ = some (.string p.text))
/-- Only the block pr may have turned. -/
structure RStep (pr : Nat) (w w' : World) : Prop where
  os : w'.os = w.os
  tape : w'.tape = w.tape
  output : w'.output = w.output
  size : w.heap.size ≤ w'.heap.size
  block : ∀ k, k < w.heap.size → k ≠ pr → w'.heap[k]? = w.heap[k]?
theorem RStep.refl (pr : Nat) (w : World) : RStep pr w w := ⟨rfl, rfl, rfl, Nat.le_refl _, fun _ _ _ => rfl⟩
theorem RStep.trans {pr : Nat} {a b c : World} (h : RStep pr a b) (k : RStep pr b c) : RStep pr a c :=
  ⟨k.os.trans h.os, k.tape.trans h.tape, k.output.trans h.output, Nat.le_trans h.size k.size, fun i hi hp => by rw [k.block i (Nat.lt_of_lt_of_le hi h.size) hp, h.block i hi hp]⟩
theorem RStep.grow {pr : Nat} {w w' : World} (h : Grow w w') : RStep pr w w' := ⟨h.os, h.tape, h.output, h.size, fun k hk _ => h.block k hk⟩
theorem RStep.below {pr base : Nat} {w w' : World} (h : RStep pr w w') (hb : base ≤ pr) (hs : base ≤ w.heap.size) : Below base w w' :=
  ⟨h.os, h.tape, h.output, h.size, fun k hk => h.block k (by omega) (by omega)⟩
theorem PartsAt.step {w w' : World} {pr B : Nat} {v : Value} {ps : List PPart} (h : PartsAt w pr B v ps) (s : RStep pr w w') : PartsAt w' pr B v ps := by
  obtain ⟨a, c, h1, h2, h3⟩ := h
  refine ⟨a, c, h1, h2, h3.imp id ?_⟩
  rintro ⟨b, o, ha, hb, hl, hc⟩
  refine ⟨b, o, ha, hb, hl, fun j p hj => ?_⟩
  have hlt : b < w.heap.size := World.block_lt_of_cell? w _ (hc j p hj).1
  exact ⟨by rw [World.cell?_of_block (w := w) (a := ⟨b, o + j * 2, none⟩) (s.block b hlt hb)]; exact (hc j p hj).1, by rw [World.cell?_of_block (w := w) (a := ⟨b, o + j * 2 + 1, none⟩) (s.block b hlt hb)]; exact (hc j p hj).2⟩
theorem PartsAt.below {w w' : World} {pr B : Nat} {v : Value} {ps : List PPart} (h : PartsAt w pr B v ps) (s : Below B w w') : PartsAt w' pr B v ps := by
  obtain ⟨a, c, h1, h2, h3⟩ := h
  refine ⟨a, c, h1, h2, h3.imp id ?_⟩
  rintro ⟨b, o, ha, hb, hl, hc⟩
  exact ⟨b, o, ha, hb, hl, fun j p hj => ⟨by rw [s.cell (p := ⟨b, o + j * 2, none⟩) hl]; exact (hc j p hj).1, by rw [s.cell (p := ⟨b, o + j * 2 + 1, none⟩) hl]; exact (hc j p hj).2⟩⟩
structure RdAt (w : World) (pr B : Nat) (R : Rd) (v : Value) : Prop where
  cell : w.heap[pr]? = some (.cells #[v, .bool R.wrong] 45 (0, 0))
  parts : PartsAt w pr B v R.parts
theorem RdAt.lt {w : World} {pr B : Nat} {R : Rd} {v : Value} (h : RdAt w pr B R v) : pr < w.heap.size := (Array.getElem?_eq_some_iff.1 h.cell).1
theorem RdAt.grow {w w' : World} {pr B : Nat} {R : Rd} {v : Value} (h : RdAt w pr B R v) (g : Grow w w') : RdAt w' pr B R v :=
  ⟨by rw [g.block pr h.lt]; exact h.cell, h.parts.step (RStep.grow g)⟩
theorem RdAt.below {w w' : World} {pr B : Nat} {R : Rd} {v : Value} (h : RdAt w pr B R v) (s : Below B w w') (hp : pr < B) : RdAt w' pr B R v :=
  ⟨by rw [s.block pr hp]; exact h.cell, h.parts.below s⟩
theorem set_step (w : World) (pr i : Nat) (v : Value) : RStep pr w (w.setCell ⟨pr, i, none⟩ v) :=
  ⟨rfl, rfl, rfl, by simp [World.setCell], fun k _ hp => heap_setCell_other _ _ _ _ hp⟩
/-- The mark is set. -/
theorem RdAt.mark {w : World} {pr B : Nat} {R : Rd} {v : Value} (h : RdAt w pr B R v) : RdAt (w.setCell ⟨pr, 1, none⟩ (.bool true)) pr B ⟨R.parts, true⟩ v :=
  ⟨heap_setCell_same w pr 1 _ _ _ h.cell, h.parts.step (set_step _ _ _ _)⟩
theorem RdAt.turn {w : World} {pr B : Nat} {R : Rd} {v v' : Value} {ps : List PPart} (h : RdAt w pr B R v) (hp : PartsAt w pr B v' ps) : RdAt (w.setCell ⟨pr, 0, none⟩ v') pr B ⟨ps, R.wrong⟩ v' :=
  ⟨heap_setCell_same w pr 0 _ _ _ h.cell, hp.step (set_step _ _ _ _)⟩
set_option maxHeartbeats 2000000 in
theorem next_r (pr B : Nat) (R : Rd) (v : Value) (q : Bool) (w : World) (h : RdAt w pr B R v) :
    Calls Tryz.prog 11 #[.pointer (some ⟨pr, 0, none⟩), .bool q] w fun e w' => e = .returned (.string (R.next q).1) ∧ ∃ v', RdAt w' pr B (R.next q).2 v' ∧ RStep pr w w' := by
  have HRT : Hid (∀ s R', R.next q = (s, R') → ∀ (e : Ending) (w' : World), (e = .returned (.string s) ∧ ∃ v', RdAt w' pr B R' v' ∧ RStep pr w w') → (e = .returned (.string (R.next q).1) ∧ ∃ v', RdAt w' pr B (R.next q).2 v' ∧ RStep pr w w')) := by
    intro s R' h e w' h'; rw [h]; exact h'
  have HR := Lib.hid h
  obtain ⟨a, c, rfl, hcap, hpt⟩ := h.parts
  have r0 : w.cell? ⟨pr, 0, none⟩ = some (.slice a R.parts.length c) := by rw [cell_of_row w pr 0 _ _ _ h.cell]; rfl
  have r1 : w.cell? ⟨pr, 1, none⟩ = some (.bool R.wrong) := by rw [cell_of_row w pr 1 _ _ _ h.cell]; rfl
  have f0 : w.frozen? ⟨pr, 0, none⟩ = false := frozen_of_row w pr 0 _ _ h.cell
  have f1 : w.frozen? ⟨pr, 1, none⟩ = false := frozen_of_row w pr 1 _ _ h.cell
  clear h
  obtain ⟨ps, wr⟩ := R
  cases ps with
  | nil =>
    simp only [List.length_nil] at *
    refine calls_of_wE Tryz.func11 rfl Tryz.ntmps11 (by simp) ?_
    repeat' (first | with_reducible (first | refine wE_seq (fun K hK => ?_) | refine wE_block ?_ | refine wE_skip ?_ | refine wE_ret ?_ | refine wE_exit ?_) | ((with_reducible refine wE_region ?_ ?_); (kernel_rfl); simp only [ls, stripO]) | ((with_reducible refine wS_step (fun K hK => ?_)); simp [go_sem, lk, upd, envOf, stepS_value, stepS_skip, stepS_enter, ↓IntWalk.iteOmega, *]; (try go_ints); refine hK.out _ _ ?_; clear hK K) | ((with_reducible refine wS_unit (fun K hK => ?_)); simp [go_sem, lk, upd, envOf, stepS_value, stepS_skip, stepS_enter, ↓IntWalk.iteOmega, *]; (try go_ints); refine hK.out _ _ ?_; clear hK K) | ((with_reducible refine wS_skip ?_ ?_); (focus (simp [lk, upd, envOf, *]; done))) | ((with_reducible refine wS_want ?_ ?_); (focus (simp [lk, upd, envOf, *]; done))) | ((with_reducible refine wS_split (fun hc => ?_) (fun hc => ?_)) <;> simp [lk, upd, envOf, *] at hc <;> try (exfalso; omega)) | with_reducible refine wS_nil ?_ | simp only [thenE, blockE, ↓reduceIte, Nat.reduceEqDiff] | ((with_reducible refine hK.out _ _ ?_); clear hK K) | ((with_reducible refine wE_if ?_ (fun hc => ?_) (fun hc => ?_)); (focus (simp [lk, upd, envOf, *]; done)); all_goals (simp [lk, upd, envOf, *] at hc <;> try (exfalso; omega))) | (clear hK; clear K))
    exact endE_tmp rfl (HRT.out _ _ rfl _ _ ⟨by simp [upd], _, HR.out.mark, set_step _ _ _ _⟩)
  | cons p ps =>
    rcases hpt with hpt | ⟨b, o, rfl, hb, hl, hc⟩
    · simp at hpt
    obtain ⟨g1, g2⟩ := hc 0 p rfl
    simp only [Nat.zero_mul, Nat.add_zero] at g1 g2
    simp only [List.length_cons] at *
    obtain ⟨pq, pt⟩ := p
    simp only at g1 g2
    by_cases hq : pq = q
    · subst hq
      have HPT : Hid (PartsAt w pr B (.slice (if c = 1 then some ⟨b, o, none⟩ else some ⟨b, o + 2, none⟩) ps.length (c - 1)) ps) := by
        refine ⟨_, _, rfl, by omega, ?_⟩
        cases ps with
        | nil => exact .inl rfl
        | cons p2 ps =>
          right
          simp only [List.length_cons] at hcap
          refine ⟨b, o + 2, by rw [if_neg (by omega)], hb, hl, fun j p hj => ?_⟩
          have := hc (j + 1) p (by simpa using hj)
          rw [show o + 2 + j * 2 = o + (j + 1) * 2 by omega]
          exact this
      refine calls_of_wE Tryz.func11 rfl Tryz.ntmps11 (by simp) ?_
      repeat' (first | with_reducible (first | refine wE_seq (fun K hK => ?_) | refine wE_block ?_ | refine wE_skip ?_ | refine wE_ret ?_ | refine wE_exit ?_) | ((with_reducible refine wE_region ?_ ?_); (kernel_rfl); simp only [ls, stripO]) | ((with_reducible refine wS_step (fun K hK => ?_)); simp [go_sem, lk, upd, envOf, stepS_value, stepS_skip, stepS_enter, ↓IntWalk.iteOmega, *]; (try go_ints); refine hK.out _ _ ?_; clear hK K) | ((with_reducible refine wS_unit (fun K hK => ?_)); simp [go_sem, lk, upd, envOf, stepS_value, stepS_skip, stepS_enter, ↓IntWalk.iteOmega, *]; (try go_ints); refine hK.out _ _ ?_; clear hK K) | ((with_reducible refine wS_skip ?_ ?_); (focus (simp [lk, upd, envOf, *]; done))) | ((with_reducible refine wS_want ?_ ?_); (focus (simp [lk, upd, envOf, *]; done))) | ((with_reducible refine wS_split (fun hc => ?_) (fun hc => ?_)) <;> simp [lk, upd, envOf, *] at hc <;> try (exfalso; omega)) | with_reducible refine wS_nil ?_ | simp only [thenE, blockE, ↓reduceIte, Nat.reduceEqDiff] | ((with_reducible refine hK.out _ _ ?_); clear hK K) | ((with_reducible refine wE_if ?_ (fun hc => ?_) (fun hc => ?_)); (focus (simp [lk, upd, envOf, *]; done)); all_goals (simp [lk, upd, envOf, *] at hc <;> try (exfalso; omega))) | (clear hK; clear K))
      refine endE_tmp rfl (HRT.out pt ⟨ps, wr⟩ (by simp [Rd.next]) _ _ ⟨by simp [upd], _, HR.out.turn HPT.out, set_step _ _ _ _⟩)
    · have hq' : pq = !q := by cases pq <;> cases q <;> simp_all
      subst hq'
      clear hq
      refine calls_of_wE Tryz.func11 rfl Tryz.ntmps11 (by simp) ?_
      repeat' (first | with_reducible (first | refine wE_seq (fun K hK => ?_) | refine wE_block ?_ | refine wE_skip ?_ | refine wE_ret ?_ | refine wE_exit ?_) | ((with_reducible refine wE_region ?_ ?_); (kernel_rfl); simp only [ls, stripO]) | ((with_reducible refine wS_step (fun K hK => ?_)); simp [go_sem, lk, upd, envOf, stepS_value, stepS_skip, stepS_enter, ↓IntWalk.iteOmega, *]; (try go_ints); refine hK.out _ _ ?_; clear hK K) | ((with_reducible refine wS_unit (fun K hK => ?_)); simp [go_sem, lk, upd, envOf, stepS_value, stepS_skip, stepS_enter, ↓IntWalk.iteOmega, *]; (try go_ints); refine hK.out _ _ ?_; clear hK K) | ((with_reducible refine wS_skip ?_ ?_); (focus (simp [lk, upd, envOf, *]; done))) | ((with_reducible refine wS_want ?_ ?_); (focus (simp [lk, upd, envOf, *]; done))) | ((with_reducible refine wS_split (fun hc => ?_) (fun hc => ?_)) <;> simp [lk, upd, envOf, *] at hc <;> try (exfalso; omega)) | with_reducible refine wS_nil ?_ | simp only [thenE, blockE, ↓reduceIte, Nat.reduceEqDiff] | ((with_reducible refine hK.out _ _ ?_); clear hK K) | ((with_reducible refine wE_if ?_ (fun hc => ?_) (fun hc => ?_)); (focus (simp [lk, upd, envOf, *]; done)); all_goals (simp [lk, upd, envOf, *] at hc <;> try (exfalso; omega))) | (clear hK; clear K))
      exact endE_tmp rfl (HRT.out ⟨#[]⟩ ⟨⟨!q, pt⟩ :: ps, true⟩ (by simp [Rd.next]) _ _ ⟨by simp [upd], _, HR.out.mark, set_step _ _ _ _⟩)
/-- The two errors of strconv are there. -/
structure Errs (w : World) : Prop where
  e2 : ∃ t x, w.cell? ⟨2, 0, none⟩ = some (.iface t x)
  e3 : ∃ t x, w.cell? ⟨3, 0, none⟩ = some (.iface t x)
theorem Errs.step {w w' : World} {pr : Nat} (h : Errs w) (s : RStep pr w w') (hp : 3 < pr) : Errs w' := by
  obtain ⟨⟨t, x, h2⟩, u, y, h3⟩ := h
  have l2 := World.block_lt_of_cell? w _ h2
  have l3 := World.block_lt_of_cell? w _ h3
  simp only at l2 l3
  exact ⟨⟨t, x, by rw [World.cell?_of_block (w := w) (a := ⟨2, 0, none⟩) (s.block 2 l2 (by omega))]; exact h2⟩, ⟨u, y, by rw [World.cell?_of_block (w := w) (a := ⟨3, 0, none⟩) (s.block 3 l3 (by omega))]; exact h3⟩⟩
theorem Errs.grow {w w' : World} (h : Errs w) (g : Grow w w') : Errs w' := by
  obtain ⟨⟨t, x, h2⟩, u, y, h3⟩ := h
  exact ⟨⟨t, x, Keeps.of_below g _ _ h2⟩, ⟨u, y, Keeps.of_below g _ _ h3⟩⟩
/-- What strconv.Atoi answers. -/
def AtoiR (s : ByteArray) (e : Ending) : Prop := ∃ ev, e = .returned (.tuple #[.int .i64 (atoiV s).1, ev]) ∧ (((atoiV s).2 = true ∧ ev = .nilIface) ∨ ((atoiV s).2 = false ∧ ∃ t x, ev = .iface t (.pointer (some x))))
theorem atoi_any (s : ByteArray) (w : World) (he : Errs w) (hs : s.size ≤ 10000000) : Calls Tryz.prog 63 #[.string s] w fun e w' => AtoiR s e ∧ Grow w w' := by
  obtain ⟨⟨t2, x2, h2⟩, t3, x3, h3⟩ := he
  cases hh : Lib.atoiAll s.data.toList
  · rename_i v
    refine (Any.strconv_Atoi_ok Tryz.laysC172 s (by omega) v hh w).mono ?_
    rintro e w' ⟨rfl, hw⟩
    refine ⟨⟨.nilIface, by simp [atoiV, hh], .inl ⟨by simp [atoiV, hh], rfl⟩⟩, ?_⟩
    rcases hw with rfl | ⟨t, rfl⟩
    · exact Grow.refl _
    · exact ⟨rfl, rfl, rfl, by rw [Lib.bytesWorld_size]; omega, fun k hk => Lib.bytesWorld_at_old _ _ _ _ hk⟩
  · refine (Any.strconv_Atoi_syntax Tryz.laysC172 s (by omega) hh _ w h2 (.inr ⟨_, _, rfl⟩)).mono ?_
    rintro e w' ⟨N, rfl, _, _, hb⟩
    exact ⟨⟨.iface (Tryz.laysC172_ren.t 168) (.pointer (some ⟨N, 0, none⟩)), by simp [atoiV, hh], .inr ⟨by simp [atoiV, hh], _, _, rfl⟩⟩, hb⟩
  · refine (Any.strconv_Atoi_range Tryz.laysC172 s (by omega) hh _ w h3 (.inr ⟨_, _, rfl⟩)).mono ?_
    rintro e w' ⟨N, rfl, _, _, hb⟩
    exact ⟨⟨.iface (Tryz.laysC172_ren.t 168) (.pointer (some ⟨N, 0, none⟩)), by simp [atoiV, hh], .inr ⟨by simp [atoiV, hh], _, _, rfl⟩⟩, hb⟩
/-- Texts of parts are small. -/
def SmallP (ps : List PPart) : Prop := ∀ p ∈ ps, p.text.size ≤ 10000000
theorem next_small {R : Rd} (h : SmallP R.parts) (q : Bool) : (R.next q).1.size ≤ 10000000 ∧ SmallP (R.next q).2.parts := by
  obtain ⟨ps, wr⟩ := R
  cases ps with
  | nil => exact ⟨Nat.zero_le _, h⟩
  | cons p ps =>
    simp only [Rd.next]
    split
    · exact ⟨h p (by simp), fun x hx => h x (by simp [hx])⟩
    · exact ⟨Nat.zero_le _, h⟩
set_option maxHeartbeats 2000000 in
theorem number_r (pr B : Nat) (R : Rd) (v : Value) (w : World) (h : RdAt w pr B R v) (he : Errs w) (hp : 3 < pr) (hs : SmallP R.parts) :
    Calls Tryz.prog 33 #[.pointer (some ⟨pr, 0, none⟩)] w fun e w' => e = .returned (.int .i64 R.number.1) ∧ ∃ v', RdAt w' pr B R.number.2 v' ∧ RStep pr w w' := by
  have HR := Lib.hid h
  have HE := Lib.hid he
  have HS := Lib.hid (next_small hs false)
  have HRT : Hid (∀ n R', R.number = (n, R') → ∀ (e : Ending) (w' : World), (e = .returned (.int .i64 n) ∧ ∃ v', RdAt w' pr B R' v' ∧ RStep pr w w') → (e = .returned (.int .i64 R.number.1) ∧ ∃ v', RdAt w' pr B R.number.2 v' ∧ RStep pr w w')) := by
    intro s R' h e w' h'; rw [h]; exact h'
  have HNR := Lib.hid (show R.number = ((atoiV (R.next false).1).1, ⟨(R.next false).2.parts, (R.next false).2.wrong || !(atoiV (R.next false).1).2⟩) from rfl)
  generalize hnx : R.next false = nx at *
  obtain ⟨tx, R1⟩ := nx
  simp only at *
  have HNX := Lib.hid (next_r pr B R v false w h)
  rw [hnx] at HNX
  clear h he hs hnx
  refine calls_of_wE Tryz.func33 rfl Tryz.ntmps33 (by simp) ?_
  repeat' (first | with_reducible (first | refine wE_seq (fun K hK => ?_) | refine wE_block ?_ | refine wE_skip ?_ | refine wE_ret ?_ | refine wE_exit ?_) | ((with_reducible refine wE_region ?_ ?_); (kernel_rfl); simp only [ls, stripO]) | ((with_reducible refine wS_step (fun K hK => ?_)); simp [go_sem, lk, upd, envOf, stepS_value, stepS_skip, stepS_enter, ↓IntWalk.iteOmega, *]; (try go_ints); refine hK.out _ _ ?_; clear hK K) | ((with_reducible refine wS_unit (fun K hK => ?_)); simp [go_sem, lk, upd, envOf, stepS_value, stepS_skip, stepS_enter, ↓IntWalk.iteOmega, *]; (try go_ints); refine hK.out _ _ ?_; clear hK K) | ((with_reducible refine wS_skip ?_ ?_); (focus (simp [lk, upd, envOf, *]; done))) | ((with_reducible refine wS_want ?_ ?_); (focus (simp [lk, upd, envOf, *]; done))) | ((with_reducible refine wS_split (fun hc => ?_) (fun hc => ?_)) <;> simp [lk, upd, envOf, *] at hc <;> try (exfalso; omega)) | with_reducible refine wS_nil ?_ | simp only [thenE, blockE, ↓reduceIte, Nat.reduceEqDiff] | ((with_reducible refine hK.out _ _ ?_); clear hK K) | ((with_reducible refine wE_if ?_ (fun hc => ?_) (fun hc => ?_)); (focus (simp [lk, upd, envOf, *]; done)); all_goals (simp [lk, upd, envOf, *] at hc <;> try (exfalso; omega))) | (clear hK; clear K))
  (with_reducible refine wS_step (fun K hK => ?_)); simp [go_sem, lk, upd, envOf, stepS_value, stepS_skip, stepS_enter, ↓IntWalk.iteOmega, *]; (try go_ints); refine (HNX.out).mono ?_; rintro e w1 ⟨rfl, v1, hr1, hs1⟩; refine ⟨_, rfl, hK.out _ _ ?_⟩; clear hK K
  have HR1 := Lib.hid hr1
  have HS1 := Lib.hid hs1
  have HE1 := Lib.hid (HE.out.step hs1 hp)
  clear hr1 hs1
  repeat' (first | with_reducible (first | refine wE_seq (fun K hK => ?_) | refine wE_block ?_ | refine wE_skip ?_ | refine wE_ret ?_ | refine wE_exit ?_) | ((with_reducible refine wE_region ?_ ?_); (kernel_rfl); simp only [ls, stripO]) | ((with_reducible refine wS_step (fun K hK => ?_)); simp [go_sem, lk, upd, envOf, stepS_value, stepS_skip, stepS_enter, ↓IntWalk.iteOmega, *]; (try go_ints); refine hK.out _ _ ?_; clear hK K) | ((with_reducible refine wS_unit (fun K hK => ?_)); simp [go_sem, lk, upd, envOf, stepS_value, stepS_skip, stepS_enter, ↓IntWalk.iteOmega, *]; (try go_ints); refine hK.out _ _ ?_; clear hK K) | ((with_reducible refine wS_skip ?_ ?_); (focus (simp [lk, upd, envOf, *]; done))) | ((with_reducible refine wS_want ?_ ?_); (focus (simp [lk, upd, envOf, *]; done))) | ((with_reducible refine wS_split (fun hc => ?_) (fun hc => ?_)) <;> simp [lk, upd, envOf, *] at hc <;> try (exfalso; omega)) | with_reducible refine wS_nil ?_ | simp only [thenE, blockE, ↓reduceIte, Nat.reduceEqDiff] | ((with_reducible refine hK.out _ _ ?_); clear hK K) | ((with_reducible refine wE_if ?_ (fun hc => ?_) (fun hc => ?_)); (focus (simp [lk, upd, envOf, *]; done)); all_goals (simp [lk, upd, envOf, *] at hc <;> try (exfalso; omega))) | (clear hK; clear K))
  (with_reducible refine wS_step (fun K hK => ?_)); simp [go_sem, lk, upd, envOf, stepS_value, stepS_skip, stepS_enter, ↓IntWalk.iteOmega, *]; (try go_ints); refine (atoi_any tx _ HE1.out HS.out.1).mono ?_; rintro e w2 ⟨⟨ev, rfl, hev⟩, hg2⟩; refine ⟨_, rfl, hK.out _ _ ?_⟩; clear hK K
  have HR2 := Lib.hid (HR1.out.grow hg2)
  have HS2 := Lib.hid (HS1.out.trans (RStep.grow hg2))
  clear hg2
  rcases hev with ⟨ha, rfl⟩ | ⟨ha, t, x, rfl⟩
  · have HNR2 := Lib.hid (show R.number = ((atoiV tx).1, R1) by rw [HNR.out, ha]; simp)
    clear ha
    repeat' (first | with_reducible (first | refine wE_seq (fun K hK => ?_) | refine wE_block ?_ | refine wE_skip ?_ | refine wE_ret ?_ | refine wE_exit ?_) | ((with_reducible refine wE_region ?_ ?_); (kernel_rfl); simp only [ls, stripO]) | ((with_reducible refine wS_step (fun K hK => ?_)); simp [go_sem, lk, upd, envOf, stepS_value, stepS_skip, stepS_enter, ↓IntWalk.iteOmega, *]; (try go_ints); refine hK.out _ _ ?_; clear hK K) | ((with_reducible refine wS_unit (fun K hK => ?_)); simp [go_sem, lk, upd, envOf, stepS_value, stepS_skip, stepS_enter, ↓IntWalk.iteOmega, *]; (try go_ints); refine hK.out _ _ ?_; clear hK K) | ((with_reducible refine wS_skip ?_ ?_); (focus (simp [lk, upd, envOf, *]; done))) | ((with_reducible refine wS_want ?_ ?_); (focus (simp [lk, upd, envOf, *]; done))) | ((with_reducible refine wS_split (fun hc => ?_) (fun hc => ?_)) <;> simp [lk, upd, envOf, *] at hc <;> try (exfalso; omega)) | with_reducible refine wS_nil ?_ | simp only [thenE, blockE, ↓reduceIte, Nat.reduceEqDiff] | ((with_reducible refine hK.out _ _ ?_); clear hK K) | ((with_reducible refine wE_if ?_ (fun hc => ?_) (fun hc => ?_)); (focus (simp [lk, upd, envOf, *]; done)); all_goals (simp [lk, upd, envOf, *] at hc <;> try (exfalso; omega))) | (clear hK; clear K))
    exact endE_tmp rfl (HRT.out _ _ HNR2.out _ _ ⟨by simp [upd], v1, HR2.out, HS2.out⟩)
  · have HNR2 := Lib.hid (show R.number = ((atoiV tx).1, ⟨R1.parts, true⟩) by rw [HNR.out, ha]; simp)
    have f1 : w2.frozen? ⟨pr, 1, none⟩ = false := frozen_of_row w2 pr 1 _ _ HR2.out.cell
    have r1 : w2.cell? ⟨pr, 1, none⟩ = some (.bool R1.wrong) := by rw [cell_of_row w2 pr 1 _ _ _ HR2.out.cell]; rfl
    clear ha
    repeat' (first | with_reducible (first | refine wE_seq (fun K hK => ?_) | refine wE_block ?_ | refine wE_skip ?_ | refine wE_ret ?_ | refine wE_exit ?_) | ((with_reducible refine wE_region ?_ ?_); (kernel_rfl); simp only [ls, stripO]) | ((with_reducible refine wS_step (fun K hK => ?_)); simp [go_sem, lk, upd, envOf, stepS_value, stepS_skip, stepS_enter, ↓IntWalk.iteOmega, *]; (try go_ints); refine hK.out _ _ ?_; clear hK K) | ((with_reducible refine wS_unit (fun K hK => ?_)); simp [go_sem, lk, upd, envOf, stepS_value, stepS_skip, stepS_enter, ↓IntWalk.iteOmega, *]; (try go_ints); refine hK.out _ _ ?_; clear hK K) | ((with_reducible refine wS_skip ?_ ?_); (focus (simp [lk, upd, envOf, *]; done))) | ((with_reducible refine wS_want ?_ ?_); (focus (simp [lk, upd, envOf, *]; done))) | ((with_reducible refine wS_split (fun hc => ?_) (fun hc => ?_)) <;> simp [lk, upd, envOf, *] at hc <;> try (exfalso; omega)) | with_reducible refine wS_nil ?_ | simp only [thenE, blockE, ↓reduceIte, Nat.reduceEqDiff] | ((with_reducible refine hK.out _ _ ?_); clear hK K) | ((with_reducible refine wE_if ?_ (fun hc => ?_) (fun hc => ?_)); (focus (simp [lk, upd, envOf, *]; done)); all_goals (simp [lk, upd, envOf, *] at hc <;> try (exfalso; omega))) | (clear hK; clear K))
    exact endE_tmp rfl (HRT.out _ _ HNR2.out _ _ ⟨by simp [upd], v1, HR2.out.mark, HS2.out.trans (set_step _ _ _ _)⟩)
set_option maxHeartbeats 2000000 in
theorem quotedNext_r (pr B : Nat) (R : Rd) (v : Value) (w : World) (h : RdAt w pr B R v) :
    Calls Tryz.prog 64 #[.pointer (some ⟨pr, 0, none⟩)] w fun e w' => e = .returned (.bool R.quotedNext) ∧ w = w' := by
  have HRB : Hid (∀ t : Bool, R.quotedNext = t → Ending.returned (.bool t) = .returned (.bool R.quotedNext)) := fun t h => by rw [h]
  obtain ⟨a, c, rfl, hcap, hpt⟩ := h.parts
  have r0 : w.cell? ⟨pr, 0, none⟩ = some (.slice a R.parts.length c) := by rw [cell_of_row w pr 0 _ _ _ h.cell]; rfl
  have r1 : w.cell? ⟨pr, 1, none⟩ = some (.bool R.wrong) := by rw [cell_of_row w pr 1 _ _ _ h.cell]; rfl
  clear h
  obtain ⟨ps, wr⟩ := R
  cases wr
  · cases ps with
    | nil =>
      simp only [List.length_nil] at *
      refine calls_of_wE Tryz.func64 rfl Tryz.ntmps64 (by simp) ?_
      repeat' (first | with_reducible (first | refine wE_seq (fun K hK => ?_) | refine wE_block ?_ | refine wE_skip ?_ | refine wE_ret ?_ | refine wE_exit ?_) | ((with_reducible refine wE_region ?_ ?_); (kernel_rfl); simp only [ls, stripO]) | ((with_reducible refine wS_step (fun K hK => ?_)); simp [go_sem, lk, upd, envOf, stepS_value, stepS_skip, stepS_enter, ↓IntWalk.iteOmega, *]; (try go_ints); refine hK.out _ _ ?_; clear hK K) | ((with_reducible refine wS_unit (fun K hK => ?_)); simp [go_sem, lk, upd, envOf, stepS_value, stepS_skip, stepS_enter, ↓IntWalk.iteOmega, *]; (try go_ints); refine hK.out _ _ ?_; clear hK K) | ((with_reducible refine wS_skip ?_ ?_); (focus (simp [lk, upd, envOf, *]; done))) | ((with_reducible refine wS_want ?_ ?_); (focus (simp [lk, upd, envOf, *]; done))) | ((with_reducible refine wS_split (fun hc => ?_) (fun hc => ?_)) <;> simp [lk, upd, envOf, *] at hc <;> try (exfalso; omega)) | with_reducible refine wS_nil ?_ | simp only [thenE, blockE, ↓reduceIte, Nat.reduceEqDiff] | ((with_reducible refine hK.out _ _ ?_); clear hK K) | ((with_reducible refine wE_if ?_ (fun hc => ?_) (fun hc => ?_)); (focus (simp [lk, upd, envOf, *]; done)); all_goals (simp [lk, upd, envOf, *] at hc <;> try (exfalso; omega))) | (clear hK; clear K))
      exact endE_tmp rfl ⟨HRB.out _ (by simp [Rd.quotedNext]), rfl⟩
    | cons p ps =>
      rcases hpt with hpt | ⟨b, o, rfl, hb, hl, hc⟩
      · simp at hpt
      obtain ⟨g1, g2⟩ := hc 0 p rfl
      simp only [Nat.zero_mul, Nat.add_zero] at g1 g2
      simp only [List.length_cons] at *
      clear hc
      refine calls_of_wE Tryz.func64 rfl Tryz.ntmps64 (by simp) ?_
      repeat' (first | with_reducible (first | refine wE_seq (fun K hK => ?_) | refine wE_block ?_ | refine wE_skip ?_ | refine wE_ret ?_ | refine wE_exit ?_) | ((with_reducible refine wE_region ?_ ?_); (kernel_rfl); simp only [ls, stripO]) | ((with_reducible refine wS_step (fun K hK => ?_)); simp [go_sem, lk, upd, envOf, stepS_value, stepS_skip, stepS_enter, ↓IntWalk.iteOmega, *]; (try go_ints); refine hK.out _ _ ?_; clear hK K) | ((with_reducible refine wS_unit (fun K hK => ?_)); simp [go_sem, lk, upd, envOf, stepS_value, stepS_skip, stepS_enter, ↓IntWalk.iteOmega, *]; (try go_ints); refine hK.out _ _ ?_; clear hK K) | ((with_reducible refine wS_skip ?_ ?_); (focus (simp [lk, upd, envOf, *]; done))) | ((with_reducible refine wS_want ?_ ?_); (focus (simp [lk, upd, envOf, *]; done))) | ((with_reducible refine wS_split (fun hc => ?_) (fun hc => ?_)) <;> simp [lk, upd, envOf, *] at hc <;> try (exfalso; omega)) | with_reducible refine wS_nil ?_ | simp only [thenE, blockE, ↓reduceIte, Nat.reduceEqDiff] | ((with_reducible refine hK.out _ _ ?_); clear hK K) | ((with_reducible refine wE_if ?_ (fun hc => ?_) (fun hc => ?_)); (focus (simp [lk, upd, envOf, *]; done)); all_goals (simp [lk, upd, envOf, *] at hc <;> try (exfalso; omega))) | (clear hK; clear K))
      exact endE_tmp rfl ⟨HRB.out _ (by simp [Rd.quotedNext, upd]), rfl⟩
  · refine calls_of_wE Tryz.func64 rfl Tryz.ntmps64 (by simp) ?_
    repeat' (first | with_reducible (first | refine wE_seq (fun K hK => ?_) | refine wE_block ?_ | refine wE_skip ?_ | refine wE_ret ?_ | refine wE_exit ?_) | ((with_reducible refine wE_region ?_ ?_); (kernel_rfl); simp only [ls, stripO]) | ((with_reducible refine wS_step (fun K hK => ?_)); simp [go_sem, lk, upd, envOf, stepS_value, stepS_skip, stepS_enter, ↓IntWalk.iteOmega, *]; (try go_ints); refine hK.out _ _ ?_; clear hK K) | ((with_reducible refine wS_unit (fun K hK => ?_)); simp [go_sem, lk, upd, envOf, stepS_value, stepS_skip, stepS_enter, ↓IntWalk.iteOmega, *]; (try go_ints); refine hK.out _ _ ?_; clear hK K) | ((with_reducible refine wS_skip ?_ ?_); (focus (simp [lk, upd, envOf, *]; done))) | ((with_reducible refine wS_want ?_ ?_); (focus (simp [lk, upd, envOf, *]; done))) | ((with_reducible refine wS_split (fun hc => ?_) (fun hc => ?_)) <;> simp [lk, upd, envOf, *] at hc <;> try (exfalso; omega)) | with_reducible refine wS_nil ?_ | simp only [thenE, blockE, ↓reduceIte, Nat.reduceEqDiff] | ((with_reducible refine hK.out _ _ ?_); clear hK K) | ((with_reducible refine wE_if ?_ (fun hc => ?_) (fun hc => ?_)); (focus (simp [lk, upd, envOf, *]; done)); all_goals (simp [lk, upd, envOf, *] at hc <;> try (exfalso; omega))) | (clear hK; clear K))
    exact endE_tmp rfl ⟨HRB.out _ (by simp [Rd.quotedNext]), rfl⟩
end Go.Proofs.YtglekdhdogjnoaaGreatDoor
