/- The program's Show: its words in memory, the closure that writes a number, eventWord. -/
import Derived.Test.YtglekdhdogjnoaaGreatDoorPrgK
import Derived.Test.YtglekdhdogjnoaaGreatDoorEnvD
import Derived.Test.YtglekdhdogjnoaaGreatDoorShowLaw
namespace Go.Proofs.YtglekdhdogjnoaaGreatDoor
open Go.RowKit
set_option linter.unusedSimpArgs false
/-- The words of Show: the cell pw holds their slice, an own row. -/
structure WdAt (w : World) (base pw : Nat) (xs : List ByteArray) (v : Value) : Prop where
  cell : w.heap[pw]? = some (.cells #[v] 64 (0, 0))
  own : w.ownsRow base 9 1 v xs.length (xs.map .string)
  ne : v.ownBlock ≠ some pw
  one : v.oneCell' = true
theorem WdAt.lt {w : World} {base pw : Nat} {xs : List ByteArray} {v : Value} (h : WdAt w base pw xs v) : pw < w.heap.size := (Array.getElem?_eq_some_iff.1 h.cell).1
theorem WdAt.rowOf {w : World} {base pw : Nat} {xs : List ByteArray} {v : Value} (h : WdAt w base pw xs v) : rowOf w pw = v.ownBlock := by
  unfold Proofs.YtglekdhdogjnoaaGreatDoor.rowOf; rw [h.cell]; rfl
theorem WdAt.grow {w w' : World} {base pw : Nat} {xs : List ByteArray} {v : Value} (h : WdAt w base pw xs v) (g : Grow w w') : WdAt w' base pw xs v := by
  refine ⟨by rw [g.block pw h.lt]; exact h.cell, ?_, h.ne, h.one⟩
  exact h.own.kept (row := none) ⟨g.os, g.tape, g.output, g.size, fun k hk _ => g.block k hk⟩ (by cases v.ownBlock <;> simp)
theorem WdAt.c {w : World} {base pw : Nat} {xs : List ByteArray} {v : Value} (h : WdAt w base pw xs v) : w.cell? ⟨pw, 0, none⟩ = some v := by rw [cell_of_row w pw 0 _ _ _ h.cell]; rfl
/-- One word more: what append and the store behind it leave. -/
structure AppWd (base pw : Nat) (xs : List ByteArray) (s : ByteArray) (v : Value) (w w' : World) (v' : Value) : Prop where
  run : (Builtin.append_ #[64, 64] 64 #[v, .slice (some ⟨w.heap.size, 0, none⟩) 1 1]).run Tryz.prog (w.alloc (.cells #[.string s] 9)) = .ok v' w'
  form : ∃ g cap, v' = .slice (some ⟨g, 0, none⟩) (xs.length + 1) cap
  cell : w'.cell? ⟨pw, 0, none⟩ = some v
  frozen : w'.frozen? ⟨pw, 0, none⟩ = false
  wd : WdAt (w'.setCell ⟨pw, 0, none⟩ v') base pw (xs ++ [s]) v'
  step : WStep pw w (w'.setCell ⟨pw, 0, none⟩ v')
theorem app_wd {w : World} {base pw : Nat} {xs : List ByteArray} {v : Value} (h : WdAt w base pw xs v) (s : ByteArray) (hl : xs.length ≤ 100000) (hb : base ≤ w.heap.size) : ∃ v' w', AppWd base pw xs s v w w' v' := by
  have hlt := h.lt
  obtain ⟨i, hi, hz0, hz1, hz2⟩ := info_parts info9
  obtain ⟨v', w', hrun, hown, hgr, hnil⟩ := append_own2 (P := Tryz.prog) (w.alloc (.cells #[.string s] 9)) base 64 64 9 i (.string ⟨#[]⟩) 1 16 Tryz.underlying64 hi hz0 hz1 hz2 rfl (by omega)
    v xs.length (xs.map .string) (h.own.alloc _) ⟨w.heap.size, 0, none⟩ 1 1 [.string s] rfl (by
      intro j u hj
      match j, hj with
      | 0, hj => simp at hj; subst hj; simp [go_sem, Addr.add]) (by simp [Value.oneCell']) (by unfold maxLen; omega) (by omega) (by simp; omega)
  have hform : ∃ g cap, v' = .slice (some ⟨g, 0, none⟩) (xs.length + 1) cap := by
    rcases hown.2 with ⟨_, hn⟩ | ⟨g, cap, cur, hv, _⟩
    · omega
    · exact ⟨g, cap, hv⟩
  have hp1 : w'.heap[pw]? = some (.cells #[v] 64 (0, 0)) := by
    rw [hgr.block pw (by simp; omega) (fun e => h.ne e.symm), Below.heap_alloc _ _ _ hlt]; exact h.cell
  have hgne : v'.ownBlock ≠ some pw := by
    intro e
    rcases hnil pw e with h' | h'
    · exact h.ne h'
    · simp at h'; omega
  refine ⟨v', w', hrun, hform, by rw [cell_of_row w' pw 0 _ _ _ hp1]; rfl, frozen_of_row w' pw 0 _ _ hp1, ?_, ?_⟩
  · refine ⟨heap_setCell_same w' pw 0 _ _ _ hp1, ?_, hgne, ?_⟩
    · have hk := hown.kept (row := some pw) (w' := w'.setCell ⟨pw, 0, none⟩ v') ⟨rfl, rfl, rfl, by simp [World.setCell], fun k hk hr => heap_setCell_other _ _ _ _ (fun e => hr (by rw [e]))⟩ (by
        cases hx : v'.ownBlock with
        | none => simp
        | some k => rw [hx] at hgne; simpa using fun e => hgne (by rw [e]))
      simpa using hk
    · obtain ⟨g, cap, rfl⟩ := hform; rfl
  · refine ⟨hgr.os, hgr.tape, hgr.output, ?_, ?_, ?_⟩
    · have := hgr.size
      simp [World.setCell] at this ⊢
      omega
    · intro k hk hp hr
      rw [heap_setCell_other _ _ _ _ hp, hgr.block k (by simp; omega) (fun e => hr (by rw [h.rowOf]; exact e.symm)), Below.heap_alloc _ _ _ hk]
    · intro k hk
      have e : Proofs.YtglekdhdogjnoaaGreatDoor.rowOf (w'.setCell ⟨pw, 0, none⟩ v') pw = v'.ownBlock := by
        unfold Proofs.YtglekdhdogjnoaaGreatDoor.rowOf; rw [heap_setCell_same w' pw 0 _ _ _ hp1]; rfl
      rw [e] at hk
      rcases hnil k hk with h' | h'
      · exact .inl (by rw [h.rowOf]; exact h')
      · right; simp at h'; omega
/-- Behind the slice of one word. -/
def NewS (w : World) (s : ByteArray) (v6 : Value) (w' : World) : Prop := ∃ w1, Grow w w1 ∧ w' = w1.alloc (.cells #[.string s] 9) ∧ v6 = .slice (some ⟨w1.heap.size, 0, none⟩) 1 1
theorem NewS.grow {w w' : World} {s : ByteArray} {v6 : Value} (h : NewS w s v6 w') : Grow w w' := by
  obtain ⟨w1, h1, rfl, -⟩ := h; exact h1.trans (Grow.alloc _ _)
def AppS (w : World) (base pw : Nat) (xs : List ByteArray) (s : ByteArray) (v : Value) (v7 : Value) (w' : World) : Prop := ∃ w1, Grow w w1 ∧ AppWd base pw xs s v w1 w' v7
def DoneS (w : World) (base pw : Nat) (xs : List ByteArray) (s : ByteArray) (w' : World) : Prop := ∃ v', WdAt w' base pw (xs ++ [s]) v' ∧ WStep pw w w'
theorem step_append {P : Program} {σ : Env} {s x : Operand} {d : Tmp} {t1 t2 ty : TypeId} {ps : String} {af : Array Edge} {gd : Option (Nat × Bool)} {vs vx v' : Value} {w w' : World} {K : Value → World → Prop}
    (hs : evalS σ s = vs) (hx : evalS σ x = vx) (hrun : (Builtin.append_ #[t1, t2] ty #[vs, vx]).run P w = .ok v' w') (k : K v' w') :
    stepS P K ((execOp (evalS σ) ⟨some d, .call { callee := .builtin .append, args := #[s, x], argTypes := #[t1, t2] }, ty, ps, af, gd⟩).run P w) := by
  simp [execOp, resolve, invoke, builtin, hs, hx, hrun, Result.andThen, stepS]
  exact k
set_option maxHeartbeats 1000000 in
theorem show1_w (base pw : Nat) (xs : List ByteArray) (v : Value) (n : Int) (w : World) (h : WdAt w base pw xs v) (ht : Tab10 w) (hn : I64 n) (hl : xs.length ≤ 100000) (hb : base ≤ w.heap.size) :
    Calls Tryz.prog 21 #[.int .i64 n, .pointer (some ⟨pw, 0, none⟩)] w fun e w' => e = .returned (.tuple #[]) ∧ DoneS w base pw xs (itoaS n) w' := by
  have HW := Lib.hid h
  have HT := Lib.hid ht
  have HN := Lib.hid hn
  have HB := Lib.hid hb
  have HL := Lib.hid hl
  have one := h.one
  clear h ht hn hb hl
  refine calls_of_wE Tryz.func21 rfl Tryz.ntmps21 (by simp) ?_
  refine wE_chain [VP.val 3 (v), VP.val 4 (.int .i64 n), VP.val 5 (.string (itoaS n)), VP.any, VP.any, VP.any] [WP.of (Grow w), WP.of (Grow w), WP.at 6 (NewS w (itoaS n)), WP.at 7 (AppS w base pw xs (itoaS n) v), WP.of (DoneS w base pw xs (itoaS n))] [2, 3, 4, 5] [[3], [4], [5], [], [], []] [([], [1], 0, 2), ([], [0], 0, 0), ([1], [], 0, 0), ([2], [], 1, 1), ([0, 3], [], 2, 2), ([4], [1], 3, 3)] (by kernel_rfl) (by kernel_rfl) rfl (Grow.drew w) ?_ ?_
  · simp only [ls, stripO, oblC, Nat.zero_add, Nat.reduceAdd]
    refine ⟨?_, ?_, ?_, ?_, ?_, ?_, trivial⟩
    · refine ⟨?_, ?_, ?_, trivial⟩ <;> (intro σ w' hW hf; simp only [factsC, getV_succ, getV_zero, VP.val_p, VP.of_p, VP.any_p, and_true, true_and] at hf; simp only [getW_succ, getW_zero, WP.of_p, WP.at_p] at hW; skip; refine quietC_plain ?_; have hc := (HW.out.grow (by first | exact hW | exact NewS.grow hW)).c; simp [go_sem, lk, upd, envOf, stepS_value, stepS_skip, stepS_enter, ↓IntWalk.iteOmega, putS, getV_succ, getV_zero, VP.val_p, VP.of_p, VP.any_p, getW_succ, getW_zero, WP.of_p, WP.at_p, hf, *])
    · refine ⟨?_, trivial⟩ <;> (intro σ w' hW hf; simp only [factsC, getV_succ, getV_zero, VP.val_p, VP.of_p, VP.any_p, and_true, true_and] at hf; simp only [getW_succ, getW_zero, WP.of_p, WP.at_p] at hW; skip; refine quietC_plain ?_; simp [go_sem, lk, upd, envOf, stepS_value, stepS_skip, stepS_enter, ↓IntWalk.iteOmega, putS, getV_succ, getV_zero, VP.val_p, VP.of_p, VP.any_p, getW_succ, getW_zero, WP.of_p, WP.at_p, hf, *])
    · show ∀ σ w, _ → _ → quietC _ _ _ _ _ _; intro σ w' hW hf; simp only [factsC, getV_succ, getV_zero, VP.val_p, VP.of_p, VP.any_p, and_true, true_and] at hf; simp only [getW_succ, getW_zero, WP.of_p, WP.at_p] at hW; skip; refine quietC_plain ?_; simp [go_sem, lk, upd, envOf, stepS_value, stepS_skip, stepS_enter, ↓IntWalk.iteOmega, putS, getV_succ, getV_zero, VP.val_p, VP.of_p, VP.any_p, getW_succ, getW_zero, WP.of_p, WP.at_p, hf, *]; (try go_ints); refine (itoa_g n _ HN.out (HT.out.grow hW)).mono ?_; rintro e w'' ⟨rfl, hg⟩; exact ⟨_, rfl, rfl, hW.trans hg⟩
    · show ∀ σ w, _ → _ → quietC _ _ _ _ _ _; intro σ w' hW hf; simp only [factsC, getV_succ, getV_zero, VP.val_p, VP.of_p, VP.any_p, and_true, true_and] at hf; simp only [getW_succ, getW_zero, WP.of_p, WP.at_p] at hW; skip; refine quietC_plain ?_; simp [go_sem, lk, upd, envOf, stepS_value, stepS_skip, stepS_enter, ↓IntWalk.iteOmega, putS, getV_succ, getV_zero, VP.val_p, VP.of_p, VP.any_p, getW_succ, getW_zero, WP.of_p, WP.at_p, hf, *]; (try go_ints); exact ⟨_, hW, rfl, rfl⟩
    · show ∀ σ w, _ → _ → quietC _ _ _ _ _ _; intro σ w' hW hf; simp only [factsC, getV_succ, getV_zero, VP.val_p, VP.of_p, VP.any_p, and_true, true_and] at hf; simp only [getW_succ, getW_zero, WP.of_p, WP.at_p] at hW; skip; refine quietC_plain ?_; obtain ⟨w1, hg, rfl, h6⟩ := hW; obtain ⟨v', w2, ha⟩ := app_wd (HW.out.grow hg) (itoaS n) HL.out (Nat.le_trans HB.out hg.size); exact step_append hf h6 ha.run ⟨trivial, w1, hg, ha⟩
    · show ∀ σ w, _ → _ → quietC _ _ _ _ _ _; intro σ w' hW hf; simp only [factsC, getV_succ, getV_zero, VP.val_p, VP.of_p, VP.any_p, and_true, true_and] at hf; simp only [getW_succ, getW_zero, WP.of_p, WP.at_p] at hW; skip; refine quietC_plain ?_; obtain ⟨w1, hg, ha⟩ := hW; obtain ⟨g, cap, h7⟩ := ha.form; have hc := ha.cell; have hz := ha.frozen; have HD := Lib.hid ha.wd; have HS := Lib.hid ((WStep.grow HW.out.lt hg).trans ha.step); rw [h7] at HD HS; clear ha hg; simp [go_sem, lk, upd, envOf, stepS_value, stepS_skip, stepS_enter, ↓IntWalk.iteOmega, putS, getV_succ, getV_zero, VP.val_p, VP.of_p, VP.any_p, getW_succ, getW_zero, WP.of_p, WP.at_p, hf, *]; exact ⟨_, HD.out, HS.out⟩
  intro σ' w' hW hE
  simp only [List.length_cons, List.length_nil, Nat.reduceAdd, getW_succ, getW_zero, WP.of_p] at hW
  exact endE_none rfl ⟨rfl, hW⟩
end Go.Proofs.YtglekdhdogjnoaaGreatDoor
