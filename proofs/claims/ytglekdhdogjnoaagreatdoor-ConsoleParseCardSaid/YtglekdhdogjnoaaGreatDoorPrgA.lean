/- The program's writer: its state in memory, and the method word. -/
import Derived.Test.YtglekdhdogjnoaaGreatDoorRefE
import Derived.Test.YtglekdhdogjnoaaGreatDoorShelf
namespace Go.Proofs.YtglekdhdogjnoaaGreatDoor
open Go.RowKit
set_option linter.unusedSimpArgs false
theorem wS_append {P : Program} {Q : Env → World → Prop} {rest : List SOp} {σ : Env} {w w' : World} {d : Tmp} {s x : Operand} {t1 t2 ty : TypeId} {p : String} {af : Array Edge} {gd : Option (Nat × Bool)} {v' : Value} (vs vx : Value)
    (hs : evalS σ s = vs) (hx : evalS σ x = vx) (hrun : (Builtin.append_ #[t1, t2] ty #[vs, vx]).run P w = .ok v' w') (k : wS P Q rest (upd σ d v') w') :
    wS P Q (⟨⟨some d, .call { callee := .builtin .append, args := #[s, x], argTypes := #[t1, t2] }, ty, p, af, gd⟩, none⟩ :: rest) σ w := by
  refine wS_step (fun K hK => ?_)
  simp [execOp, resolve, invoke, builtin, hs, hx, hrun, Result.andThen, stepS]
  exact hK.out _ _ k
/-- append to a row of the call's own: where the new row lies. -/
theorem append_own2 {P : Program} (w : World) (base : Nat) (t ty e : TypeId) (i : TypeInfo) (z : Value) (size bytes : Nat) (ht : P.underlying t = some (.slice e)) (hi : P.info? e = some i) (hz : i.zero = some z)
    (hsize : i.size = size) (hby : i.bytes = bytes) (hzs : z.cells.size = size) (hsz : 0 < size)
    (v : Value) (n : Nat) (xs : List Value) (hown : w.ownsRow base e size v n xs)
    (a : Addr) (m c : Nat) (news : List Value) (hl : news.length = m * size) (hnews : ∀ j u, news[j]? = some u → w.cell? (a.add j) = some u) (h1 : ∀ u ∈ news, u.oneCell' = true)
    (h63 : n + m ≤ maxLen) (hbytes : (n + m) * bytes ≤ 140737488355328) (hbase : base ≤ w.heap.size) :
    ∃ v' w', (Builtin.append_ #[t, t] ty #[v, .slice (some a) m c]).run P w = .ok v' w' ∧ w'.ownsRow base e size v' (n + m) (xs ++ news) ∧ w.grownBy w' v.ownBlock ∧
      (∀ k, v'.ownBlock = some k → v.ownBlock = some k ∨ w.heap.size ≤ k) := by
  obtain ⟨v', w', hrun, h2, h3, _⟩ := run_append_own (P := P) w base t ty e i z size bytes ht hi hz hsize hby hzs hsz v n xs hown a m c news hl hnews h1 h63 hbytes hbase
  refine ⟨v', w', hrun, h2, h3, ?_⟩
  intro k hk
  rcases hown.2 with ⟨rfl, rfl⟩ | ⟨g, cap, cur, rfl, hbg, hg, hnc, hcm, hcs, htake⟩
  · have hx : xs = [] := List.eq_nil_of_length_eq_zero (by simpa using hown.1)
    subst hx
    obtain ⟨v2, w2, hrun2, h22, _, _⟩ := run_append_own (P := P) w w.heap.size t ty e i z size bytes ht hi hz hsize hby hzs hsz (.slice none 0 0) 0 [] (World.ownsRow_nil _ _ _ _) a m c news hl hnews h1 h63 hbytes (Nat.le_refl _)
    rw [hrun] at hrun2
    obtain ⟨rfl, rfl⟩ := Result.ok.inj hrun2
    exact .inr (h22.lt k hk).1
  · subst hsize
    by_cases hroom : n + m ≤ cap
    · have hfit : n * i.size + news.length ≤ cur.size := by rw [hl, hcs, ← Nat.add_mul]; exact Nat.mul_le_mul_right _ hroom
      have hr := run_append_room (P := P) w t ty e i ht hi g n cap cur hg a m c news hl hnews h1 hroom hfit
      rw [hrun] at hr
      obtain ⟨rfl, _⟩ := Result.ok.inj hr
      exact .inl hk
    · have holds : ∀ j u, xs[j]? = some u → w.cell? ((⟨g, 0, none⟩ : Addr).add j) = some u := hown.cells (g := g) rfl
      have hsmall : n + m ≤ 9223372036854775807 := by simp only [maxLen] at h63; omega
      have hr := run_append_grow (P := P) w t ty e i z ht hi hz ⟨g, 0, none⟩ n cap xs hown.1 holds a m c news hl hnews (by omega) (by omega) (growslice_fits (by omega) (by rw [hby]; exact hbytes))
      rw [hrun] at hr
      obtain ⟨rfl, _⟩ := Result.ok.inj hr
      simp [Value.ownBlock] at hk
      exact .inr (by omega)
/-- The block of the row that the first field of the block pw holds. -/
def rowOf (w : World) (pw : Nat) : Option Nat := match w.heap[pw]? with | some (.cells c _ _) => (c.getD 0 undef).ownBlock | _ => none
/-- What a call that writes through pw has left alone. -/
structure WStep (pw : Nat) (w w' : World) : Prop where
  os : w'.os = w.os
  tape : w'.tape = w.tape
  output : w'.output = w.output
  size : w.heap.size ≤ w'.heap.size
  block : ∀ k, k < w.heap.size → k ≠ pw → rowOf w pw ≠ some k → w'.heap[k]? = w.heap[k]?
  row : ∀ k, rowOf w' pw = some k → rowOf w pw = some k ∨ w.heap.size ≤ k
theorem WStep.refl (pw : Nat) (w : World) : WStep pw w w := ⟨rfl, rfl, rfl, Nat.le_refl _, fun _ _ _ _ => rfl, fun _ h => .inl h⟩
theorem WStep.trans {pw : Nat} {a b c : World} (h : WStep pw a b) (k : WStep pw b c) : WStep pw a c := by
  refine ⟨k.os.trans h.os, k.tape.trans h.tape, k.output.trans h.output, Nat.le_trans h.size k.size, fun i hi hp hr => ?_, fun i hi => ?_⟩
  · rw [k.block i (Nat.lt_of_lt_of_le hi h.size) hp (fun e => by rcases h.row i e with e | e; exact hr e; omega), h.block i hi hp hr]
  · rcases k.row i hi with e | e
    · exact h.row i e
    · exact .inr (Nat.le_trans h.size e)
/-- Worlds that grow beside the writer. -/
theorem WStep.grow {pw : Nat} {w w' : World} (hp : pw < w.heap.size) (h : Grow w w') : WStep pw w w' := by
  have hr : rowOf w' pw = rowOf w pw := by unfold rowOf; rw [h.block pw hp]
  exact ⟨h.os, h.tape, h.output, h.size, fun k hk _ _ => h.block k hk, fun k hk => .inl (by rw [← hr]; exact hk)⟩
/-- The writer at pw: its words, and its two marks. -/
structure WrAt (w : World) (pw : Nat) (xs : List ByteArray) (o t : Bool) (v : Value) : Prop where
  cell : w.heap[pw]? = some (.cells #[v, .bool o, .bool t] 66 (0, 0))
  own : w.ownsRow (pw + 1) 9 1 v xs.length (xs.map .string)
theorem WrAt.lt {w : World} {pw : Nat} {xs : List ByteArray} {o t : Bool} {v : Value} (h : WrAt w pw xs o t v) : pw < w.heap.size := (Array.getElem?_eq_some_iff.1 h.cell).1
theorem WrAt.rowOf {w : World} {pw : Nat} {xs : List ByteArray} {o t : Bool} {v : Value} (h : WrAt w pw xs o t v) : rowOf w pw = v.ownBlock := by
  unfold Proofs.YtglekdhdogjnoaaGreatDoor.rowOf; rw [h.cell]; rfl
theorem WrAt.row_ge {w : World} {pw : Nat} {xs : List ByteArray} {o t : Bool} {v : Value} (h : WrAt w pw xs o t v) : ∀ k, Proofs.YtglekdhdogjnoaaGreatDoor.rowOf w pw = some k → pw < k ∧ k < w.heap.size := by
  intro k hk
  rw [h.rowOf] at hk
  have := h.own.lt k hk
  omega
/-- What grows beside it keeps it. -/
theorem WrAt.grow {w w' : World} {pw : Nat} {xs : List ByteArray} {o t : Bool} {v : Value} (h : WrAt w pw xs o t v) (g : Grow w w') : WrAt w' pw xs o t v := by
  refine ⟨by rw [g.block pw h.lt]; exact h.cell, ?_⟩
  exact h.own.kept (row := none) ⟨g.os, g.tape, g.output, g.size, fun k hk _ => g.block k hk⟩ (by cases v.ownBlock <;> simp)
/-- A block beside the writer's own two. -/
theorem WStep.heap {pw : Nat} {w w' : World} (h : WStep pw w w') {k : Nat} {o : Obj} (hk : w.heap[k]? = some o) (hp : k ≠ pw) (hr : rowOf w pw ≠ some k) : w'.heap[k]? = some o := by
  rw [h.block k (Array.getElem?_eq_some_iff.1 hk).1 hp hr]; exact hk
def Tab10 (w : World) : Prop := Lib.TabIs Tryz.prog w "internal/strconv.uint64pow10" .u64 Lib.pow10Tab
theorem glob10 : Tryz.prog.globalNamed "internal/strconv.uint64pow10" = some 1 := by kernel_rfl
theorem Tab10.of_block {w w' : World} (h : Tab10 w) (e : w'.heap[1]? = w.heap[1]?) : Tab10 w' := by
  unfold Tab10 Lib.TabIs World.var? at *
  rw [glob10] at *
  simp only [Option.bind_some] at *
  rw [e]; exact h
theorem Tab10.size {w : World} (h : Tab10 w) : 1 < w.heap.size := by
  unfold Tab10 Lib.TabIs World.var? at h
  rw [glob10] at h
  simp only [Option.bind_some] at h
  cases hx : w.heap[1]? with
  | none => rw [hx] at h; simp at h
  | some o => exact (Array.getElem?_eq_some_iff.1 hx).1
theorem Tab10.grow {w w' : World} (h : Tab10 w) (g : Grow w w') : Tab10 w' := h.of_block (g.block 1 h.size)
theorem Tab10.step {w w' : World} {pw : Nat} {xs : List ByteArray} {o t : Bool} {v : Value} (h : Tab10 w) (hw : WrAt w pw xs o t v) (hp : 1 < pw) (s : WStep pw w w') : Tab10 w' :=
  h.of_block (s.block 1 h.size (by omega) (fun e => by have := hw.row_ge 1 e; omega))
theorem info9 : (Tryz.prog.info? 9).map (fun i => (i.zero, i.size, i.bytes)) = some (some (.string ⟨#[]⟩), 1, 16) := by kernel_rfl
set_option maxHeartbeats 2000000 in
theorem word_w (pw : Nat) (xs : List ByteArray) (o t : Bool) (v : Value) (s : ByteArray) (w : World) (h : WrAt w pw xs o t v) (hl : xs.length ≤ 100000) :
    Calls Tryz.prog 19 #[.pointer (some ⟨pw, 0, none⟩), .string s] w fun e w' => e = .returned (.tuple #[]) ∧ ∃ v', WrAt w' pw (xs ++ [s]) o t v' ∧ WStep pw w w' := by
  have HW := Lib.hid h
  have cw : w.cell? ⟨pw, 0, none⟩ = some v := by rw [cell_of_row w pw 0 _ _ _ h.cell]; rfl
  have hlt := h.lt
  obtain ⟨i, hi, hz0, hz1, hz2⟩ := info_parts info9
  obtain ⟨v', w', hrun, hown, hgr, hnil⟩ := append_own2 (P := Tryz.prog) (w.alloc (.cells #[.string s] 9)) (pw + 1) 64 64 9 i (.string ⟨#[]⟩) 1 16 Tryz.underlying64 hi hz0 hz1 hz2 rfl (by omega)
    v xs.length (xs.map .string) (h.own.alloc _) ⟨w.heap.size, 0, none⟩ 1 1 [.string s] rfl (by
      intro j u hj
      match j, hj with
      | 0, hj => simp at hj; subst hj; simp [go_sem, Addr.add]) (by simp [Value.oneCell']) (by unfold maxLen; omega) (by omega) (by simp; omega)
  have HR := Lib.hid hrun
  have hform : ∃ g cap, v' = .slice (some ⟨g, 0, none⟩) (xs.length + 1) cap := by
    rcases hown.2 with ⟨_, hn⟩ | ⟨g, cap, cur, hv, _⟩
    · omega
    · exact ⟨g, cap, hv⟩
  obtain ⟨g, cap, rfl⟩ := hform
  have hp1 : w'.heap[pw]? = some (.cells #[v, .bool o, .bool t] 66 (0, 0)) := by
    rw [hgr.block pw (by simp; omega) (fun e => by have := h.row_ge pw (by rw [h.rowOf]; exact e.symm); omega), Below.heap_alloc _ _ _ hlt]; exact h.cell
  have cw1 : w'.cell? ⟨pw, 0, none⟩ = some v := by rw [cell_of_row w' pw 0 _ _ _ hp1]; rfl
  have fw1 : w'.frozen? ⟨pw, 0, none⟩ = false := frozen_of_row w' pw 0 _ _ hp1
  have HP := Lib.hid hp1
  have HG := Lib.hid hgr
  have HO := Lib.hid hown
  have HN := Lib.hid hnil
  clear hrun hown hgr hnil hp1 hi hz0 hz1 hz2 h
  refine calls_of_wE Tryz.func19 rfl Tryz.ntmps19 (by simp) ?_
  repeat' (first | with_reducible (first | refine wE_seq (fun K hK => ?_) | refine wE_block ?_ | refine wE_skip ?_ | refine wE_ret ?_ | refine wE_exit ?_) | ((with_reducible refine wE_region ?_ ?_); (kernel_rfl); simp only [ls, stripO]) | ((with_reducible refine wS_step (fun K hK => ?_)); simp [go_sem, lk, upd, envOf, stepS_value, stepS_skip, stepS_enter, ↓IntWalk.iteOmega, *]; (try go_ints); refine hK.out _ _ ?_; clear hK K) | ((with_reducible refine wS_unit (fun K hK => ?_)); simp [go_sem, lk, upd, envOf, stepS_value, stepS_skip, stepS_enter, ↓IntWalk.iteOmega, *]; (try go_ints); refine hK.out _ _ ?_; clear hK K) | ((with_reducible refine wS_skip ?_ ?_); (focus (simp [lk, upd, envOf, *]; done))) | ((with_reducible refine wS_want ?_ ?_); (focus (simp [lk, upd, envOf, *]; done))) | ((with_reducible refine wS_split (fun hc => ?_) (fun hc => ?_)) <;> simp [lk, upd, envOf, *] at hc <;> try (exfalso; omega)) | with_reducible refine wS_nil ?_ | simp only [thenE, blockE, ↓reduceIte, Nat.reduceEqDiff] | ((with_reducible refine hK.out _ _ ?_); clear hK K) | ((with_reducible refine wE_if ?_ (fun hc => ?_) (fun hc => ?_)); (focus (simp [lk, upd, envOf, *]; done)); all_goals (simp [lk, upd, envOf, *] at hc <;> try (exfalso; omega))) | (clear hK; clear K))
  refine wS_append v (.slice (some ⟨w.heap.size, 0, none⟩) 1 1) ?_ ?_ HR.out ?_
  · simp [evalS_tmp, upd]
  · simp [evalS_tmp, upd]
  repeat' (first | with_reducible (first | refine wE_seq (fun K hK => ?_) | refine wE_block ?_ | refine wE_skip ?_ | refine wE_ret ?_ | refine wE_exit ?_) | ((with_reducible refine wE_region ?_ ?_); (kernel_rfl); simp only [ls, stripO]) | ((with_reducible refine wS_step (fun K hK => ?_)); simp [go_sem, lk, upd, envOf, stepS_value, stepS_skip, stepS_enter, ↓IntWalk.iteOmega, *]; (try go_ints); refine hK.out _ _ ?_; clear hK K) | ((with_reducible refine wS_unit (fun K hK => ?_)); simp [go_sem, lk, upd, envOf, stepS_value, stepS_skip, stepS_enter, ↓IntWalk.iteOmega, *]; (try go_ints); refine hK.out _ _ ?_; clear hK K) | ((with_reducible refine wS_skip ?_ ?_); (focus (simp [lk, upd, envOf, *]; done))) | ((with_reducible refine wS_want ?_ ?_); (focus (simp [lk, upd, envOf, *]; done))) | ((with_reducible refine wS_split (fun hc => ?_) (fun hc => ?_)) <;> simp [lk, upd, envOf, *] at hc <;> try (exfalso; omega)) | with_reducible refine wS_nil ?_ | simp only [thenE, blockE, ↓reduceIte, Nat.reduceEqDiff] | ((with_reducible refine hK.out _ _ ?_); clear hK K) | ((with_reducible refine wE_if ?_ (fun hc => ?_) (fun hc => ?_)); (focus (simp [lk, upd, envOf, *]; done)); all_goals (simp [lk, upd, envOf, *] at hc <;> try (exfalso; omega))) | (clear hK; clear K))
  refine endE_none rfl ⟨rfl, _, ⟨heap_setCell_same w' pw 0 _ _ _ HP.out, ?_⟩, ⟨HG.out.os, HG.out.tape, HG.out.output, ?_, ?_, ?_⟩⟩
  · have := ownsRow_setCell_below HO.out (a := ⟨pw, 0, none⟩) (Nat.lt_succ_self _) (.slice (some ⟨g, 0, none⟩) (xs.length + 1) cap)
    simpa using this
  · have := HG.out.size
    simp [World.setCell] at this ⊢
    omega
  · intro k hk hp hr
    rw [heap_setCell_other _ _ _ _ hp, HG.out.block k (by simp; omega) (fun e => hr (by rw [HW.out.rowOf]; exact e.symm)), Below.heap_alloc _ _ _ hk]
  · intro k hk
    have e : rowOf (w'.setCell ⟨pw, 0, none⟩ (.slice (some ⟨g, 0, none⟩) (xs.length + 1) cap)) pw = some g := by
      unfold rowOf; rw [heap_setCell_same w' pw 0 _ _ _ HP.out]; rfl
    rw [e] at hk
    obtain rfl := Option.some.inj hk
    rcases HN.out g rfl with h | h
    · exact .inl (by rw [HW.out.rowOf]; exact h)
    · right; simp at h; omega
end Go.Proofs.YtglekdhdogjnoaaGreatDoor
