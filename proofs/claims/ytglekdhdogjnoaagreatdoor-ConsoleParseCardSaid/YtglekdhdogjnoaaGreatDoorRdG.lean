/- The reference's Parts, walked. -/
import Derived.Test.YtglekdhdogjnoaaGreatDoorRdE
namespace Go.Proofs.YtglekdhdogjnoaaGreatDoor
open Go.RowKit
set_option linter.unusedSimpArgs false
theorem info57 : (Tryz.prog.info? 57).map (fun i => (i.zero, i.size, i.bytes)) = some (some (.agg #[.bool false, .string ⟨#[]⟩]), 2, 24) := by kernel_rfl
theorem app_pt (w : World) (base : Nat) (v : Value) (ps : List PPart) (p : PPart) (hown : w.ownsRow base 57 2 v ps.length (partsC ps)) (hl : ps.length ≤ 100000000) (hbase : base ≤ w.heap.size) :
    ∃ v' w', (Builtin.append_ #[53, 53] 53 #[v, .slice (some ⟨w.heap.size, 0, none⟩) 1 1]).run Tryz.prog (w.alloc (.cells #[.bool p.quoted, .string p.text] 57)) = .ok v' w' ∧ w'.ownsRow base 57 2 v' (ps ++ [p]).length (partsC (ps ++ [p])) ∧ Below base w w' := by
  obtain ⟨i, hi, hz0, hz1, hz2⟩ := info_parts info57
  obtain ⟨v', w', hrun, h2, h3, _⟩ := run_append_own (P := Tryz.prog) (w.alloc (.cells #[.bool p.quoted, .string p.text] 57)) base 53 53 57 i (.agg #[.bool false, .string ⟨#[]⟩]) 2 24 Tryz.underlying53 hi hz0 hz1 hz2 rfl (by omega)
    v ps.length (partsC ps) (hown.alloc _) ⟨w.heap.size, 0, none⟩ 1 1 (partCells p) rfl (by
      intro j u hj
      rw [Addr.add_lit, cell_of_row _ w.heap.size (0 + j) _ _ _ (heap_alloc_new w _)]
      match j, hj with
      | 0, hj => simpa [partCells] using hj
      | 1, hj => simpa [partCells] using hj
      | j + 2, hj => simp [partCells] at hj) (by
      intro u hu
      simp only [partCells, List.mem_cons, List.not_mem_nil, or_false] at hu
      rcases hu with rfl | rfl <;> rfl) (by unfold maxLen; omega) (by omega) (by simp; omega)
  refine ⟨v', w', hrun, ?_, ?_⟩
  · have : partsC (ps ++ [p]) = partsC ps ++ partCells p := by simp [partsC]
    rw [this]
    simpa using h2
  · refine ⟨h3.os, h3.tape, h3.output, ?_, fun k hk => ?_⟩
    · have := h3.size; simp at this; omega
    · rw [h3.block k (by simp; omega) (fun e => by have := hown.lt k e.symm; omega), Below.heap_alloc _ _ _ (by omega)]
structure SrInv (l0 cur : List UInt8) (f : Nat) (ps : List PPart) : Prop where
  eq : splitF unescR (l0.length + 1) l0 = (splitF unescR f cur).map (ps ++ ·)
  fuel : cur.length < f
  cnt : ps.length + cur.length ≤ l0.length
theorem SrInv.start (l : List UInt8) : SrInv l l (l.length + 1) [] := by
  refine ⟨?_, by omega, by simp⟩
  cases splitF unescR (l.length + 1) l <;> simp
theorem SrInv.none {l0 cur : List UInt8} {f : Nat} {ps : List PPart} (h : SrInv l0 cur f ps) (hp : partF unescR cur = .none) : splitF unescR (l0.length + 1) l0 = .none := by
  have hf := h.fuel
  cases f with
  | zero => omega
  | succ f => rw [h.eq]; simp only [splitF, hp, Option.map_none]
theorem SrInv.last {l0 cur : List UInt8} {f : Nat} {ps : List PPart} {p : PPart} (h : SrInv l0 cur f ps) (hp : partF unescR cur = some (p, [])) : splitF unescR (l0.length + 1) l0 = some (ps ++ [p]) := by
  have hf := h.fuel
  cases f with
  | zero => omega
  | succ f => rw [h.eq]; simp only [splitF, hp, Option.map_some]
theorem SrInv.bad {l0 cur r : List UInt8} {f : Nat} {ps : List PPart} {p : PPart} {c : UInt8} (h : SrInv l0 cur f ps) (hp : partF unescR cur = some (p, c :: r)) (hc : ¬ c.toNat = 32) : splitF unescR (l0.length + 1) l0 = .none := by
  have hf := h.fuel
  cases f with
  | zero => omega
  | succ f => rw [h.eq]; simp only [splitF, hp, hc, if_false, Option.map_none]
theorem SrInv.next {l0 cur r : List UInt8} {f : Nat} {ps : List PPart} {p : PPart} {c : UInt8} (h : SrInv l0 cur f ps) (hp : partF unescR cur = some (p, c :: r)) (hc : c.toNat = 32) : ∃ f', SrInv l0 r f' (ps ++ [p]) ∧ r.length < cur.length := by
  have hf := h.fuel
  have hc2 := h.cnt
  have hle := partF_le hp
  have hw : 1 ≤ wt p := by unfold wt; split <;> omega
  simp only [List.length_cons] at hle
  cases f with
  | zero => omega
  | succ f =>
    refine ⟨f, ⟨?_, by omega, by simp; omega⟩, by omega⟩
    rw [h.eq]
    simp only [splitF, hp, hc, if_true]
    cases splitF unescR f r <;> simp
theorem pts_own {w : World} {base : Nat} {v : Value} {ps : List PPart} (h : w.ownsRow base 57 2 v ps.length (partsC ps)) : PtsAt w v ps := by
  rcases h.2 with ⟨rfl, hn⟩ | ⟨g, cap, cur, rfl, hb, hg, hnc, _⟩
  · have : ps = [] := List.eq_nil_of_length_eq_zero hn
    subst this
    exact ⟨none, 0, rfl, by simp, .inl rfl⟩
  · refine ⟨_, cap, rfl, hnc, .inr ⟨g, 0, rfl, fun j p hj => ?_⟩⟩
    have key : ∀ (l : List PPart) (j : Nat) (p : PPart), l[j]? = some p → (partsC l)[j * 2]? = some (.bool p.quoted) ∧ (partsC l)[j * 2 + 1]? = some (.string p.text) := by
      intro l
      induction l with
      | nil => intro j p h; simp at h
      | cons x l ih =>
        intro j p h
        cases j with
        | zero => simp at h; subst h; exact ⟨rfl, rfl⟩
        | succ j =>
          have := ih j p (by simpa using h)
          rw [show (j + 1) * 2 = j * 2 + 2 by omega]
          exact this
    obtain ⟨k1, k2⟩ := key ps j p hj
    have c1 := h.cells (g := g) rfl _ _ k1
    have c2 := h.cells (g := g) rfl _ _ k2
    rw [Addr.add_lit] at c1 c2
    rw [show 0 + j * 2 + 1 = 0 + (j * 2 + 1) by omega]
    exact ⟨c1, c2⟩
theorem size57 : (Tryz.prog.info? 57).map (·.size) = some 2 := by kernel_rfl
def PartsEnd (l : List UInt8) (w : World) (e : Ending) (w' : World) : Prop :=
  Grow w w' ∧ match splitF unescR (l.length + 1) l with
    | some ps => ∃ a n c, e = .returned (.tuple #[.slice a n c, .bool true]) ∧ PtsAt w' (.slice a n c) ps
    | none => e = .returned (.tuple #[.slice none 0 0, .bool false])
/-- A word goes on. -/
theorem sp_lt {l : List UInt8} {k : Nat} {c : UInt8} (h : l[k]? = some c) (hk : k ≤ spAt l) (hc : ¬ c.toNat = 32) : k + 1 ≤ spAt l := by
  obtain ⟨h1, h2⟩ := sp_take l
  rcases Nat.lt_or_ge k (spAt l) with h3 | h3
  · omega
  · have hk' : k = spAt l := by omega
    exfalso
    rw [hk'] at h
    have h4 : l.drop (spAt l) = c :: l.drop (spAt l + 1) := by
      obtain ⟨hlt, rfl⟩ := List.getElem?_eq_some_iff.1 h
      exact List.drop_eq_getElem_cons hlt
    rw [h2] at h4
    have h5 : ∀ (m : List UInt8) (r : List UInt8), m.dropWhile notSp = c :: r → notSp c = false := by
      intro m
      induction m with
      | nil => intro r h; simp at h
      | cons x m ih =>
        intro r h
        rw [List.dropWhile_cons] at h
        split at h
        · exact ih r h
        · rename_i hx
          obtain ⟨rfl, -⟩ := List.cons.inj h
          simpa using hx
    have h6 := h5 l _ h4
    unfold notSp at h6
    rw [bne_eq_false_iff_eq] at h6
    exact hc h6
theorem sp_stop {l : List UInt8} {k : Nat} {c : UInt8} (h : l[k]? = some c) (hk : k ≤ spAt l) (hc : c.toNat = 32) : k = spAt l := by
  obtain ⟨h1, h2⟩ := sp_take l
  rcases Nat.lt_or_ge k (spAt l) with h3 | h3
  · exfalso
    have h4 : c ∈ l.takeWhile notSp := by
      rw [← h1]
      refine List.mem_of_getElem? (i := k) ?_
      rw [List.getElem?_take, if_pos h3]; exact h
    have : ∀ m : List UInt8, c ∈ m.takeWhile notSp → notSp c = true := by
      intro m
      induction m with
      | nil => intro h; simp at h
      | cons x m ih =>
        intro h
        rw [List.takeWhile_cons] at h
        split at h
        · rename_i hx
          rcases List.mem_cons.1 h with rfl | h
          · exact hx
          · exact ih h
        · simp at h
    have h5 := this l h4
    unfold notSp at h5
    rw [bne_iff_ne] at h5
    exact h5 hc
  · omega
set_option maxHeartbeats 4000000 in
set_option maxRecDepth 100000 in
theorem parts_any (s : ByteArray) (w : World) (hs : s.size ≤ 10000000) : Calls Tryz.prog 13 #[.string s] w fun e w' => PartsEnd s.data.toList w e w' := by
  have HSZ := Lib.hid (show s.data.toList.length = s.size by simp)
  refine calls_of_wE Tryz.func13 rfl Tryz.ntmps13 (by simp) ?_
  repeat' (first | with_reducible (first | refine wE_seq (fun K hK => ?_) | refine wE_block ?_ | refine wE_skip ?_ | refine wE_ret ?_ | refine wE_exit ?_) | ((with_reducible refine wE_region ?_ ?_); (kernel_rfl); simp only [ls, stripO]) | ((with_reducible refine wS_step (fun K hK => ?_)); simp [go_sem, lk, upd, envOf, stepS_value, stepS_skip, stepS_enter, ↓IntWalk.iteOmega, *]; (try go_ints); refine hK.out _ _ ?_; clear hK K) | ((with_reducible refine wS_unit (fun K hK => ?_)); simp [go_sem, lk, upd, envOf, stepS_value, stepS_skip, stepS_enter, ↓IntWalk.iteOmega, *]; (try go_ints); refine hK.out _ _ ?_; clear hK K) | ((with_reducible refine wS_skip ?_ ?_); (focus (simp [lk, upd, envOf, *]; done))) | ((with_reducible refine wS_want ?_ ?_); (focus (simp [lk, upd, envOf, *]; done))) | ((with_reducible refine wS_split (fun hc => ?_) (fun hc => ?_)) <;> simp [lk, upd, envOf, *] at hc <;> try (exfalso; omega)) | with_reducible refine wS_nil ?_ | simp only [thenE, blockE, ↓reduceIte, Nat.reduceEqDiff] | ((with_reducible refine hK.out _ _ ?_); clear hK K) | ((with_reducible refine wE_if ?_ (fun hc => ?_) (fun hc => ?_)); (focus (simp [lk, upd, envOf, *]; done)); all_goals (simp [lk, upd, envOf, *] at hc <;> try (exfalso; omega))) | (clear hK; clear K))
  refine wE_loop (fun (m : Nat) σ w' => ∃ c f ps, m = c.size ∧ c.size ≤ 10000000 ∧ σ 0 = .string c ∧ SrInv s.data.toList c.data.toList f ps ∧ w'.ownsRow w.heap.size 57 2 (σ 4) ps.length (partsC ps) ∧ Grow w w') (fun m => m) s.size ?_ ?_
  · refine ⟨s, _, [], rfl, hs, by simp [upd, envOf], SrInv.start _, ?_, Grow.refl _⟩
    simp [upd]
    exact World.ownsRow_nil _ _ _ _
  rintro m σ w1 ⟨c, f, ps, rfl, hcs, e0, hI, ho, hg⟩
  generalize hv : σ 4 = v at ho
  have HI := Lib.hid hI
  have HO := Lib.hid ho
  have HG := Lib.hid hg
  have HCL := Lib.hid (show c.data.toList.length = c.size by simp)
  have hpl : ps.length ≤ 10000000 := by have := hI.cnt; have := HSZ.out; omega
  have hws : w.heap.size ≤ w1.heap.size := hg.size
  clear hI ho hg
  have hgb := Grow.alloc w1 (.cells #[.bool false, .string ⟨#[]⟩] 57)
  have hbb : (w1.alloc (.cells #[.bool false, .string ⟨#[]⟩] 57)).heap[w1.heap.size]? = some (.cells #[.bool false, .string ⟨#[]⟩] 57 (0, 0)) := heap_alloc_new w1 _
  repeat' (first | with_reducible (first | refine wE_seq (fun K hK => ?_) | refine wE_block ?_ | refine wE_skip ?_ | refine wE_ret ?_ | refine wE_exit ?_) | simp only [thenE, blockE, ↓reduceIte, Nat.reduceEqDiff] | ((with_reducible refine hK.out _ _ ?_); clear hK K) | ((with_reducible refine wE_if ?_ (fun hc => ?_) (fun hc => ?_)); (focus (simp [lk, upd, envOf, *]; done)); all_goals (simp [lk, upd, envOf, *] at hc <;> try (exfalso; omega))) | (clear hK; clear K))
  ((with_reducible refine wE_region ?_ ?_); (kernel_rfl); simp only [ls, stripO])
  repeat' (first | ((with_reducible refine wS_step (fun K hK => ?_)); simp [go_sem, lk, upd, envOf, stepS_value, stepS_skip, stepS_enter, ↓IntWalk.iteOmega, *]; (try go_ints); refine hK.out _ _ ?_; clear hK K) | ((with_reducible refine wS_unit (fun K hK => ?_)); simp [go_sem, lk, upd, envOf, stepS_value, stepS_skip, stepS_enter, ↓IntWalk.iteOmega, *]; (try go_ints); refine hK.out _ _ ?_; clear hK K) | ((with_reducible refine wS_skip ?_ ?_); (focus (simp [lk, upd, envOf, *]; done))) | ((with_reducible refine wS_want ?_ ?_); (focus (simp [lk, upd, envOf, *]; done))) | ((with_reducible refine wS_split (fun hc => ?_) (fun hc => ?_)) <;> simp [lk, upd, envOf, *] at hc <;> try (exfalso; omega)) | with_reducible refine wS_nil ?_)
  generalize w1.alloc (.cells #[.bool false, .string ⟨#[]⟩] 57) = w2 at *
  repeat' (first | with_reducible (first | refine wE_seq (fun K hK => ?_) | refine wE_block ?_ | refine wE_skip ?_ | refine wE_ret ?_ | refine wE_exit ?_) | simp only [thenE, blockE, ↓reduceIte, Nat.reduceEqDiff] | ((with_reducible refine hK.out _ _ ?_); clear hK K) | ((with_reducible refine wE_if ?_ (fun hc => ?_) (fun hc => ?_)); (focus (simp [lk, upd, envOf, *]; done)); all_goals (simp [lk, upd, envOf, *] at hc <;> try (exfalso; omega))) | (clear hK; clear K))
  ((with_reducible refine wE_region ?_ ?_); (kernel_rfl); simp only [ls, stripO])
  repeat' (first | ((with_reducible refine wS_step (fun K hK => ?_)); simp [go_sem, lk, upd, envOf, stepS_value, stepS_skip, stepS_enter, ↓IntWalk.iteOmega, *]; (try go_ints); refine hK.out _ _ ?_; clear hK K) | ((with_reducible refine wS_unit (fun K hK => ?_)); simp [go_sem, lk, upd, envOf, stepS_value, stepS_skip, stepS_enter, ↓IntWalk.iteOmega, *]; (try go_ints); refine hK.out _ _ ?_; clear hK K) | ((with_reducible refine wS_skip ?_ ?_); (focus (simp [lk, upd, envOf, *]; done))) | ((with_reducible refine wS_want ?_ ?_); (focus (simp [lk, upd, envOf, *]; done))) | ((with_reducible refine wS_split (fun hc => ?_) (fun hc => ?_)) <;> simp [lk, upd, envOf, *] at hc <;> try (exfalso; omega)) | with_reducible refine wS_nil ?_)
  repeat' (first | with_reducible (first | refine wE_seq (fun K hK => ?_) | refine wE_block ?_ | refine wE_skip ?_ | refine wE_ret ?_ | refine wE_exit ?_) | simp only [thenE, blockE, ↓reduceIte, Nat.reduceEqDiff] | ((with_reducible refine hK.out _ _ ?_); clear hK K) | ((with_reducible refine wE_if ?_ (fun hc => ?_) (fun hc => ?_)); (focus (simp [lk, upd, envOf, *]; done)); all_goals (simp [lk, upd, envOf, *] at hc <;> try (exfalso; omega))) | (clear hK; clear K))
  rename_i K1 hK1
  have HBB := Lib.hid hbb
  have HGB := Lib.hid hgb
  clear hbb hgb
  have rest : ∀ (σ : Env) (w3 : World) (p : PPart) (n : Nat), partF unescR c.data.toList = some (p, c.data.toList.drop n) → n ≤ c.size → σ 0 = .string c → σ 4 = v → σ 5 = .pointer (some ⟨w1.heap.size, 0, none⟩) → σ 6 = .int .i64 (n : Int) → w3.heap[w1.heap.size]? = some (.cells #[.bool p.quoted, .string p.text] 57 (0, 0)) → Grow w1 w3 → K1 σ w3 := by
    clear e0 hv hK K
    clear σ HBB HGB
    intro σ w3 p n hp hn e0 e4 e5 e6 hb3 hg3
    refine hK1.out _ _ ?_
    clear hK1 K1
    have HP := Lib.hid hp
    have r0 : w3.cell? ⟨w1.heap.size, 0, none⟩ = some (.bool p.quoted) := by rw [cell_of_row w3 _ 0 _ _ _ hb3]; rfl
    have r1 : w3.cell? ⟨w1.heap.size, 1, none⟩ = some (.string p.text) := by rw [cell_of_row w3 _ 1 _ _ _ hb3]; rfl
    obtain ⟨v', w4, hrun, hown4, hbel4⟩ := app_pt w3 w.heap.size v ps p (own_grow HO.out hg3) (by omega) (by have := hg3.size; omega)
    have HRN := Lib.hid hrun
    have HO4 := Lib.hid hown4
    have HG4 := Lib.hid ((HG.out.trans hg3).trans' hbel4)
    clear hp hrun hown4 hbel4 hb3 hg3
    repeat' (first | with_reducible (first | refine wE_seq (fun K hK => ?_) | refine wE_block ?_ | refine wE_skip ?_ | refine wE_ret ?_ | refine wE_exit ?_) | ((with_reducible refine wE_region ?_ ?_); (kernel_rfl); simp only [ls, stripO]) | ((with_reducible refine wS_step (fun K hK => ?_)); simp [go_sem, lk, upd, envOf, stepS_value, stepS_skip, stepS_enter, ↓IntWalk.iteOmega, *]; (try go_ints); refine hK.out _ _ ?_; clear hK K) | ((with_reducible refine wS_unit (fun K hK => ?_)); simp [go_sem, lk, upd, envOf, stepS_value, stepS_skip, stepS_enter, ↓IntWalk.iteOmega, *]; (try go_ints); refine hK.out _ _ ?_; clear hK K) | ((with_reducible refine wS_skip ?_ ?_); (focus (simp [lk, upd, envOf, *]; done))) | ((with_reducible refine wS_want ?_ ?_); (focus (simp [lk, upd, envOf, *]; done))) | ((with_reducible refine wS_split (fun hc => ?_) (fun hc => ?_)) <;> simp [lk, upd, envOf, *] at hc <;> try (exfalso; omega)) | with_reducible refine wS_nil ?_ | simp only [thenE, blockE, ↓reduceIte, Nat.reduceEqDiff] | ((with_reducible refine hK.out _ _ ?_); clear hK K) | ((with_reducible refine wE_if ?_ (fun hc => ?_) (fun hc => ?_)); (focus (simp [lk, upd, envOf, *]; done)); all_goals (simp [lk, upd, envOf, *] at hc <;> try (exfalso; omega))) | (clear hK; clear K))
    refine wS_append v (.slice (some ⟨w3.heap.size, 0, none⟩) 1 1) ?_ ?_ HRN.out ?_
    · simp [evalS_tmp, upd, *]
    · simp [evalS_tmp, upd]
    by_cases hnc : n = c.size
    · have tn : ((n : Int) == (c.size : Int)) = true := beq_t (by omega)
      have HS := Lib.hid (HI.out.last (p := p) (by rw [HP.out, List.drop_eq_nil_of_le (by have := HCL.out; omega)]))
      clear hnc
      repeat' (first | with_reducible (first | refine wE_seq (fun K hK => ?_) | refine wE_block ?_ | refine wE_skip ?_ | refine wE_ret ?_ | refine wE_exit ?_) | ((with_reducible refine wE_region ?_ ?_); (kernel_rfl); simp only [ls, stripO]) | ((with_reducible refine wS_step (fun K hK => ?_)); simp [go_sem, lk, upd, envOf, stepS_value, stepS_skip, stepS_enter, ↓IntWalk.iteOmega, *]; (try go_ints); refine hK.out _ _ ?_; clear hK K) | ((with_reducible refine wS_unit (fun K hK => ?_)); simp [go_sem, lk, upd, envOf, stepS_value, stepS_skip, stepS_enter, ↓IntWalk.iteOmega, *]; (try go_ints); refine hK.out _ _ ?_; clear hK K) | ((with_reducible refine wS_skip ?_ ?_); (focus (simp [lk, upd, envOf, *]; done))) | ((with_reducible refine wS_want ?_ ?_); (focus (simp [lk, upd, envOf, *]; done))) | ((with_reducible refine wS_split (fun hc => ?_) (fun hc => ?_)) <;> simp [lk, upd, envOf, *] at hc <;> try (exfalso; omega)) | with_reducible refine wS_nil ?_ | simp only [thenE, blockE, ↓reduceIte, Nat.reduceEqDiff] | ((with_reducible refine hK.out _ _ ?_); clear hK K) | ((with_reducible refine wE_if ?_ (fun hc => ?_) (fun hc => ?_)); (focus (simp [lk, upd, envOf, *]; done)); all_goals (simp [lk, upd, envOf, *] at hc <;> try (exfalso; omega))) | (clear hK; clear K))
      obtain ⟨aa, cc, hvv, h2, h4⟩ := pts_own HO4.out
      refine endE_tmp2R rfl ⟨HG4.out, ?_⟩
      rw [HS.out]
      exact ⟨aa, (ps ++ [p]).length, cc, by simp [upd, hvv], aa, cc, rfl, h2, h4⟩
    have tn : ((n : Int) == (c.size : Int)) = false := beq_f (by omega)
    have hlt : n < c.size := by omega
    have HD := Lib.hid (drop_atR c n hlt)
    have HP2 := Lib.hid (show partF unescR c.data.toList = some (p, c[n] :: c.data.toList.drop (n + 1)) by rw [HP.out, ← HD.out])
    clear hnc
    by_cases c32 : c[n].toNat = 32
    · have t32 : ((c[n].toNat : Int) != 32) = false := by rw [bne_eq_false_iff_eq]; omega
      obtain ⟨f', hI', hlt2⟩ := HI.out.next HP2.out c32
      have HI' := Lib.hid hI'
      have HLT := Lib.hid hlt2
      clear c32 hI' hlt2
      repeat' (first | with_reducible (first | refine wE_seq (fun K hK => ?_) | refine wE_block ?_ | refine wE_skip ?_ | refine wE_ret ?_ | refine wE_exit ?_) | ((with_reducible refine wE_region ?_ ?_); (kernel_rfl); simp only [ls, stripO]) | ((with_reducible refine wS_step (fun K hK => ?_)); simp [go_sem, lk, upd, envOf, stepS_value, stepS_skip, stepS_enter, ↓IntWalk.iteOmega, *]; (try go_ints); refine hK.out _ _ ?_; clear hK K) | ((with_reducible refine wS_unit (fun K hK => ?_)); simp [go_sem, lk, upd, envOf, stepS_value, stepS_skip, stepS_enter, ↓IntWalk.iteOmega, *]; (try go_ints); refine hK.out _ _ ?_; clear hK K) | ((with_reducible refine wS_skip ?_ ?_); (focus (simp [lk, upd, envOf, *]; done))) | ((with_reducible refine wS_want ?_ ?_); (focus (simp [lk, upd, envOf, *]; done))) | ((with_reducible refine wS_split (fun hc => ?_) (fun hc => ?_)) <;> simp [lk, upd, envOf, *] at hc <;> try (exfalso; omega)) | with_reducible refine wS_nil ?_ | simp only [thenE, blockE, ↓reduceIte, Nat.reduceEqDiff] | ((with_reducible refine hK.out _ _ ?_); clear hK K) | ((with_reducible refine wE_if ?_ (fun hc => ?_) (fun hc => ?_)); (focus (simp [lk, upd, envOf, *]; done)); all_goals (simp [lk, upd, envOf, *] at hc <;> try (exfalso; omega))) | (clear hK; clear K))
      refine ⟨(c.extract (n + 1) c.size).size, ⟨c.extract (n + 1) c.size, f', ps ++ [p], rfl, by rw [ByteArray.size_extract]; omega, by simp [upd], by rw [ext_end]; exact HI'.out, ?_, HG4.out⟩, by rw [ByteArray.size_extract]; omega⟩
      simpa [upd] using HO4.out
    · have t32 : ((c[n].toNat : Int) != 32) = true := by rw [bne_iff_ne]; omega
      have HS := Lib.hid (HI.out.bad HP2.out c32)
      clear c32
      repeat' (first | with_reducible (first | refine wE_seq (fun K hK => ?_) | refine wE_block ?_ | refine wE_skip ?_ | refine wE_ret ?_ | refine wE_exit ?_) | ((with_reducible refine wE_region ?_ ?_); (kernel_rfl); simp only [ls, stripO]) | ((with_reducible refine wS_step (fun K hK => ?_)); simp [go_sem, lk, upd, envOf, stepS_value, stepS_skip, stepS_enter, ↓IntWalk.iteOmega, *]; (try go_ints); refine hK.out _ _ ?_; clear hK K) | ((with_reducible refine wS_unit (fun K hK => ?_)); simp [go_sem, lk, upd, envOf, stepS_value, stepS_skip, stepS_enter, ↓IntWalk.iteOmega, *]; (try go_ints); refine hK.out _ _ ?_; clear hK K) | ((with_reducible refine wS_skip ?_ ?_); (focus (simp [lk, upd, envOf, *]; done))) | ((with_reducible refine wS_want ?_ ?_); (focus (simp [lk, upd, envOf, *]; done))) | ((with_reducible refine wS_split (fun hc => ?_) (fun hc => ?_)) <;> simp [lk, upd, envOf, *] at hc <;> try (exfalso; omega)) | with_reducible refine wS_nil ?_ | simp only [thenE, blockE, ↓reduceIte, Nat.reduceEqDiff] | ((with_reducible refine hK.out _ _ ?_); clear hK K) | ((with_reducible refine wE_if ?_ (fun hc => ?_) (fun hc => ?_)); (focus (simp [lk, upd, envOf, *]; done)); all_goals (simp [lk, upd, envOf, *] at hc <;> try (exfalso; omega))) | (clear hK; clear K))
      refine endE_tmp2R rfl ⟨HG4.out, ?_⟩
      rw [HS.out]
      simp [upd]
  have HREST := Lib.hid rest
  clear rest hK1
  have HSL := Lib.hid (spAt_le c.data.toList)
  have HTW := Lib.hid (sp_take c.data.toList)
  by_cases h0 : 0 < c.size
  rotate_left
  · have i0 : ¬ (0 : Int) < (c.size : Int) := by omega
    have HPF := Lib.hid (show partF unescR c.data.toList = some (⟨false, S (c.data.toList.takeWhile notSp)⟩, c.data.toList.dropWhile notSp) by
      have hl : c.data.toList = [] := List.eq_nil_of_length_eq_zero (by have := HCL.out; omega)
      rw [hl]; rfl)
    have r0 : w2.cell? ⟨w1.heap.size, 0, none⟩ = some (.bool false) := by rw [cell_of_row w2 _ 0 _ _ _ HBB.out]; rfl
    have r1 : w2.cell? ⟨w1.heap.size, 1, none⟩ = some (.string ⟨#[]⟩) := by rw [cell_of_row w2 _ 1 _ _ _ HBB.out]; rfl
    have fz : w2.frozen? ⟨w1.heap.size, 1, none⟩ = false := frozen_of_row w2 _ 1 _ _ HBB.out
    skip
    repeat' (first | with_reducible (first | refine wE_seq (fun K hK => ?_) | refine wE_block ?_ | refine wE_skip ?_ | refine wE_ret ?_ | refine wE_exit ?_) | ((with_reducible refine wE_region ?_ ?_); (kernel_rfl); simp only [ls, stripO]) | ((with_reducible refine wS_step (fun K hK => ?_)); simp [go_sem, lk, upd, envOf, stepS_value, stepS_skip, stepS_enter, ↓IntWalk.iteOmega, *]; (try go_ints); refine hK.out _ _ ?_; clear hK K) | ((with_reducible refine wS_unit (fun K hK => ?_)); simp [go_sem, lk, upd, envOf, stepS_value, stepS_skip, stepS_enter, ↓IntWalk.iteOmega, *]; (try go_ints); refine hK.out _ _ ?_; clear hK K) | ((with_reducible refine wS_skip ?_ ?_); (focus (simp [lk, upd, envOf, *]; done))) | ((with_reducible refine wS_want ?_ ?_); (focus (simp [lk, upd, envOf, *]; done))) | ((with_reducible refine wS_split (fun hc => ?_) (fun hc => ?_)) <;> simp [lk, upd, envOf, *] at hc <;> try (exfalso; omega)) | with_reducible refine wS_nil ?_ | simp only [thenE, blockE, ↓reduceIte, Nat.reduceEqDiff] | ((with_reducible refine hK.out _ _ ?_); clear hK K) | ((with_reducible refine wE_if ?_ (fun hc => ?_) (fun hc => ?_)); (focus (simp [lk, upd, envOf, *]; done)); all_goals (simp [lk, upd, envOf, *] at hc <;> try (exfalso; omega))) | (clear hK; clear K))
    refine wE_loop (fun (k : Nat) σ w' => k ≤ spAt c.data.toList ∧ σ 0 = .string c ∧ σ 4 = v ∧ σ 5 = .pointer (some ⟨w1.heap.size, 0, none⟩) ∧ σ 6 = .int .i64 k ∧ w2 = w') (fun k => c.size - k) 0 ?_ ?_
    · exact ⟨by omega, by simp [upd, *], by simp [upd, *], by simp [upd], by simp [upd], rfl⟩
    rintro k σ _ ⟨hk, e0, e4, e5, e6, rfl⟩
    have hkc : k ≤ c.size := by have := HSL.out; have := HCL.out; omega
    have fin : k = spAt c.data.toList → Hid (partF unescR c.data.toList = some (⟨false, c.extract 0 k⟩, c.data.toList.drop k)) := by
      intro hke
      show _ = _
      rw [HPF.out, ← HTW.out.2, ← hke]
      congr 3
      rw [← HTW.out.1, ← hke]
      conv => rhs; rw [← S_of c]
      rw [S_extract, List.drop_zero]
    have HFIN := Lib.hid fin
    clear fin
    have hsc : ¬ (c.size : Int) < (k : Int) := by omega
    by_cases hlt : k < c.size
    · exact absurd hlt (by omega)
    · have m1 : ¬ (k : Int) < (c.size : Int) := by omega
      have HP := HFIN.out (by have := HSL.out; have := HCL.out; omega)
      repeat' (first | with_reducible (first | refine wE_seq (fun K hK => ?_) | refine wE_block ?_ | refine wE_skip ?_ | refine wE_ret ?_ | refine wE_exit ?_) | ((with_reducible refine wE_region ?_ ?_); (kernel_rfl); simp only [ls, stripO]) | ((with_reducible refine wS_step (fun K hK => ?_)); simp [go_sem, lk, upd, envOf, stepS_value, stepS_skip, stepS_enter, ↓IntWalk.iteOmega, *]; (try go_ints); refine hK.out _ _ ?_; clear hK K) | ((with_reducible refine wS_unit (fun K hK => ?_)); simp [go_sem, lk, upd, envOf, stepS_value, stepS_skip, stepS_enter, ↓IntWalk.iteOmega, *]; (try go_ints); refine hK.out _ _ ?_; clear hK K) | ((with_reducible refine wS_skip ?_ ?_); (focus (simp [lk, upd, envOf, *]; done))) | ((with_reducible refine wS_want ?_ ?_); (focus (simp [lk, upd, envOf, *]; done))) | ((with_reducible refine wS_split (fun hc => ?_) (fun hc => ?_)) <;> simp [lk, upd, envOf, *] at hc <;> try (exfalso; omega)) | with_reducible refine wS_nil ?_ | simp only [thenE, blockE, ↓reduceIte, Nat.reduceEqDiff] | ((with_reducible refine hK.out _ _ ?_); clear hK K) | ((with_reducible refine wE_if ?_ (fun hc => ?_) (fun hc => ?_)); (focus (simp [lk, upd, envOf, *]; done)); all_goals (simp [lk, upd, envOf, *] at hc <;> try (exfalso; omega))) | (clear hK; clear K))
      exact HREST.out _ _ ⟨false, c.extract 0 k⟩ k HP.out hkc (by simp [upd, *]) (by simp [upd, *]) (by simp [upd, *]) (by simp [upd, *]) (heap_setCell_same w2 _ 1 _ _ _ HBB.out) (HGB.out.trans' (below_put _ (Nat.le_refl _) _))
  have i0 : (0 : Int) < (c.size : Int) := by omega
  have HD := Lib.hid (drop_atR c 0 h0)
  by_cases c34 : c[0].toNat = 34
  rotate_left
  · have t34 : ((c[0].toNat : Int) == 34) = false := beq_f (by omega)
    have HPF := Lib.hid (show partF unescR c.data.toList = some (⟨false, S (c.data.toList.takeWhile notSp)⟩, c.data.toList.dropWhile notSp) by
      have hl := HD.out
      rw [List.drop_zero] at hl
      rw [hl, partF, if_neg c34])
    have r0 : w2.cell? ⟨w1.heap.size, 0, none⟩ = some (.bool false) := by rw [cell_of_row w2 _ 0 _ _ _ HBB.out]; rfl
    have r1 : w2.cell? ⟨w1.heap.size, 1, none⟩ = some (.string ⟨#[]⟩) := by rw [cell_of_row w2 _ 1 _ _ _ HBB.out]; rfl
    have fz : w2.frozen? ⟨w1.heap.size, 1, none⟩ = false := frozen_of_row w2 _ 1 _ _ HBB.out
    clear c34
    repeat' (first | with_reducible (first | refine wE_seq (fun K hK => ?_) | refine wE_block ?_ | refine wE_skip ?_ | refine wE_ret ?_ | refine wE_exit ?_) | ((with_reducible refine wE_region ?_ ?_); (kernel_rfl); simp only [ls, stripO]) | ((with_reducible refine wS_step (fun K hK => ?_)); simp [go_sem, lk, upd, envOf, stepS_value, stepS_skip, stepS_enter, ↓IntWalk.iteOmega, *]; (try go_ints); refine hK.out _ _ ?_; clear hK K) | ((with_reducible refine wS_unit (fun K hK => ?_)); simp [go_sem, lk, upd, envOf, stepS_value, stepS_skip, stepS_enter, ↓IntWalk.iteOmega, *]; (try go_ints); refine hK.out _ _ ?_; clear hK K) | ((with_reducible refine wS_skip ?_ ?_); (focus (simp [lk, upd, envOf, *]; done))) | ((with_reducible refine wS_want ?_ ?_); (focus (simp [lk, upd, envOf, *]; done))) | ((with_reducible refine wS_split (fun hc => ?_) (fun hc => ?_)) <;> simp [lk, upd, envOf, *] at hc <;> try (exfalso; omega)) | with_reducible refine wS_nil ?_ | simp only [thenE, blockE, ↓reduceIte, Nat.reduceEqDiff] | ((with_reducible refine hK.out _ _ ?_); clear hK K) | ((with_reducible refine wE_if ?_ (fun hc => ?_) (fun hc => ?_)); (focus (simp [lk, upd, envOf, *]; done)); all_goals (simp [lk, upd, envOf, *] at hc <;> try (exfalso; omega))) | (clear hK; clear K))
    refine wE_loop (fun (k : Nat) σ w' => k ≤ spAt c.data.toList ∧ σ 0 = .string c ∧ σ 4 = v ∧ σ 5 = .pointer (some ⟨w1.heap.size, 0, none⟩) ∧ σ 6 = .int .i64 k ∧ w2 = w') (fun k => c.size - k) 0 ?_ ?_
    · exact ⟨by omega, by simp [upd, *], by simp [upd, *], by simp [upd], by simp [upd], rfl⟩
    rintro k σ _ ⟨hk, e0, e4, e5, e6, rfl⟩
    have hkc : k ≤ c.size := by have := HSL.out; have := HCL.out; omega
    have fin : k = spAt c.data.toList → Hid (partF unescR c.data.toList = some (⟨false, c.extract 0 k⟩, c.data.toList.drop k)) := by
      intro hke
      show _ = _
      rw [HPF.out, ← HTW.out.2, ← hke]
      congr 3
      rw [← HTW.out.1, ← hke]
      conv => rhs; rw [← S_of c]
      rw [S_extract, List.drop_zero]
    have HFIN := Lib.hid fin
    clear fin
    have hsc : ¬ (c.size : Int) < (k : Int) := by omega
    by_cases hlt : k < c.size
    · have m1 : (k : Int) < (c.size : Int) := by omega
      have HCK := Lib.hid (show c.data.toList[k]? = some c[k] by
        rw [List.getElem?_eq_getElem (by have := HCL.out; omega)]; rfl)
      by_cases c32 : c[k].toNat = 32
      · have t32 : ((c[k].toNat : Int) != 32) = false := by rw [bne_eq_false_iff_eq]; omega
        have HP := HFIN.out (sp_stop HCK.out hk c32)
        clear c32
        repeat' (first | with_reducible (first | refine wE_seq (fun K hK => ?_) | refine wE_block ?_ | refine wE_skip ?_ | refine wE_ret ?_ | refine wE_exit ?_) | ((with_reducible refine wE_region ?_ ?_); (kernel_rfl); simp only [ls, stripO]) | ((with_reducible refine wS_step (fun K hK => ?_)); simp [go_sem, lk, upd, envOf, stepS_value, stepS_skip, stepS_enter, ↓IntWalk.iteOmega, *]; (try go_ints); refine hK.out _ _ ?_; clear hK K) | ((with_reducible refine wS_unit (fun K hK => ?_)); simp [go_sem, lk, upd, envOf, stepS_value, stepS_skip, stepS_enter, ↓IntWalk.iteOmega, *]; (try go_ints); refine hK.out _ _ ?_; clear hK K) | ((with_reducible refine wS_skip ?_ ?_); (focus (simp [lk, upd, envOf, *]; done))) | ((with_reducible refine wS_want ?_ ?_); (focus (simp [lk, upd, envOf, *]; done))) | ((with_reducible refine wS_split (fun hc => ?_) (fun hc => ?_)) <;> simp [lk, upd, envOf, *] at hc <;> try (exfalso; omega)) | with_reducible refine wS_nil ?_ | simp only [thenE, blockE, ↓reduceIte, Nat.reduceEqDiff] | ((with_reducible refine hK.out _ _ ?_); clear hK K) | ((with_reducible refine wE_if ?_ (fun hc => ?_) (fun hc => ?_)); (focus (simp [lk, upd, envOf, *]; done)); all_goals (simp [lk, upd, envOf, *] at hc <;> try (exfalso; omega))) | (clear hK; clear K))
        exact HREST.out _ _ ⟨false, c.extract 0 k⟩ k HP.out hkc (by simp [upd, *]) (by simp [upd, *]) (by simp [upd, *]) (by simp [upd, *]) (heap_setCell_same w2 _ 1 _ _ _ HBB.out) (HGB.out.trans' (below_put _ (Nat.le_refl _) _))
      · have t32 : ((c[k].toNat : Int) != 32) = true := by rw [bne_iff_ne]; omega
        have hk1 := sp_lt HCK.out hk c32
        clear c32
        repeat' (first | with_reducible (first | refine wE_seq (fun K hK => ?_) | refine wE_block ?_ | refine wE_skip ?_ | refine wE_ret ?_ | refine wE_exit ?_) | ((with_reducible refine wE_region ?_ ?_); (kernel_rfl); simp only [ls, stripO]) | ((with_reducible refine wS_step (fun K hK => ?_)); simp [go_sem, lk, upd, envOf, stepS_value, stepS_skip, stepS_enter, ↓IntWalk.iteOmega, *]; (try go_ints); refine hK.out _ _ ?_; clear hK K) | ((with_reducible refine wS_unit (fun K hK => ?_)); simp [go_sem, lk, upd, envOf, stepS_value, stepS_skip, stepS_enter, ↓IntWalk.iteOmega, *]; (try go_ints); refine hK.out _ _ ?_; clear hK K) | ((with_reducible refine wS_skip ?_ ?_); (focus (simp [lk, upd, envOf, *]; done))) | ((with_reducible refine wS_want ?_ ?_); (focus (simp [lk, upd, envOf, *]; done))) | ((with_reducible refine wS_split (fun hc => ?_) (fun hc => ?_)) <;> simp [lk, upd, envOf, *] at hc <;> try (exfalso; omega)) | with_reducible refine wS_nil ?_ | simp only [thenE, blockE, ↓reduceIte, Nat.reduceEqDiff] | ((with_reducible refine hK.out _ _ ?_); clear hK K) | ((with_reducible refine wE_if ?_ (fun hc => ?_) (fun hc => ?_)); (focus (simp [lk, upd, envOf, *]; done)); all_goals (simp [lk, upd, envOf, *] at hc <;> try (exfalso; omega))) | (clear hK; clear K))
        exact ⟨k + 1, ⟨hk1, by simp [upd, *], by simp [upd, *], by simp [upd, *], by simp [upd], trivial⟩, by omega⟩
    · have m1 : ¬ (k : Int) < (c.size : Int) := by omega
      have HP := HFIN.out (by have := HSL.out; have := HCL.out; omega)
      repeat' (first | with_reducible (first | refine wE_seq (fun K hK => ?_) | refine wE_block ?_ | refine wE_skip ?_ | refine wE_ret ?_ | refine wE_exit ?_) | ((with_reducible refine wE_region ?_ ?_); (kernel_rfl); simp only [ls, stripO]) | ((with_reducible refine wS_step (fun K hK => ?_)); simp [go_sem, lk, upd, envOf, stepS_value, stepS_skip, stepS_enter, ↓IntWalk.iteOmega, *]; (try go_ints); refine hK.out _ _ ?_; clear hK K) | ((with_reducible refine wS_unit (fun K hK => ?_)); simp [go_sem, lk, upd, envOf, stepS_value, stepS_skip, stepS_enter, ↓IntWalk.iteOmega, *]; (try go_ints); refine hK.out _ _ ?_; clear hK K) | ((with_reducible refine wS_skip ?_ ?_); (focus (simp [lk, upd, envOf, *]; done))) | ((with_reducible refine wS_want ?_ ?_); (focus (simp [lk, upd, envOf, *]; done))) | ((with_reducible refine wS_split (fun hc => ?_) (fun hc => ?_)) <;> simp [lk, upd, envOf, *] at hc <;> try (exfalso; omega)) | with_reducible refine wS_nil ?_ | simp only [thenE, blockE, ↓reduceIte, Nat.reduceEqDiff] | ((with_reducible refine hK.out _ _ ?_); clear hK K) | ((with_reducible refine wE_if ?_ (fun hc => ?_) (fun hc => ?_)); (focus (simp [lk, upd, envOf, *]; done)); all_goals (simp [lk, upd, envOf, *] at hc <;> try (exfalso; omega))) | (clear hK; clear K))
      exact HREST.out _ _ ⟨false, c.extract 0 k⟩ k HP.out hkc (by simp [upd, *]) (by simp [upd, *]) (by simp [upd, *]) (by simp [upd, *]) (heap_setCell_same w2 _ 1 _ _ _ HBB.out) (HGB.out.trans' (below_put _ (Nat.le_refl _) _))
  have t34 : ((c[0].toNat : Int) == 34) = true := beq_t (by omega)
  have HPF := Lib.hid (show partF unescR c.data.toList = (unqF unescR ((c.data.toList.drop 1).length + 1) (c.data.toList.drop 1)).map fun x => (⟨true, S x.1⟩, x.2) by
    have hl := HD.out
    rw [List.drop_zero, Nat.zero_add] at hl
    conv => lhs; rw [hl]
    simp only [partF, c34, if_true])
  have HUV := Lib.hid (quoted_any (c.extract 1 c.size) w2 (by rw [ByteArray.size_extract]; omega))
  rw [ext_end] at HUV
  clear c34
  cases hu : unqF unescR ((c.data.toList.drop 1).length + 1) (c.data.toList.drop 1) with
  | none =>
    have HS := Lib.hid (HI.out.none (by rw [HPF.out, hu]; rfl))
    have HUC := Lib.hid (show unqVR (c.data.toList.drop 1) = .tuple #[.string ⟨#[]⟩, .int .i64 0, .bool false] by unfold unqVR; rw [hu])
    rw [HUC.out] at HUV
    clear hu
    repeat' (first | with_reducible (first | refine wE_seq (fun K hK => ?_) | refine wE_block ?_ | refine wE_skip ?_ | refine wE_ret ?_ | refine wE_exit ?_) | ((with_reducible refine wE_region ?_ ?_); (kernel_rfl); simp only [ls, stripO]) | ((with_reducible refine wS_step (fun K hK => ?_)); simp [go_sem, lk, upd, envOf, stepS_value, stepS_skip, stepS_enter, ↓IntWalk.iteOmega, *]; (try go_ints); refine hK.out _ _ ?_; clear hK K) | ((with_reducible refine wS_unit (fun K hK => ?_)); simp [go_sem, lk, upd, envOf, stepS_value, stepS_skip, stepS_enter, ↓IntWalk.iteOmega, *]; (try go_ints); refine hK.out _ _ ?_; clear hK K) | ((with_reducible refine wS_skip ?_ ?_); (focus (simp [lk, upd, envOf, *]; done))) | ((with_reducible refine wS_want ?_ ?_); (focus (simp [lk, upd, envOf, *]; done))) | ((with_reducible refine wS_split (fun hc => ?_) (fun hc => ?_)) <;> simp [lk, upd, envOf, *] at hc <;> try (exfalso; omega)) | with_reducible refine wS_nil ?_ | simp only [thenE, blockE, ↓reduceIte, Nat.reduceEqDiff] | ((with_reducible refine hK.out _ _ ?_); clear hK K) | ((with_reducible refine wE_if ?_ (fun hc => ?_) (fun hc => ?_)); (focus (simp [lk, upd, envOf, *]; done)); all_goals (simp [lk, upd, envOf, *] at hc <;> try (exfalso; omega))) | (clear hK; clear K))
    (with_reducible refine wS_step (fun K hK => ?_)); simp [go_sem, lk, upd, envOf, stepS_value, stepS_skip, stepS_enter, ↓IntWalk.iteOmega, *]; (try go_ints); refine (HUV.out).mono ?_; rintro e w3 ⟨rfl, hg3⟩; refine ⟨_, rfl, hK.out _ _ ?_⟩; clear hK K
    have HG3 := Lib.hid (HG.out.trans (HGB.out.trans hg3))
    clear hg3
    repeat' (first | with_reducible (first | refine wE_seq (fun K hK => ?_) | refine wE_block ?_ | refine wE_skip ?_ | refine wE_ret ?_ | refine wE_exit ?_) | ((with_reducible refine wE_region ?_ ?_); (kernel_rfl); simp only [ls, stripO]) | ((with_reducible refine wS_step (fun K hK => ?_)); simp [go_sem, lk, upd, envOf, stepS_value, stepS_skip, stepS_enter, ↓IntWalk.iteOmega, *]; (try go_ints); refine hK.out _ _ ?_; clear hK K) | ((with_reducible refine wS_unit (fun K hK => ?_)); simp [go_sem, lk, upd, envOf, stepS_value, stepS_skip, stepS_enter, ↓IntWalk.iteOmega, *]; (try go_ints); refine hK.out _ _ ?_; clear hK K) | ((with_reducible refine wS_skip ?_ ?_); (focus (simp [lk, upd, envOf, *]; done))) | ((with_reducible refine wS_want ?_ ?_); (focus (simp [lk, upd, envOf, *]; done))) | ((with_reducible refine wS_split (fun hc => ?_) (fun hc => ?_)) <;> simp [lk, upd, envOf, *] at hc <;> try (exfalso; omega)) | with_reducible refine wS_nil ?_ | simp only [thenE, blockE, ↓reduceIte, Nat.reduceEqDiff] | ((with_reducible refine hK.out _ _ ?_); clear hK K) | ((with_reducible refine wE_if ?_ (fun hc => ?_) (fun hc => ?_)); (focus (simp [lk, upd, envOf, *]; done)); all_goals (simp [lk, upd, envOf, *] at hc <;> try (exfalso; omega))) | (clear hK; clear K))
    refine endE_tmp2R rfl ⟨HG3.out, ?_⟩
    rw [HS.out]
    simp [upd]
  | some tr =>
    obtain ⟨tx, r⟩ := tr
    have hle := unqF_le _ _ _ _ hu
    have hsf := unqF_suffix _ _ _ _ hu
    have hdl : (c.data.toList.drop 1).length = c.size - 1 := by rw [List.length_drop, HCL.out]
    obtain ⟨nn, hnn⟩ : ∃ nn : Nat, nn = (c.data.toList.drop 1).length - r.length := ⟨_, rfl⟩
    have HUC := Lib.hid (show unqVR (c.data.toList.drop 1) = .tuple #[.string (S tx), .int .i64 (nn : Int), .bool true] by
      unfold unqVR; rw [hu]; show Value.tuple #[.string (S tx), .int .i64 (((c.data.toList.drop 1).length : Int) - (r.length : Int)), .bool true] = _; rw [show (((c.data.toList.drop 1).length : Int) - (r.length : Int)) = (nn : Int) by omega])
    rw [HUC.out] at HUV
    have HPT := Lib.hid (show partF unescR c.data.toList = some (⟨true, S tx⟩, c.data.toList.drop (nn + 1)) by
      rw [HPF.out, hu]
      simp only [Option.map_some]
      rw [Nat.add_comm nn 1, ← List.drop_drop, hnn, ← hsf])
    have hnb : nn + 1 ≤ c.size := by omega
    clear hu hle hsf hdl hnn
    repeat' (first | with_reducible (first | refine wE_seq (fun K hK => ?_) | refine wE_block ?_ | refine wE_skip ?_ | refine wE_ret ?_ | refine wE_exit ?_) | ((with_reducible refine wE_region ?_ ?_); (kernel_rfl); simp only [ls, stripO]) | ((with_reducible refine wS_step (fun K hK => ?_)); simp [go_sem, lk, upd, envOf, stepS_value, stepS_skip, stepS_enter, ↓IntWalk.iteOmega, *]; (try go_ints); refine hK.out _ _ ?_; clear hK K) | ((with_reducible refine wS_unit (fun K hK => ?_)); simp [go_sem, lk, upd, envOf, stepS_value, stepS_skip, stepS_enter, ↓IntWalk.iteOmega, *]; (try go_ints); refine hK.out _ _ ?_; clear hK K) | ((with_reducible refine wS_skip ?_ ?_); (focus (simp [lk, upd, envOf, *]; done))) | ((with_reducible refine wS_want ?_ ?_); (focus (simp [lk, upd, envOf, *]; done))) | ((with_reducible refine wS_split (fun hc => ?_) (fun hc => ?_)) <;> simp [lk, upd, envOf, *] at hc <;> try (exfalso; omega)) | with_reducible refine wS_nil ?_ | simp only [thenE, blockE, ↓reduceIte, Nat.reduceEqDiff] | ((with_reducible refine hK.out _ _ ?_); clear hK K) | ((with_reducible refine wE_if ?_ (fun hc => ?_) (fun hc => ?_)); (focus (simp [lk, upd, envOf, *]; done)); all_goals (simp [lk, upd, envOf, *] at hc <;> try (exfalso; omega))) | (clear hK; clear K))
    (with_reducible refine wS_step (fun K hK => ?_)); simp [go_sem, lk, upd, envOf, stepS_value, stepS_skip, stepS_enter, ↓IntWalk.iteOmega, *]; (try go_ints); refine (HUV.out).mono ?_; rintro e w3 ⟨rfl, hg3⟩; refine ⟨_, rfl, hK.out _ _ ?_⟩; clear hK K
    have HG3 := Lib.hid (HGB.out.trans hg3)
    have HB3 := Lib.hid (show w3.heap[w1.heap.size]? = some (.cells #[.bool false, .string ⟨#[]⟩] 57 (0, 0)) by rw [hg3.block _ (Array.getElem?_eq_some_iff.1 HBB.out).1]; exact HBB.out)
    clear hg3
    repeat' (first | with_reducible (first | refine wE_seq (fun K hK => ?_) | refine wE_block ?_ | refine wE_skip ?_ | refine wE_ret ?_ | refine wE_exit ?_) | ((with_reducible refine wE_region ?_ ?_); (kernel_rfl); simp only [ls, stripO]) | ((with_reducible refine wS_step (fun K hK => ?_)); simp [go_sem, lk, upd, envOf, stepS_value, stepS_skip, stepS_enter, ↓IntWalk.iteOmega, *]; (try go_ints); refine hK.out _ _ ?_; clear hK K) | ((with_reducible refine wS_unit (fun K hK => ?_)); simp [go_sem, lk, upd, envOf, stepS_value, stepS_skip, stepS_enter, ↓IntWalk.iteOmega, *]; (try go_ints); refine hK.out _ _ ?_; clear hK K) | ((with_reducible refine wS_skip ?_ ?_); (focus (simp [lk, upd, envOf, *]; done))) | ((with_reducible refine wS_want ?_ ?_); (focus (simp [lk, upd, envOf, *]; done))) | ((with_reducible refine wS_split (fun hc => ?_) (fun hc => ?_)) <;> simp [lk, upd, envOf, *] at hc <;> try (exfalso; omega)) | with_reducible refine wS_nil ?_ | simp only [thenE, blockE, ↓reduceIte, Nat.reduceEqDiff] | ((with_reducible refine hK.out _ _ ?_); clear hK K) | ((with_reducible refine wE_if ?_ (fun hc => ?_) (fun hc => ?_)); (focus (simp [lk, upd, envOf, *]; done)); all_goals (simp [lk, upd, envOf, *] at hc <;> try (exfalso; omega))) | (clear hK; clear K))
    refine wS_storeRow w1.heap.size #[.bool true, .string (S tx)] #[.bool false, .string ⟨#[]⟩] (by simp [evalS_tmp, upd]) (by simp [evalS_tmp, upd]) HB3.out size57 rfl (by simp [Value.oneCell']) ?_
    repeat' (first | with_reducible (first | refine wE_seq (fun K hK => ?_) | refine wE_block ?_ | refine wE_skip ?_ | refine wE_ret ?_ | refine wE_exit ?_) | ((with_reducible refine wE_region ?_ ?_); (kernel_rfl); simp only [ls, stripO]) | ((with_reducible refine wS_step (fun K hK => ?_)); simp [go_sem, lk, upd, envOf, stepS_value, stepS_skip, stepS_enter, ↓IntWalk.iteOmega, *]; (try go_ints); refine hK.out _ _ ?_; clear hK K) | ((with_reducible refine wS_unit (fun K hK => ?_)); simp [go_sem, lk, upd, envOf, stepS_value, stepS_skip, stepS_enter, ↓IntWalk.iteOmega, *]; (try go_ints); refine hK.out _ _ ?_; clear hK K) | ((with_reducible refine wS_skip ?_ ?_); (focus (simp [lk, upd, envOf, *]; done))) | ((with_reducible refine wS_want ?_ ?_); (focus (simp [lk, upd, envOf, *]; done))) | ((with_reducible refine wS_split (fun hc => ?_) (fun hc => ?_)) <;> simp [lk, upd, envOf, *] at hc <;> try (exfalso; omega)) | with_reducible refine wS_nil ?_ | simp only [thenE, blockE, ↓reduceIte, Nat.reduceEqDiff] | ((with_reducible refine hK.out _ _ ?_); clear hK K) | ((with_reducible refine wE_if ?_ (fun hc => ?_) (fun hc => ?_)); (focus (simp [lk, upd, envOf, *]; done)); all_goals (simp [lk, upd, envOf, *] at hc <;> try (exfalso; omega))) | (clear hK; clear K))
    exact HREST.out _ _ ⟨true, S tx⟩ (nn + 1) HPT.out hnb (by simp [upd, *]) (by simp [upd, *]) (by simp [upd, *]) (by simp [upd, *]) (setRow_heap _ _ _ _ _ _ HB3.out) (HG3.out.trans' (below_row _ (Nat.le_refl _) _))
end Go.Proofs.YtglekdhdogjnoaaGreatDoor
