/- The program's split, walked. -/
import Derived.Test.YtglekdhdogjnoaaGreatDoorPrsB
namespace Go.Proofs.YtglekdhdogjnoaaGreatDoor
open Go.RowKit
set_option linter.unusedSimpArgs false
theorem unqF_suffix {e : List UInt8 → Option (UInt8 × Nat)} : ∀ (f : Nat) (l t r : List UInt8), unqF e f l = some (t, r) → r = l.drop (l.length - r.length)
  | 0, l, t, r, h => by simp [unqF] at h
  | f + 1, [], t, r, h => by simp [unqF] at h
  | f + 1, c :: l, t, r, h => by
    have hle := unqF_le _ _ _ _ h
    simp only [unqF] at h
    split at h
    · simp at h; obtain ⟨rfl, rfl⟩ := h
      simp
    split at h
    · split at h
      · simp at h
      · rename_i b n hb
        simp only [Option.map_eq_some_iff, Prod.mk.injEq] at h
        obtain ⟨x, hx, rfl, rfl⟩ := h
        have ih := unqF_suffix f _ _ _ hx
        have hl := unqF_le _ _ _ _ hx
        rw [List.drop_drop, List.length_drop] at ih
        rw [List.length_drop] at hl
        simp only [List.length_cons] at hle ⊢
        rw [show l.length + 1 - x.2.length = (l.length - x.2.length) + 1 by omega, List.drop_succ_cons]
        rw [show n + (l.length - n - x.2.length) = l.length - x.2.length by omega] at ih
        exact ih
    · simp only [Option.map_eq_some_iff, Prod.mk.injEq] at h
      obtain ⟨x, hx, rfl, rfl⟩ := h
      have ih := unqF_suffix f _ _ _ hx
      have hl := unqF_le _ _ _ _ hx
      simp only [List.length_cons] at hle ⊢
      rw [show l.length + 1 - x.2.length = (l.length - x.2.length) + 1 by omega, List.drop_succ_cons]
      exact ih
/-- Where the first word ends. -/
def spAt (l : List UInt8) : Nat := (l.takeWhile notSp).length
theorem spAt_le (l : List UInt8) : spAt l ≤ l.length := by have := take_drop_len l; unfold spAt; omega
theorem sp_take : ∀ (l : List UInt8), l.take (spAt l) = l.takeWhile notSp ∧ l.drop (spAt l) = l.dropWhile notSp
  | [] => ⟨rfl, rfl⟩
  | c :: l => by
    obtain ⟨h1, h2⟩ := sp_take l
    unfold spAt at *
    by_cases h : notSp c = true
    · simp [h, h1, h2]
    · have h' : notSp c = false := by simpa using h
      simp [h']
theorem index_sp : ∀ (l : List UInt8), (Lib.indexByte l 32 = -1 ∧ spAt l = l.length) ∨ (Lib.indexByte l 32 = (spAt l : Int) ∧ spAt l < l.length)
  | [] => .inl ⟨rfl, rfl⟩
  | c :: l => by
    have ih := index_sp l
    unfold spAt at *
    simp only [Lib.indexByte]
    by_cases h : c = 32
    · subst h
      right
      have : notSp 32 = false := by decide
      simp [this]
    · have h1 : (c == 32) = false := by simpa using h
      have h2 : notSp c = true := by
        unfold notSp
        rw [bne_iff_ne]
        intro e
        exact h (by apply UInt8.toNat_inj.1; rw [e]; rfl)
      rw [h1]
      rcases ih with ⟨a, b⟩ | ⟨a, b⟩
      · left; simp [a, h2, b]
      · right
        have hne : ¬ (((l.takeWhile notSp).length : Int) = -1) := by omega
        simp [a, h2, hne]
        omega
def partCells (p : PPart) : List Value := [.bool p.quoted, .string p.text]
def partsC (ps : List PPart) : List Value := ps.flatMap partCells
theorem info104 : (Tryz.prog.info? 77).map (fun i => (i.zero, i.size, i.bytes)) = some (some (.agg #[.bool false, .string ⟨#[]⟩]), 2, 24) := by kernel_rfl
theorem app_part (w : World) (base : Nat) (v : Value) (ps : List PPart) (p : PPart) (hown : w.ownsRow base 77 2 v ps.length (partsC ps)) (hl : ps.length ≤ 100000000) (hbase : base ≤ w.heap.size) :
    ∃ v' w', (Builtin.append_ #[40, 40] 40 #[v, .slice (some ⟨w.heap.size, 0, none⟩) 1 1]).run Tryz.prog (w.alloc (.cells #[.bool p.quoted, .string p.text] 77)) = .ok v' w' ∧ w'.ownsRow base 77 2 v' (ps ++ [p]).length (partsC (ps ++ [p])) ∧ Below base w w' := by
  obtain ⟨i, hi, hz0, hz1, hz2⟩ := info_parts info104
  obtain ⟨v', w', hrun, h2, h3, _⟩ := run_append_own (P := Tryz.prog) (w.alloc (.cells #[.bool p.quoted, .string p.text] 77)) base 40 40 77 i (.agg #[.bool false, .string ⟨#[]⟩]) 2 24 Tryz.underlying40 hi hz0 hz1 hz2 rfl (by omega)
    v ps.length (partsC ps) (hown.alloc _) ⟨w.heap.size, 0, none⟩ 1 1 (partCells p) rfl (by
      intro j u hj
      rw [Addr.add_lit, cell_of_row _ w.heap.size (0 + j) _ _ _ (heap_alloc_new w _)]
      match j, hj with
      | 0, hj => simpa [partCells] using hj
      | 1, hj => simpa [partCells] using hj
      | j + 2, hj => simp [partCells] at hj) (by
      intro u hu
      simp only [partCells, List.mem_cons, List.not_mem_nil, or_false] at hu
      rcases hu with rfl | rfl <;> rfl) (by unfold maxLen; omega) (by omega) (by simp; omega)
  refine ⟨v', w', hrun, ?_, ?_⟩
  · have : partsC (ps ++ [p]) = partsC ps ++ partCells p := by simp [partsC]
    rw [this]
    simpa using h2
  · refine ⟨h3.os, h3.tape, h3.output, ?_, fun k hk => ?_⟩
    · have := h3.size; simp at this; omega
    · rw [h3.block k (by simp; omega) (fun e => by have := hown.lt k e.symm; omega), Below.heap_alloc _ _ _ (by omega)]
structure SpInv (l0 cur : List UInt8) (f : Nat) (ps : List PPart) : Prop where
  eq : splitF unesc (l0.length + 1) l0 = (splitF unesc f cur).map (ps ++ ·)
  fuel : cur.length < f
  cnt : ps.length + cur.length ≤ l0.length
theorem SpInv.start (l : List UInt8) : SpInv l l (l.length + 1) [] := by
  refine ⟨?_, by omega, by simp⟩
  cases splitF unesc (l.length + 1) l <;> simp
theorem SpInv.none {l0 cur : List UInt8} {f : Nat} {ps : List PPart} (h : SpInv l0 cur f ps) (hp : partF unesc cur = .none) : splitF unesc (l0.length + 1) l0 = .none := by
  have hf := h.fuel
  cases f with
  | zero => omega
  | succ f => rw [h.eq]; simp only [splitF, hp, Option.map_none]
theorem SpInv.last {l0 cur : List UInt8} {f : Nat} {ps : List PPart} {p : PPart} (h : SpInv l0 cur f ps) (hp : partF unesc cur = some (p, [])) : splitF unesc (l0.length + 1) l0 = some (ps ++ [p]) := by
  have hf := h.fuel
  cases f with
  | zero => omega
  | succ f => rw [h.eq]; simp only [splitF, hp, Option.map_some]
theorem SpInv.bad {l0 cur r : List UInt8} {f : Nat} {ps : List PPart} {p : PPart} {c : UInt8} (h : SpInv l0 cur f ps) (hp : partF unesc cur = some (p, c :: r)) (hc : ¬ c.toNat = 32) : splitF unesc (l0.length + 1) l0 = .none := by
  have hf := h.fuel
  cases f with
  | zero => omega
  | succ f => rw [h.eq]; simp only [splitF, hp, hc, if_false, Option.map_none]
theorem SpInv.next {l0 cur r : List UInt8} {f : Nat} {ps : List PPart} {p : PPart} {c : UInt8} (h : SpInv l0 cur f ps) (hp : partF unesc cur = some (p, c :: r)) (hc : c.toNat = 32) : ∃ f', SpInv l0 r f' (ps ++ [p]) ∧ r.length < cur.length := by
  have hf := h.fuel
  have hc2 := h.cnt
  have hle := partF_le hp
  have hw : 1 ≤ wt p := by unfold wt; split <;> omega
  simp only [List.length_cons] at hle
  cases f with
  | zero => omega
  | succ f =>
    refine ⟨f, ⟨?_, by omega, by simp; omega⟩, by omega⟩
    rw [h.eq]
    simp only [splitF, hp, hc, if_true]
    cases splitF unesc f r <;> simp
/-- What split answers. -/
def SplitR (w : World) (l : List UInt8) (v : Value) (b : Bool) (w' : World) : Prop :=
  match splitF unesc (l.length + 1) l with
  | some ps => b = true ∧ w'.ownsRow w.heap.size 77 2 v ps.length (partsC ps)
  | none => b = false ∧ v = .slice .none 0 0
set_option maxHeartbeats 4000000 in
set_option maxRecDepth 100000 in
theorem split_any (s : ByteArray) (w : World) (hs : s.size ≤ 10000000) : Calls Tryz.prog 10 #[.string s] w fun e w' => ∃ v b, e = .returned (.tuple #[v, .bool b]) ∧ SplitR w s.data.toList v b w' ∧ Grow w w' := by
  have HSZ := Lib.hid (show s.data.toList.length = s.size by simp)
  refine calls_of_wE Tryz.func10 rfl Tryz.ntmps10 (by simp) ?_
  repeat' (first | with_reducible (first | refine wE_seq (fun K hK => ?_) | refine wE_block ?_ | refine wE_skip ?_ | refine wE_ret ?_ | refine wE_exit ?_) | ((with_reducible refine wE_region ?_ ?_); (kernel_rfl); simp only [ls, stripO]) | ((with_reducible refine wS_step (fun K hK => ?_)); simp [go_sem, lk, upd, envOf, stepS_value, stepS_skip, stepS_enter, ↓IntWalk.iteOmega, *]; (try go_ints); refine hK.out _ _ ?_; clear hK K) | ((with_reducible refine wS_unit (fun K hK => ?_)); simp [go_sem, lk, upd, envOf, stepS_value, stepS_skip, stepS_enter, ↓IntWalk.iteOmega, *]; (try go_ints); refine hK.out _ _ ?_; clear hK K) | ((with_reducible refine wS_skip ?_ ?_); (focus (simp [lk, upd, envOf, *]; done))) | ((with_reducible refine wS_want ?_ ?_); (focus (simp [lk, upd, envOf, *]; done))) | ((with_reducible refine wS_split (fun hc => ?_) (fun hc => ?_)) <;> simp [lk, upd, envOf, *] at hc <;> try (exfalso; omega)) | with_reducible refine wS_nil ?_ | simp only [thenE, blockE, ↓reduceIte, Nat.reduceEqDiff] | ((with_reducible refine hK.out _ _ ?_); clear hK K) | ((with_reducible refine wE_if ?_ (fun hc => ?_) (fun hc => ?_)); (focus (simp [lk, upd, envOf, *]; done)); all_goals (simp [lk, upd, envOf, *] at hc <;> try (exfalso; omega))) | (clear hK; clear K))
  refine wE_loop (fun (m : Nat) σ w' => ∃ c f ps, m = c.size ∧ c.size ≤ 10000000 ∧ σ 0 = .string c ∧ SpInv s.data.toList c.data.toList f ps ∧ w'.ownsRow w.heap.size 77 2 (σ 4) ps.length (partsC ps) ∧ Grow w w') (fun m => m) s.size ?_ ?_
  · refine ⟨s, _, [], rfl, hs, by simp [upd, envOf], SpInv.start _, ?_, Grow.refl _⟩
    simp [upd]
    exact World.ownsRow_nil _ _ _ _
  rintro m σ w1 ⟨c, f, ps, rfl, hcs, e0, hI, ho, hg⟩
  generalize hv : σ 4 = v at ho
  have HI := Lib.hid hI
  have HO := Lib.hid ho
  have HG := Lib.hid hg
  have HCL := Lib.hid (show c.data.toList.length = c.size by simp)
  have hpl : ps.length ≤ 10000000 := by have := hI.cnt; have := HSZ.out; omega
  have hws : w.heap.size ≤ w1.heap.size := hg.size
  clear hI ho hg
  repeat' (first | with_reducible (first | refine wE_seq (fun K hK => ?_) | refine wE_block ?_ | refine wE_skip ?_ | refine wE_ret ?_ | refine wE_exit ?_) | simp only [thenE, blockE, ↓reduceIte, Nat.reduceEqDiff] | ((with_reducible refine hK.out _ _ ?_); clear hK K) | ((with_reducible refine wE_if ?_ (fun hc => ?_) (fun hc => ?_)); (focus (simp [lk, upd, envOf, *]; done)); all_goals (simp [lk, upd, envOf, *] at hc <;> try (exfalso; omega))) | (clear hK; clear K))
  rename_i K1 hK1
  have rest : ∀ (σ : Env) (w2 : World) (c2 : ByteArray) (p : PPart), partF unesc c.data.toList = some (p, c2.data.toList) → σ 0 = .string c2 → w2.ownsRow w.heap.size 77 2 (σ 4) (ps ++ [p]).length (partsC (ps ++ [p])) → Grow w w2 → K1 σ w2 := by
    clear e0 hv hK K
    clear σ HO HG
    intro σ w2 c2 p hp e0 ho hg
    generalize hv : σ 4 = v2 at ho
    refine hK1.out _ _ ?_
    clear hK1 K1
    have HP := Lib.hid hp
    have HO := Lib.hid ho
    have HG := Lib.hid hg
    have hc2 : c2.size ≤ c.size := by
      have h1 := partF_le hp
      have hw : 1 ≤ wt p := by unfold wt; split <;> omega
      have : c2.data.toList.length = c2.size := by simp
      have := HCL.out
      omega
    clear hp ho hg
    by_cases h0 : c2.size = 0
    · have e : c2 = ⟨#[]⟩ := by
        rw [← S_of c2, List.eq_nil_of_length_eq_zero (show c2.data.toList.length = 0 by simpa using h0)]; rfl
      subst e
      have HS := Lib.hid (HI.out.last HP.out)
      clear h0
      repeat' (first | with_reducible (first | refine wE_seq (fun K hK => ?_) | refine wE_block ?_ | refine wE_skip ?_ | refine wE_ret ?_ | refine wE_exit ?_) | ((with_reducible refine wE_region ?_ ?_); (kernel_rfl); simp only [ls, stripO]) | ((with_reducible refine wS_step (fun K hK => ?_)); simp [go_sem, lk, upd, envOf, stepS_value, stepS_skip, stepS_enter, ↓IntWalk.iteOmega, *]; (try go_ints); refine hK.out _ _ ?_; clear hK K) | ((with_reducible refine wS_unit (fun K hK => ?_)); simp [go_sem, lk, upd, envOf, stepS_value, stepS_skip, stepS_enter, ↓IntWalk.iteOmega, *]; (try go_ints); refine hK.out _ _ ?_; clear hK K) | ((with_reducible refine wS_skip ?_ ?_); (focus (simp [lk, upd, envOf, *]; done))) | ((with_reducible refine wS_want ?_ ?_); (focus (simp [lk, upd, envOf, *]; done))) | ((with_reducible refine wS_split (fun hc => ?_) (fun hc => ?_)) <;> simp [lk, upd, envOf, *] at hc <;> try (exfalso; omega)) | with_reducible refine wS_nil ?_ | simp only [thenE, blockE, ↓reduceIte, Nat.reduceEqDiff] | ((with_reducible refine hK.out _ _ ?_); clear hK K) | ((with_reducible refine wE_if ?_ (fun hc => ?_) (fun hc => ?_)); (focus (simp [lk, upd, envOf, *]; done)); all_goals (simp [lk, upd, envOf, *] at hc <;> try (exfalso; omega))) | (clear hK; clear K))
      refine endE_tmp2 rfl ⟨v2, true, by simp [upd, *], ?_, HG.out⟩
      unfold SplitR
      rw [HS.out]
      exact ⟨rfl, HO.out⟩
    have hpos : 0 < c2.size := by omega
    have hne : c2.toList.isEmpty = false := by rw [ByteArray.toList_eq, list0 c2 hpos]; rfl
    have hne2 : (c2.toList = []) = False := by rw [ByteArray.toList_eq, list0 c2 hpos]; simp
    have HD := Lib.hid (list0 c2 hpos)
    have HP2 := Lib.hid (show partF unesc c.data.toList = some (p, c2[0] :: c2.data.toList.drop 1) by rw [HP.out, ← HD.out])
    clear h0
    by_cases c32 : c2[0].toNat = 32
    · have t32 : ((c2[0].toNat : Int) != 32) = false := by rw [bne_eq_false_iff_eq]; omega
      obtain ⟨f', hI', hlt⟩ := HI.out.next HP2.out c32
      have HI' := Lib.hid hI'
      have HLT := Lib.hid hlt
      clear c32 hI' hlt
      repeat' (first | with_reducible (first | refine wE_seq (fun K hK => ?_) | refine wE_block ?_ | refine wE_skip ?_ | refine wE_ret ?_ | refine wE_exit ?_) | ((with_reducible refine wE_region ?_ ?_); (kernel_rfl); simp only [ls, stripO]) | ((with_reducible refine wS_step (fun K hK => ?_)); simp [go_sem, lk, upd, envOf, stepS_value, stepS_skip, stepS_enter, ↓IntWalk.iteOmega, *]; (try go_ints); refine hK.out _ _ ?_; clear hK K) | ((with_reducible refine wS_unit (fun K hK => ?_)); simp [go_sem, lk, upd, envOf, stepS_value, stepS_skip, stepS_enter, ↓IntWalk.iteOmega, *]; (try go_ints); refine hK.out _ _ ?_; clear hK K) | ((with_reducible refine wS_skip ?_ ?_); (focus (simp [lk, upd, envOf, *]; done))) | ((with_reducible refine wS_want ?_ ?_); (focus (simp [lk, upd, envOf, *]; done))) | ((with_reducible refine wS_split (fun hc => ?_) (fun hc => ?_)) <;> simp [lk, upd, envOf, *] at hc <;> try (exfalso; omega)) | with_reducible refine wS_nil ?_ | simp only [thenE, blockE, ↓reduceIte, Nat.reduceEqDiff] | ((with_reducible refine hK.out _ _ ?_); clear hK K) | ((with_reducible refine wE_if ?_ (fun hc => ?_) (fun hc => ?_)); (focus (simp [lk, upd, envOf, *]; done)); all_goals (simp [lk, upd, envOf, *] at hc <;> try (exfalso; omega))) | (clear hK; clear K))
      refine ⟨(c2.extract 1 c2.size).size, ⟨c2.extract 1 c2.size, f', ps ++ [p], rfl, by rw [ByteArray.size_extract]; omega, by simp [upd], by rw [ext_end]; exact HI'.out, ?_, HG.out⟩, by rw [ByteArray.size_extract]; omega⟩
      simp [upd, hv]
      simpa using HO.out
    · have t32 : ((c2[0].toNat : Int) != 32) = true := by rw [bne_iff_ne]; omega
      have HS := Lib.hid (HI.out.bad HP2.out c32)
      clear c32
      repeat' (first | with_reducible (first | refine wE_seq (fun K hK => ?_) | refine wE_block ?_ | refine wE_skip ?_ | refine wE_ret ?_ | refine wE_exit ?_) | ((with_reducible refine wE_region ?_ ?_); (kernel_rfl); simp only [ls, stripO]) | ((with_reducible refine wS_step (fun K hK => ?_)); simp [go_sem, lk, upd, envOf, stepS_value, stepS_skip, stepS_enter, ↓IntWalk.iteOmega, *]; (try go_ints); refine hK.out _ _ ?_; clear hK K) | ((with_reducible refine wS_unit (fun K hK => ?_)); simp [go_sem, lk, upd, envOf, stepS_value, stepS_skip, stepS_enter, ↓IntWalk.iteOmega, *]; (try go_ints); refine hK.out _ _ ?_; clear hK K) | ((with_reducible refine wS_skip ?_ ?_); (focus (simp [lk, upd, envOf, *]; done))) | ((with_reducible refine wS_want ?_ ?_); (focus (simp [lk, upd, envOf, *]; done))) | ((with_reducible refine wS_split (fun hc => ?_) (fun hc => ?_)) <;> simp [lk, upd, envOf, *] at hc <;> try (exfalso; omega)) | with_reducible refine wS_nil ?_ | simp only [thenE, blockE, ↓reduceIte, Nat.reduceEqDiff] | ((with_reducible refine hK.out _ _ ?_); clear hK K) | ((with_reducible refine wE_if ?_ (fun hc => ?_) (fun hc => ?_)); (focus (simp [lk, upd, envOf, *]; done)); all_goals (simp [lk, upd, envOf, *] at hc <;> try (exfalso; omega))) | (clear hK; clear K))
      refine endE_tmp2 rfl ⟨.slice none 0 0, false, by simp [upd, *], ?_, HG.out⟩
      unfold SplitR
      rw [HS.out]
      exact ⟨rfl, rfl⟩
  have HREST := Lib.hid rest
  clear rest
  by_cases hq : Lib.hasPrefix c.data.toList [34] = true
  · have hpos : 0 < c.size := by
      rcases Nat.lt_or_ge 0 c.size with h | h
      · exact h
      · have : c.data.toList = [] := List.eq_nil_of_length_eq_zero (by have := HCL.out; omega)
        rw [this] at hq; simp [Lib.hasPrefix] at hq
    have HD := Lib.hid (list0 c hpos)
    have h34 : c[0].toNat = 34 := by
      rw [HD.out] at hq
      simp [Lib.hasPrefix] at hq
      rw [← hq]; rfl
    have HPF := Lib.hid (show partF unesc c.data.toList = (unqF unesc ((c.data.toList.drop 1).length + 1) (c.data.toList.drop 1)).map fun x => (⟨true, S x.1⟩, x.2) by
      conv => lhs; rw [HD.out]
      simp only [partF, h34, if_true])
    have HHP := Lib.hid (Tryz.strings_HasPrefix c ⟨#[34]⟩ w1)
    rw [show (⟨#[34]⟩ : ByteArray).data.toList = [34] from rfl, hq] at HHP
    have HUV := Lib.hid (fun w => unquote_any (c.extract 1 c.size) w (by rw [ByteArray.size_extract]; omega))
    rw [ext_end] at HUV
    clear hq h34
    cases hu : unqF unesc ((c.data.toList.drop 1).length + 1) (c.data.toList.drop 1) with
    | none =>
      have HS := Lib.hid (HI.out.none (by rw [HPF.out, hu]; rfl))
      have HUC := Lib.hid (show unqV (c.data.toList.drop 1) = .tuple #[.string ⟨#[]⟩, .int .i64 0, .bool false] by unfold unqV; rw [hu])
      rw [HUC.out] at HUV
      clear hu
      repeat' (first | with_reducible (first | refine wE_seq (fun K hK => ?_) | refine wE_block ?_ | refine wE_skip ?_ | refine wE_ret ?_ | refine wE_exit ?_) | ((with_reducible refine wE_region ?_ ?_); (kernel_rfl); simp only [ls, stripO]) | ((with_reducible refine wS_step (fun K hK => ?_)); simp [go_sem, lk, upd, envOf, stepS_value, stepS_skip, stepS_enter, ↓IntWalk.iteOmega, *]; (try go_ints); refine hK.out _ _ ?_; clear hK K) | ((with_reducible refine wS_unit (fun K hK => ?_)); simp [go_sem, lk, upd, envOf, stepS_value, stepS_skip, stepS_enter, ↓IntWalk.iteOmega, *]; (try go_ints); refine hK.out _ _ ?_; clear hK K) | ((with_reducible refine wS_skip ?_ ?_); (focus (simp [lk, upd, envOf, *]; done))) | ((with_reducible refine wS_want ?_ ?_); (focus (simp [lk, upd, envOf, *]; done))) | ((with_reducible refine wS_split (fun hc => ?_) (fun hc => ?_)) <;> simp [lk, upd, envOf, *] at hc <;> try (exfalso; omega)) | with_reducible refine wS_nil ?_ | simp only [thenE, blockE, ↓reduceIte, Nat.reduceEqDiff] | ((with_reducible refine hK.out _ _ ?_); clear hK K) | ((with_reducible refine wE_if ?_ (fun hc => ?_) (fun hc => ?_)); (focus (simp [lk, upd, envOf, *]; done)); all_goals (simp [lk, upd, envOf, *] at hc <;> try (exfalso; omega))) | (clear hK; clear K))
      (with_reducible refine wS_step (fun K hK => ?_)); simp [go_sem, lk, upd, envOf, stepS_value, stepS_skip, stepS_enter, ↓IntWalk.iteOmega, *]; (try go_ints); refine (HHP.out).mono ?_; rintro e w2 ⟨rfl, rfl⟩; refine ⟨_, rfl, hK.out _ _ ?_⟩; clear hK K
      repeat' (first | with_reducible (first | refine wE_seq (fun K hK => ?_) | refine wE_block ?_ | refine wE_skip ?_ | refine wE_ret ?_ | refine wE_exit ?_) | ((with_reducible refine wE_region ?_ ?_); (kernel_rfl); simp only [ls, stripO]) | ((with_reducible refine wS_step (fun K hK => ?_)); simp [go_sem, lk, upd, envOf, stepS_value, stepS_skip, stepS_enter, ↓IntWalk.iteOmega, *]; (try go_ints); refine hK.out _ _ ?_; clear hK K) | ((with_reducible refine wS_unit (fun K hK => ?_)); simp [go_sem, lk, upd, envOf, stepS_value, stepS_skip, stepS_enter, ↓IntWalk.iteOmega, *]; (try go_ints); refine hK.out _ _ ?_; clear hK K) | ((with_reducible refine wS_skip ?_ ?_); (focus (simp [lk, upd, envOf, *]; done))) | ((with_reducible refine wS_want ?_ ?_); (focus (simp [lk, upd, envOf, *]; done))) | ((with_reducible refine wS_split (fun hc => ?_) (fun hc => ?_)) <;> simp [lk, upd, envOf, *] at hc <;> try (exfalso; omega)) | with_reducible refine wS_nil ?_ | simp only [thenE, blockE, ↓reduceIte, Nat.reduceEqDiff] | ((with_reducible refine hK.out _ _ ?_); clear hK K) | ((with_reducible refine wE_if ?_ (fun hc => ?_) (fun hc => ?_)); (focus (simp [lk, upd, envOf, *]; done)); all_goals (simp [lk, upd, envOf, *] at hc <;> try (exfalso; omega))) | (clear hK; clear K))
      (with_reducible refine wS_step (fun K hK => ?_)); simp [go_sem, lk, upd, envOf, stepS_value, stepS_skip, stepS_enter, ↓IntWalk.iteOmega, *]; (try go_ints); refine (HUV.out _).mono ?_; rintro e w3 ⟨rfl, hg3⟩; refine ⟨_, rfl, hK.out _ _ ?_⟩; clear hK K
      have HG3 := Lib.hid (HG.out.trans hg3)
      clear hg3
      repeat' (first | with_reducible (first | refine wE_seq (fun K hK => ?_) | refine wE_block ?_ | refine wE_skip ?_ | refine wE_ret ?_ | refine wE_exit ?_) | ((with_reducible refine wE_region ?_ ?_); (kernel_rfl); simp only [ls, stripO]) | ((with_reducible refine wS_step (fun K hK => ?_)); simp [go_sem, lk, upd, envOf, stepS_value, stepS_skip, stepS_enter, ↓IntWalk.iteOmega, *]; (try go_ints); refine hK.out _ _ ?_; clear hK K) | ((with_reducible refine wS_unit (fun K hK => ?_)); simp [go_sem, lk, upd, envOf, stepS_value, stepS_skip, stepS_enter, ↓IntWalk.iteOmega, *]; (try go_ints); refine hK.out _ _ ?_; clear hK K) | ((with_reducible refine wS_skip ?_ ?_); (focus (simp [lk, upd, envOf, *]; done))) | ((with_reducible refine wS_want ?_ ?_); (focus (simp [lk, upd, envOf, *]; done))) | ((with_reducible refine wS_split (fun hc => ?_) (fun hc => ?_)) <;> simp [lk, upd, envOf, *] at hc <;> try (exfalso; omega)) | with_reducible refine wS_nil ?_ | simp only [thenE, blockE, ↓reduceIte, Nat.reduceEqDiff] | ((with_reducible refine hK.out _ _ ?_); clear hK K) | ((with_reducible refine wE_if ?_ (fun hc => ?_) (fun hc => ?_)); (focus (simp [lk, upd, envOf, *]; done)); all_goals (simp [lk, upd, envOf, *] at hc <;> try (exfalso; omega))) | (clear hK; clear K))
      refine endE_tmp2 rfl ⟨.slice none 0 0, false, by simp [upd, *], ?_, HG3.out⟩
      unfold SplitR
      rw [HS.out]
      exact ⟨rfl, rfl⟩
    | some tr =>
      obtain ⟨tx, r⟩ := tr
      have hle := unqF_le _ _ _ _ hu
      have hsf := unqF_suffix _ _ _ _ hu
      have hdl : (c.data.toList.drop 1).length = c.size - 1 := by rw [List.length_drop, HCL.out]
      obtain ⟨nn, hnn⟩ : ∃ nn : Nat, nn = (c.data.toList.drop 1).length - r.length := ⟨_, rfl⟩
      have HUC := Lib.hid (show unqV (c.data.toList.drop 1) = .tuple #[.string (S tx), .int .i64 (nn : Int), .bool true] by
        unfold unqV; rw [hu]; show Value.tuple #[.string (S tx), .int .i64 (((c.data.toList.drop 1).length : Int) - (r.length : Int)), .bool true] = _; rw [show (((c.data.toList.drop 1).length : Int) - (r.length : Int)) = (nn : Int) by omega])
      rw [HUC.out] at HUV
      have HPT := Lib.hid (show partF unesc c.data.toList = some (⟨true, S tx⟩, (c.extract (1 + nn) c.size).data.toList) by
        rw [HPF.out, hu, ext_end]
        simp only [Option.map_some]
        rw [← List.drop_drop, hnn, ← hsf])
      have hnb : nn + 1 ≤ c.size := by omega
      clear hu hle hsf hdl hnn
      repeat' (first | with_reducible (first | refine wE_seq (fun K hK => ?_) | refine wE_block ?_ | refine wE_skip ?_ | refine wE_ret ?_ | refine wE_exit ?_) | ((with_reducible refine wE_region ?_ ?_); (kernel_rfl); simp only [ls, stripO]) | ((with_reducible refine wS_step (fun K hK => ?_)); simp [go_sem, lk, upd, envOf, stepS_value, stepS_skip, stepS_enter, ↓IntWalk.iteOmega, *]; (try go_ints); refine hK.out _ _ ?_; clear hK K) | ((with_reducible refine wS_unit (fun K hK => ?_)); simp [go_sem, lk, upd, envOf, stepS_value, stepS_skip, stepS_enter, ↓IntWalk.iteOmega, *]; (try go_ints); refine hK.out _ _ ?_; clear hK K) | ((with_reducible refine wS_skip ?_ ?_); (focus (simp [lk, upd, envOf, *]; done))) | ((with_reducible refine wS_want ?_ ?_); (focus (simp [lk, upd, envOf, *]; done))) | ((with_reducible refine wS_split (fun hc => ?_) (fun hc => ?_)) <;> simp [lk, upd, envOf, *] at hc <;> try (exfalso; omega)) | with_reducible refine wS_nil ?_ | simp only [thenE, blockE, ↓reduceIte, Nat.reduceEqDiff] | ((with_reducible refine hK.out _ _ ?_); clear hK K) | ((with_reducible refine wE_if ?_ (fun hc => ?_) (fun hc => ?_)); (focus (simp [lk, upd, envOf, *]; done)); all_goals (simp [lk, upd, envOf, *] at hc <;> try (exfalso; omega))) | (clear hK; clear K))
      (with_reducible refine wS_step (fun K hK => ?_)); simp [go_sem, lk, upd, envOf, stepS_value, stepS_skip, stepS_enter, ↓IntWalk.iteOmega, *]; (try go_ints); refine (HHP.out).mono ?_; rintro e w2 ⟨rfl, rfl⟩; refine ⟨_, rfl, hK.out _ _ ?_⟩; clear hK K
      repeat' (first | with_reducible (first | refine wE_seq (fun K hK => ?_) | refine wE_block ?_ | refine wE_skip ?_ | refine wE_ret ?_ | refine wE_exit ?_) | ((with_reducible refine wE_region ?_ ?_); (kernel_rfl); simp only [ls, stripO]) | ((with_reducible refine wS_step (fun K hK => ?_)); simp [go_sem, lk, upd, envOf, stepS_value, stepS_skip, stepS_enter, ↓IntWalk.iteOmega, *]; (try go_ints); refine hK.out _ _ ?_; clear hK K) | ((with_reducible refine wS_unit (fun K hK => ?_)); simp [go_sem, lk, upd, envOf, stepS_value, stepS_skip, stepS_enter, ↓IntWalk.iteOmega, *]; (try go_ints); refine hK.out _ _ ?_; clear hK K) | ((with_reducible refine wS_skip ?_ ?_); (focus (simp [lk, upd, envOf, *]; done))) | ((with_reducible refine wS_want ?_ ?_); (focus (simp [lk, upd, envOf, *]; done))) | ((with_reducible refine wS_split (fun hc => ?_) (fun hc => ?_)) <;> simp [lk, upd, envOf, *] at hc <;> try (exfalso; omega)) | with_reducible refine wS_nil ?_ | simp only [thenE, blockE, ↓reduceIte, Nat.reduceEqDiff] | ((with_reducible refine hK.out _ _ ?_); clear hK K) | ((with_reducible refine wE_if ?_ (fun hc => ?_) (fun hc => ?_)); (focus (simp [lk, upd, envOf, *]; done)); all_goals (simp [lk, upd, envOf, *] at hc <;> try (exfalso; omega))) | (clear hK; clear K))
      (with_reducible refine wS_step (fun K hK => ?_)); simp [go_sem, lk, upd, envOf, stepS_value, stepS_skip, stepS_enter, ↓IntWalk.iteOmega, *]; (try go_ints); refine (HUV.out _).mono ?_; rintro e w3 ⟨rfl, hg3⟩; refine ⟨_, rfl, hK.out _ _ ?_⟩; clear hK K
      have HG3 := Lib.hid (HG.out.trans hg3)
      have ho3 := HO.out.kept (row := none) ⟨hg3.os, hg3.tape, hg3.output, hg3.size, fun k hk _ => hg3.block k hk⟩ (by cases v.ownBlock <;> simp)
      obtain ⟨v', w4, hrun, hown4, hbel4⟩ := app_part w3 w.heap.size v ps ⟨true, S tx⟩ ho3 (by omega) (by have := hg3.size; omega)
      have HRN := Lib.hid hrun
      have HO4 := Lib.hid hown4
      have HG4 := Lib.hid (HG3.out.trans' hbel4)
      clear hg3 ho3 hrun hown4 hbel4
      repeat' (first | with_reducible (first | refine wE_seq (fun K hK => ?_) | refine wE_block ?_ | refine wE_skip ?_ | refine wE_ret ?_ | refine wE_exit ?_) | ((with_reducible refine wE_region ?_ ?_); (kernel_rfl); simp only [ls, stripO]) | ((with_reducible refine wS_step (fun K hK => ?_)); simp [go_sem, lk, upd, envOf, stepS_value, stepS_skip, stepS_enter, ↓IntWalk.iteOmega, *]; (try go_ints); refine hK.out _ _ ?_; clear hK K) | ((with_reducible refine wS_unit (fun K hK => ?_)); simp [go_sem, lk, upd, envOf, stepS_value, stepS_skip, stepS_enter, ↓IntWalk.iteOmega, *]; (try go_ints); refine hK.out _ _ ?_; clear hK K) | ((with_reducible refine wS_skip ?_ ?_); (focus (simp [lk, upd, envOf, *]; done))) | ((with_reducible refine wS_want ?_ ?_); (focus (simp [lk, upd, envOf, *]; done))) | ((with_reducible refine wS_split (fun hc => ?_) (fun hc => ?_)) <;> simp [lk, upd, envOf, *] at hc <;> try (exfalso; omega)) | with_reducible refine wS_nil ?_ | simp only [thenE, blockE, ↓reduceIte, Nat.reduceEqDiff] | ((with_reducible refine hK.out _ _ ?_); clear hK K) | ((with_reducible refine wE_if ?_ (fun hc => ?_) (fun hc => ?_)); (focus (simp [lk, upd, envOf, *]; done)); all_goals (simp [lk, upd, envOf, *] at hc <;> try (exfalso; omega))) | (clear hK; clear K))
      refine wS_append v (.slice (some ⟨w3.heap.size, 0, none⟩) 1 1) ?_ ?_ HRN.out ?_
      · simp [evalS_tmp, upd, *]
      · simp [evalS_tmp, upd]
      repeat' (first | with_reducible (first | refine wE_seq (fun K hK => ?_) | refine wE_block ?_ | refine wE_skip ?_ | refine wE_ret ?_ | refine wE_exit ?_) | ((with_reducible refine wE_region ?_ ?_); (kernel_rfl); simp only [ls, stripO]) | ((with_reducible refine wS_step (fun K hK => ?_)); simp [go_sem, lk, upd, envOf, stepS_value, stepS_skip, stepS_enter, ↓IntWalk.iteOmega, *]; (try go_ints); refine hK.out _ _ ?_; clear hK K) | ((with_reducible refine wS_unit (fun K hK => ?_)); simp [go_sem, lk, upd, envOf, stepS_value, stepS_skip, stepS_enter, ↓IntWalk.iteOmega, *]; (try go_ints); refine hK.out _ _ ?_; clear hK K) | ((with_reducible refine wS_skip ?_ ?_); (focus (simp [lk, upd, envOf, *]; done))) | ((with_reducible refine wS_want ?_ ?_); (focus (simp [lk, upd, envOf, *]; done))) | ((with_reducible refine wS_split (fun hc => ?_) (fun hc => ?_)) <;> simp [lk, upd, envOf, *] at hc <;> try (exfalso; omega)) | with_reducible refine wS_nil ?_ | simp only [thenE, blockE, ↓reduceIte, Nat.reduceEqDiff] | ((with_reducible refine hK.out _ _ ?_); clear hK K) | ((with_reducible refine wE_if ?_ (fun hc => ?_) (fun hc => ?_)); (focus (simp [lk, upd, envOf, *]; done)); all_goals (simp [lk, upd, envOf, *] at hc <;> try (exfalso; omega))) | (clear hK; clear K))
      exact HREST.out _ _ (c.extract (1 + nn) c.size) ⟨true, S tx⟩ HPT.out (by simp [upd]) (by simpa [upd] using HO4.out) HG4.out
  · have hq' : Lib.hasPrefix c.data.toList [34] = false := by simpa using hq
    have HHP := Lib.hid (Tryz.strings_HasPrefix c ⟨#[34]⟩ w1)
    rw [show (⟨#[34]⟩ : ByteArray).data.toList = [34] from rfl, hq'] at HHP
    have HPF := Lib.hid (show partF unesc c.data.toList = some (⟨false, S (c.data.toList.takeWhile notSp)⟩, c.data.toList.dropWhile notSp) by
      cases hl : c.data.toList with
      | nil => rfl
      | cons d r =>
        rw [hl] at hq'
        simp only [partF]
        rw [if_neg]
        intro h
        have : d = 34 := by apply UInt8.toNat_inj.1; rw [h]; rfl
        simp [Lib.hasPrefix, this] at hq')
    have HTW := Lib.hid (sp_take c.data.toList)
    have HIX := Lib.hid (index_sp c.data.toList)
    have HSL := Lib.hid (spAt_le c.data.toList)
    have hnb : spAt c.data.toList ≤ c.size := by have := HSL.out; have := HCL.out; omega
    have HPT := Lib.hid (show partF unesc c.data.toList = some (⟨false, c.extract 0 (spAt c.data.toList)⟩, (c.extract (spAt c.data.toList) c.size).data.toList) by
      rw [HPF.out, ext_end, HTW.out.2]
      congr 3
      rw [← HTW.out.1]
      conv => rhs; rw [← S_of c]
      rw [S_extract, List.drop_zero, S_list])
    have HXB := Lib.hid (Tryz.strings_IndexByte c 32 w1)
    rw [show ((32 : Int).toNat.toUInt8) = 32 from rfl] at HXB
    generalize hsp : spAt c.data.toList = nn at *
    have HSP := Lib.hid hsp
    clear hq hq' hsp
    obtain ⟨v', w4, hrun, hown4, hbel4⟩ := app_part w1 w.heap.size v ps ⟨false, c.extract 0 nn⟩ HO.out (by omega) hws
    have HRN := Lib.hid hrun
    have HO4 := Lib.hid hown4
    have HG4 := Lib.hid (HG.out.trans' hbel4)
    clear hrun hown4 hbel4
    rcases HIX.out with ⟨hx, hy⟩ | ⟨hx, hy⟩
    · rw [hx] at HXB
      have hy2 : nn = c.size := by have := HCL.out; omega
      clear hx hy
      subst hy2
      have hxx : c.extract 0 c.size = c := by simp
      rw [hxx] at HRN HO4 HPT
      repeat' (first | with_reducible (first | refine wE_seq (fun K hK => ?_) | refine wE_block ?_ | refine wE_skip ?_ | refine wE_ret ?_ | refine wE_exit ?_) | ((with_reducible refine wE_region ?_ ?_); (kernel_rfl); simp only [ls, stripO]) | ((with_reducible refine wS_step (fun K hK => ?_)); simp [go_sem, lk, upd, envOf, stepS_value, stepS_skip, stepS_enter, ↓IntWalk.iteOmega, *]; (try go_ints); refine hK.out _ _ ?_; clear hK K) | ((with_reducible refine wS_unit (fun K hK => ?_)); simp [go_sem, lk, upd, envOf, stepS_value, stepS_skip, stepS_enter, ↓IntWalk.iteOmega, *]; (try go_ints); refine hK.out _ _ ?_; clear hK K) | ((with_reducible refine wS_skip ?_ ?_); (focus (simp [lk, upd, envOf, *]; done))) | ((with_reducible refine wS_want ?_ ?_); (focus (simp [lk, upd, envOf, *]; done))) | ((with_reducible refine wS_split (fun hc => ?_) (fun hc => ?_)) <;> simp [lk, upd, envOf, *] at hc <;> try (exfalso; omega)) | with_reducible refine wS_nil ?_ | simp only [thenE, blockE, ↓reduceIte, Nat.reduceEqDiff] | ((with_reducible refine hK.out _ _ ?_); clear hK K) | ((with_reducible refine wE_if ?_ (fun hc => ?_) (fun hc => ?_)); (focus (simp [lk, upd, envOf, *]; done)); all_goals (simp [lk, upd, envOf, *] at hc <;> try (exfalso; omega))) | (clear hK; clear K))
      (with_reducible refine wS_step (fun K hK => ?_)); simp [go_sem, lk, upd, envOf, stepS_value, stepS_skip, stepS_enter, ↓IntWalk.iteOmega, *]; (try go_ints); refine (HHP.out).mono ?_; rintro e w2 ⟨rfl, rfl⟩; refine ⟨_, rfl, hK.out _ _ ?_⟩; clear hK K
      repeat' (first | with_reducible (first | refine wE_seq (fun K hK => ?_) | refine wE_block ?_ | refine wE_skip ?_ | refine wE_ret ?_ | refine wE_exit ?_) | ((with_reducible refine wE_region ?_ ?_); (kernel_rfl); simp only [ls, stripO]) | ((with_reducible refine wS_step (fun K hK => ?_)); simp [go_sem, lk, upd, envOf, stepS_value, stepS_skip, stepS_enter, ↓IntWalk.iteOmega, *]; (try go_ints); refine hK.out _ _ ?_; clear hK K) | ((with_reducible refine wS_unit (fun K hK => ?_)); simp [go_sem, lk, upd, envOf, stepS_value, stepS_skip, stepS_enter, ↓IntWalk.iteOmega, *]; (try go_ints); refine hK.out _ _ ?_; clear hK K) | ((with_reducible refine wS_skip ?_ ?_); (focus (simp [lk, upd, envOf, *]; done))) | ((with_reducible refine wS_want ?_ ?_); (focus (simp [lk, upd, envOf, *]; done))) | ((with_reducible refine wS_split (fun hc => ?_) (fun hc => ?_)) <;> simp [lk, upd, envOf, *] at hc <;> try (exfalso; omega)) | with_reducible refine wS_nil ?_ | simp only [thenE, blockE, ↓reduceIte, Nat.reduceEqDiff] | ((with_reducible refine hK.out _ _ ?_); clear hK K) | ((with_reducible refine wE_if ?_ (fun hc => ?_) (fun hc => ?_)); (focus (simp [lk, upd, envOf, *]; done)); all_goals (simp [lk, upd, envOf, *] at hc <;> try (exfalso; omega))) | (clear hK; clear K))
      (with_reducible refine wS_step (fun K hK => ?_)); simp [go_sem, lk, upd, envOf, stepS_value, stepS_skip, stepS_enter, ↓IntWalk.iteOmega, *]; (try go_ints); refine (HXB.out).mono ?_; rintro e w3 ⟨rfl, rfl⟩; refine ⟨_, rfl, hK.out _ _ ?_⟩; clear hK K
      repeat' (first | with_reducible (first | refine wE_seq (fun K hK => ?_) | refine wE_block ?_ | refine wE_skip ?_ | refine wE_ret ?_ | refine wE_exit ?_) | ((with_reducible refine wE_region ?_ ?_); (kernel_rfl); simp only [ls, stripO]) | ((with_reducible refine wS_step (fun K hK => ?_)); simp [go_sem, lk, upd, envOf, stepS_value, stepS_skip, stepS_enter, ↓IntWalk.iteOmega, *]; (try go_ints); refine hK.out _ _ ?_; clear hK K) | ((with_reducible refine wS_unit (fun K hK => ?_)); simp [go_sem, lk, upd, envOf, stepS_value, stepS_skip, stepS_enter, ↓IntWalk.iteOmega, *]; (try go_ints); refine hK.out _ _ ?_; clear hK K) | ((with_reducible refine wS_skip ?_ ?_); (focus (simp [lk, upd, envOf, *]; done))) | ((with_reducible refine wS_want ?_ ?_); (focus (simp [lk, upd, envOf, *]; done))) | ((with_reducible refine wS_split (fun hc => ?_) (fun hc => ?_)) <;> simp [lk, upd, envOf, *] at hc <;> try (exfalso; omega)) | with_reducible refine wS_nil ?_ | simp only [thenE, blockE, ↓reduceIte, Nat.reduceEqDiff] | ((with_reducible refine hK.out _ _ ?_); clear hK K) | ((with_reducible refine wE_if ?_ (fun hc => ?_) (fun hc => ?_)); (focus (simp [lk, upd, envOf, *]; done)); all_goals (simp [lk, upd, envOf, *] at hc <;> try (exfalso; omega))) | (clear hK; clear K))
      refine wS_append v (.slice (some ⟨w3.heap.size, 0, none⟩) 1 1) ?_ ?_ HRN.out ?_
      · simp [evalS_tmp, upd, *]
      · simp [evalS_tmp, upd]
      repeat' (first | with_reducible (first | refine wE_seq (fun K hK => ?_) | refine wE_block ?_ | refine wE_skip ?_ | refine wE_ret ?_ | refine wE_exit ?_) | ((with_reducible refine wE_region ?_ ?_); (kernel_rfl); simp only [ls, stripO]) | ((with_reducible refine wS_step (fun K hK => ?_)); simp [go_sem, lk, upd, envOf, stepS_value, stepS_skip, stepS_enter, ↓IntWalk.iteOmega, *]; (try go_ints); refine hK.out _ _ ?_; clear hK K) | ((with_reducible refine wS_unit (fun K hK => ?_)); simp [go_sem, lk, upd, envOf, stepS_value, stepS_skip, stepS_enter, ↓IntWalk.iteOmega, *]; (try go_ints); refine hK.out _ _ ?_; clear hK K) | ((with_reducible refine wS_skip ?_ ?_); (focus (simp [lk, upd, envOf, *]; done))) | ((with_reducible refine wS_want ?_ ?_); (focus (simp [lk, upd, envOf, *]; done))) | ((with_reducible refine wS_split (fun hc => ?_) (fun hc => ?_)) <;> simp [lk, upd, envOf, *] at hc <;> try (exfalso; omega)) | with_reducible refine wS_nil ?_ | simp only [thenE, blockE, ↓reduceIte, Nat.reduceEqDiff] | ((with_reducible refine hK.out _ _ ?_); clear hK K) | ((with_reducible refine wE_if ?_ (fun hc => ?_) (fun hc => ?_)); (focus (simp [lk, upd, envOf, *]; done)); all_goals (simp [lk, upd, envOf, *] at hc <;> try (exfalso; omega))) | (clear hK; clear K))
      exact HREST.out _ _ _ _ HPT.out (by simp [upd]) (by simpa [upd] using HO4.out) HG4.out
    · rw [hx] at HXB
      clear hx hy
      repeat' (first | with_reducible (first | refine wE_seq (fun K hK => ?_) | refine wE_block ?_ | refine wE_skip ?_ | refine wE_ret ?_ | refine wE_exit ?_) | ((with_reducible refine wE_region ?_ ?_); (kernel_rfl); simp only [ls, stripO]) | ((with_reducible refine wS_step (fun K hK => ?_)); simp [go_sem, lk, upd, envOf, stepS_value, stepS_skip, stepS_enter, ↓IntWalk.iteOmega, *]; (try go_ints); refine hK.out _ _ ?_; clear hK K) | ((with_reducible refine wS_unit (fun K hK => ?_)); simp [go_sem, lk, upd, envOf, stepS_value, stepS_skip, stepS_enter, ↓IntWalk.iteOmega, *]; (try go_ints); refine hK.out _ _ ?_; clear hK K) | ((with_reducible refine wS_skip ?_ ?_); (focus (simp [lk, upd, envOf, *]; done))) | ((with_reducible refine wS_want ?_ ?_); (focus (simp [lk, upd, envOf, *]; done))) | ((with_reducible refine wS_split (fun hc => ?_) (fun hc => ?_)) <;> simp [lk, upd, envOf, *] at hc <;> try (exfalso; omega)) | with_reducible refine wS_nil ?_ | simp only [thenE, blockE, ↓reduceIte, Nat.reduceEqDiff] | ((with_reducible refine hK.out _ _ ?_); clear hK K) | ((with_reducible refine wE_if ?_ (fun hc => ?_) (fun hc => ?_)); (focus (simp [lk, upd, envOf, *]; done)); all_goals (simp [lk, upd, envOf, *] at hc <;> try (exfalso; omega))) | (clear hK; clear K))
      (with_reducible refine wS_step (fun K hK => ?_)); simp [go_sem, lk, upd, envOf, stepS_value, stepS_skip, stepS_enter, ↓IntWalk.iteOmega, *]; (try go_ints); refine (HHP.out).mono ?_; rintro e w2 ⟨rfl, rfl⟩; refine ⟨_, rfl, hK.out _ _ ?_⟩; clear hK K
      repeat' (first | with_reducible (first | refine wE_seq (fun K hK => ?_) | refine wE_block ?_ | refine wE_skip ?_ | refine wE_ret ?_ | refine wE_exit ?_) | ((with_reducible refine wE_region ?_ ?_); (kernel_rfl); simp only [ls, stripO]) | ((with_reducible refine wS_step (fun K hK => ?_)); simp [go_sem, lk, upd, envOf, stepS_value, stepS_skip, stepS_enter, ↓IntWalk.iteOmega, *]; (try go_ints); refine hK.out _ _ ?_; clear hK K) | ((with_reducible refine wS_unit (fun K hK => ?_)); simp [go_sem, lk, upd, envOf, stepS_value, stepS_skip, stepS_enter, ↓IntWalk.iteOmega, *]; (try go_ints); refine hK.out _ _ ?_; clear hK K) | ((with_reducible refine wS_skip ?_ ?_); (focus (simp [lk, upd, envOf, *]; done))) | ((with_reducible refine wS_want ?_ ?_); (focus (simp [lk, upd, envOf, *]; done))) | ((with_reducible refine wS_split (fun hc => ?_) (fun hc => ?_)) <;> simp [lk, upd, envOf, *] at hc <;> try (exfalso; omega)) | with_reducible refine wS_nil ?_ | simp only [thenE, blockE, ↓reduceIte, Nat.reduceEqDiff] | ((with_reducible refine hK.out _ _ ?_); clear hK K) | ((with_reducible refine wE_if ?_ (fun hc => ?_) (fun hc => ?_)); (focus (simp [lk, upd, envOf, *]; done)); all_goals (simp [lk, upd, envOf, *] at hc <;> try (exfalso; omega))) | (clear hK; clear K))
      (with_reducible refine wS_step (fun K hK => ?_)); simp [go_sem, lk, upd, envOf, stepS_value, stepS_skip, stepS_enter, ↓IntWalk.iteOmega, *]; (try go_ints); refine (HXB.out).mono ?_; rintro e w3 ⟨rfl, rfl⟩; refine ⟨_, rfl, hK.out _ _ ?_⟩; clear hK K
      repeat' (first | with_reducible (first | refine wE_seq (fun K hK => ?_) | refine wE_block ?_ | refine wE_skip ?_ | refine wE_ret ?_ | refine wE_exit ?_) | ((with_reducible refine wE_region ?_ ?_); (kernel_rfl); simp only [ls, stripO]) | ((with_reducible refine wS_step (fun K hK => ?_)); simp [go_sem, lk, upd, envOf, stepS_value, stepS_skip, stepS_enter, ↓IntWalk.iteOmega, *]; (try go_ints); refine hK.out _ _ ?_; clear hK K) | ((with_reducible refine wS_unit (fun K hK => ?_)); simp [go_sem, lk, upd, envOf, stepS_value, stepS_skip, stepS_enter, ↓IntWalk.iteOmega, *]; (try go_ints); refine hK.out _ _ ?_; clear hK K) | ((with_reducible refine wS_skip ?_ ?_); (focus (simp [lk, upd, envOf, *]; done))) | ((with_reducible refine wS_want ?_ ?_); (focus (simp [lk, upd, envOf, *]; done))) | ((with_reducible refine wS_split (fun hc => ?_) (fun hc => ?_)) <;> simp [lk, upd, envOf, *] at hc <;> try (exfalso; omega)) | with_reducible refine wS_nil ?_ | simp only [thenE, blockE, ↓reduceIte, Nat.reduceEqDiff] | ((with_reducible refine hK.out _ _ ?_); clear hK K) | ((with_reducible refine wE_if ?_ (fun hc => ?_) (fun hc => ?_)); (focus (simp [lk, upd, envOf, *]; done)); all_goals (simp [lk, upd, envOf, *] at hc <;> try (exfalso; omega))) | (clear hK; clear K))
      refine wS_append v (.slice (some ⟨w3.heap.size, 0, none⟩) 1 1) ?_ ?_ HRN.out ?_
      · simp [evalS_tmp, upd, *]
      · simp [evalS_tmp, upd]
      repeat' (first | with_reducible (first | refine wE_seq (fun K hK => ?_) | refine wE_block ?_ | refine wE_skip ?_ | refine wE_ret ?_ | refine wE_exit ?_) | ((with_reducible refine wE_region ?_ ?_); (kernel_rfl); simp only [ls, stripO]) | ((with_reducible refine wS_step (fun K hK => ?_)); simp [go_sem, lk, upd, envOf, stepS_value, stepS_skip, stepS_enter, ↓IntWalk.iteOmega, *]; (try go_ints); refine hK.out _ _ ?_; clear hK K) | ((with_reducible refine wS_unit (fun K hK => ?_)); simp [go_sem, lk, upd, envOf, stepS_value, stepS_skip, stepS_enter, ↓IntWalk.iteOmega, *]; (try go_ints); refine hK.out _ _ ?_; clear hK K) | ((with_reducible refine wS_skip ?_ ?_); (focus (simp [lk, upd, envOf, *]; done))) | ((with_reducible refine wS_want ?_ ?_); (focus (simp [lk, upd, envOf, *]; done))) | ((with_reducible refine wS_split (fun hc => ?_) (fun hc => ?_)) <;> simp [lk, upd, envOf, *] at hc <;> try (exfalso; omega)) | with_reducible refine wS_nil ?_ | simp only [thenE, blockE, ↓reduceIte, Nat.reduceEqDiff] | ((with_reducible refine hK.out _ _ ?_); clear hK K) | ((with_reducible refine wE_if ?_ (fun hc => ?_) (fun hc => ?_)); (focus (simp [lk, upd, envOf, *]; done)); all_goals (simp [lk, upd, envOf, *] at hc <;> try (exfalso; omega))) | (clear hK; clear K))
      exact HREST.out _ _ _ _ HPT.out (by simp [upd]) (by simpa [upd] using HO4.out) HG4.out
end Go.Proofs.YtglekdhdogjnoaaGreatDoor
