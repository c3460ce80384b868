/- The program's Parse: the walk. -/
import Derived.Test.YtglekdhdogjnoaaGreatDoorPrsG
namespace Go.Proofs.YtglekdhdogjnoaaGreatDoor
open Go.RowKit
open Go.ChangeMaps (setBlock)
set_option linter.unusedSimpArgs false
def ParsePost (s : ByteArray) (w : World) (e : Ending) (w' : World) : Prop :=
  Grow w w' ∧ ((∃ A vf vp, e = .returned (.tuple #[actV A vf vp, .int .i64 0]) ∧ ActAt w' A vf vp ∧ ParseOk s.data.toList A) ∨ (e = .returned (.tuple #[.agg zeroA, .int .i64 3]) ∧ ∀ A, ¬ ParseOk s.data.toList A))
theorem parts_of_own {w : World} {base pr B : Nat} {v : Value} {ps : List PPart} (h : w.ownsRow base 77 2 v ps.length (partsC ps)) (hp : w.heap.size ≤ pr) (hB : pr < B) : PartsAt w pr B v ps := by
  rcases h.2 with ⟨rfl, hn⟩ | ⟨g, cap, cur, rfl, hb, hg, hnc, _⟩
  · have : ps = [] := List.eq_nil_of_length_eq_zero hn
    subst this
    exact ⟨none, 0, rfl, by simp, .inl rfl⟩
  · have hgl := (Array.getElem?_eq_some_iff.1 hg).1
    refine ⟨_, cap, rfl, hnc, .inr ⟨g, 0, rfl, by omega, by omega, fun j p hj => ?_⟩⟩
    have key : ∀ (l : List PPart) (j : Nat) (p : PPart), l[j]? = some p → (partsC l)[j * 2]? = some (.bool p.quoted) ∧ (partsC l)[j * 2 + 1]? = some (.string p.text) := by
      intro l
      induction l with
      | nil => intro j p h; simp at h
      | cons x l ih =>
        intro j p h
        cases j with
        | zero => simp at h; subst h; exact ⟨rfl, rfl⟩
        | succ j =>
          have := ih j p (by simpa using h)
          rw [show (j + 1) * 2 = j * 2 + 2 by omega]
          exact this
    obtain ⟨k1, k2⟩ := key ps j p hj
    have c1 := h.cells (g := g) rfl _ _ k1
    have c2 := h.cells (g := g) rfl _ _ k2
    rw [Addr.add_lit] at c1 c2
    rw [show 0 + j * 2 + 1 = 0 + (j * 2 + 1) by omega]
    exact ⟨c1, c2⟩
theorem parse_fact {l : List UInt8} {A : PAct} {ps : List PPart} {word : ByteArray} {R1 : Rd} (h : ParseOk l A) (hs : splitF unesc (l.length + 1) l = some ps) (hn : (Rd.mk ps false).next false = (word, R1)) :
    word = S (wordL A.kind) ∧ R1.wrong = false ∧ (1 ≤ A.kind ∧ A.kind ≤ 8) ∧ readP A.kind R1 = (A, ⟨[], false⟩) := by
  obtain ⟨hc, hl⟩ := h
  have h1 := split_line esc_unesc A
  rw [hl, hs] at h1
  obtain rfl := Option.some.inj h1
  simp [Rd.next] at hn
  obtain ⟨rfl, rfl⟩ := hn
  refine ⟨rfl, rfl, ?_, read_line A (fine_of A hc)⟩
  unfold checkN at hc
  split at hc
  · omega
  · omega
theorem hit_fact {l : List UInt8} {A : PAct} {ps : List PPart} {k : Int} {R1 : Rd} (h : ParseOk l A) (hs : splitF unesc (l.length + 1) l = some ps) (hn : (Rd.mk ps false).next false = (S (wordL k), R1)) (hk : 1 ≤ k ∧ k ≤ 8) : readP k R1 = (A, ⟨[], false⟩) := by
  obtain ⟨h1, -, h3, h4⟩ := parse_fact h hs hn
  have : wordL k = wordL A.kind := by
    have := congrArg (fun b : ByteArray => b.data.toList) h1
    simpa [S] using this
  rw [word_inj hk h3 this]
  exact h4
theorem read_kind (k : Int) (R : Rd) : (readP k R).1.kind = k := by
  unfold readP
  repeat' split
  all_goals rfl
theorem act_kind {w : World} {A : PAct} {vf vp : Value} (h : ActAt w (noKind A) vf vp) (hk : I64 A.kind) : ActAt w A vf vp := ⟨h.files, h.picks, hk, h.change, h.priority, h.at_, h.count⟩
set_option maxHeartbeats 4000000 in
set_option maxRecDepth 100000 in
theorem parse_any (s : ByteArray) (w : World) (hs : s.size ≤ 1000000) (hsm : s.size ≤ 400 ∨ ∃ A, Small A ∧ ParseOk s.data.toList A) (ht : Tab10 w) (he : Errs w) (h3 : 3 < w.heap.size) : Calls Tryz.prog 5 #[.string s] w fun e w' => ParsePost s w e w' := by
  have hg := Grow.alloc w (.cells zeroA 26)
  have hz : (w.alloc (.cells zeroA 26)).heap[w.heap.size]? = some (.cells zeroA 26 (0, 0)) := heap_alloc_new w _
  have HT := Lib.hid ht
  have HE := Lib.hid he
  have HSM := Lib.hid hsm
  clear ht he hsm
  refine calls_of_wE Tryz.func5 rfl Tryz.ntmps5 (by simp) ?_
  repeat' (first | with_reducible refine wE_seq (fun K hK => ?_) | with_reducible refine wE_block ?_ | with_reducible refine wE_skip ?_ | with_reducible refine wE_ret ?_ | with_reducible refine wE_exit ?_ | simp only [thenE, blockE, ↓reduceIte, Nat.reduceEqDiff] | ((with_reducible refine hK.out _ _ ?_); clear hK K) | ((with_reducible refine wE_if ?_ (fun hc => ?_) (fun hc => ?_)); (focus (simp [evalS_tmp, evalS_const, evalS_global, evalS_func, upd, envOf, boolS_undef, boolS_bool, *]; done)); all_goals (simp [evalS_tmp, evalS_const, evalS_global, evalS_func, upd, envOf, boolS_undef, boolS_bool, *] at hc <;> try (exfalso; omega))) | (clear hK; clear K))
  ((with_reducible refine wE_region ?_ ?_); (kernel_rfl); simp only [List.append_eq, List.cons_append, List.nil_append, List.map_cons, List.map_nil, stripO, Option.map_none, Option.map_some, List.getElem?_toArray, List.getElem?_cons_succ, List.getElem?_cons_zero, Option.bind_some])
  repeat' (first | ((with_reducible refine wS_step (fun K hK => ?_)); simp [go_sem, evalS_tmp, evalS_const, evalS_global, evalS_func, upd, envOf, boolS_undef, boolS_bool, stepS_value, stepS_skip, stepS_enter, ↓IntWalk.iteOmega, *]; (try go_ints); refine hK.out _ _ ?_; clear hK K) | ((with_reducible refine wS_unit (fun K hK => ?_)); simp [go_sem, evalS_tmp, evalS_const, evalS_global, evalS_func, upd, envOf, boolS_undef, boolS_bool, stepS_value, stepS_skip, stepS_enter, ↓IntWalk.iteOmega, *]; (try go_ints); refine hK.out _ _ ?_; clear hK K) | ((with_reducible refine wS_skip ?_ ?_); (focus (simp [evalS_tmp, evalS_const, evalS_global, evalS_func, upd, envOf, boolS_undef, boolS_bool, *]; done))) | ((with_reducible refine wS_want ?_ ?_); (focus (simp [evalS_tmp, evalS_const, evalS_global, evalS_func, upd, envOf, boolS_undef, boolS_bool, *]; done))) | ((with_reducible refine wS_split (fun hc => ?_) (fun hc => ?_)) <;> simp [evalS_tmp, evalS_const, evalS_global, evalS_func, upd, envOf, boolS_undef, boolS_bool, *] at hc <;> try (exfalso; omega)) | with_reducible refine wS_nil ?_)
  generalize w.alloc (.cells zeroA 26) = w0 at *
  have HZ := Lib.hid hz
  have HG := Lib.hid hg
  have hws : w.heap.size < w0.heap.size := (Array.getElem?_eq_some_iff.1 hz).1
  clear hg hz
  repeat' (first | with_reducible refine wE_seq (fun K hK => ?_) | with_reducible refine wE_block ?_ | with_reducible refine wE_skip ?_ | with_reducible refine wE_ret ?_ | with_reducible refine wE_exit ?_ | ((with_reducible refine wE_region ?_ ?_); (kernel_rfl); simp only [List.append_eq, List.cons_append, List.nil_append, List.map_cons, List.map_nil, stripO, Option.map_none, Option.map_some, List.getElem?_toArray, List.getElem?_cons_succ, List.getElem?_cons_zero, Option.bind_some]) | ((with_reducible refine wS_step (fun K hK => ?_)); simp [go_sem, evalS_tmp, evalS_const, evalS_global, evalS_func, upd, envOf, boolS_undef, boolS_bool, stepS_value, stepS_skip, stepS_enter, ↓IntWalk.iteOmega, *]; (try go_ints); refine hK.out _ _ ?_; clear hK K) | ((with_reducible refine wS_unit (fun K hK => ?_)); simp [go_sem, evalS_tmp, evalS_const, evalS_global, evalS_func, upd, envOf, boolS_undef, boolS_bool, stepS_value, stepS_skip, stepS_enter, ↓IntWalk.iteOmega, *]; (try go_ints); refine hK.out _ _ ?_; clear hK K) | ((with_reducible refine wS_skip ?_ ?_); (focus (simp [evalS_tmp, evalS_const, evalS_global, evalS_func, upd, envOf, boolS_undef, boolS_bool, *]; done))) | ((with_reducible refine wS_want ?_ ?_); (focus (simp [evalS_tmp, evalS_const, evalS_global, evalS_func, upd, envOf, boolS_undef, boolS_bool, *]; done))) | ((with_reducible refine wS_split (fun hc => ?_) (fun hc => ?_)) <;> simp [evalS_tmp, evalS_const, evalS_global, evalS_func, upd, envOf, boolS_undef, boolS_bool, *] at hc <;> try (exfalso; omega)) | with_reducible refine wS_nil ?_ | simp only [thenE, blockE, ↓reduceIte, Nat.reduceEqDiff] | ((with_reducible refine hK.out _ _ ?_); clear hK K) | ((with_reducible refine wE_if ?_ (fun hc => ?_) (fun hc => ?_)); (focus (simp [evalS_tmp, evalS_const, evalS_global, evalS_func, upd, envOf, boolS_undef, boolS_bool, *]; done)); all_goals (simp [evalS_tmp, evalS_const, evalS_global, evalS_func, upd, envOf, boolS_undef, boolS_bool, *] at hc <;> try (exfalso; omega))) | (clear hK; clear K))
  (with_reducible refine wS_step (fun K hK => ?_)); simp [go_sem, evalS_tmp, evalS_const, evalS_global, evalS_func, upd, envOf, boolS_undef, boolS_bool, stepS_value, stepS_skip, stepS_enter, ↓IntWalk.iteOmega, *]; (try go_ints); refine (split_any s w0 (by omega)).mono ?_; rintro e w1 ⟨v, b, rfl, hsp, hg1⟩; refine ⟨_, rfl, hK.out _ _ ?_⟩; clear hK K
  have HZ1 := Lib.hid (show w1.heap[w.heap.size]? = some (.cells zeroA 26 (0, 0)) by rw [hg1.block _ hws]; exact HZ.out)
  have hws1 : w.heap.size < w1.heap.size := Nat.lt_of_lt_of_le hws hg1.size
  have HG1 := Lib.hid (HG.out.trans hg1)
  clear hg1
  unfold SplitR at hsp
  split at hsp
  · rename_i ps hps
    obtain ⟨rfl, hown⟩ := hsp
    have HPS := Lib.hid hps
    have HO := Lib.hid hown
    clear hps hown
    have hstv : ∃ aa nn cc, v = .slice aa nn cc := by
      rcases HO.out.2 with ⟨rfl, _⟩ | ⟨g, cap, cur, rfl, _⟩ <;> exact ⟨_, _, _, rfl⟩
    obtain ⟨aa, nn, ccp, rfl⟩ := hstv
    have hg2 := Grow.alloc w1 (.cells #[.slice aa nn ccp, .bool false] 45)
    have hc2 : (w1.alloc (.cells #[.slice aa nn ccp, .bool false] 45)).heap[w1.heap.size]? = some (.cells #[.slice aa nn ccp, .bool false] 45 (0, 0)) := heap_alloc_new w1 _
    have hw2 : (w1.alloc (.cells #[.slice aa nn ccp, .bool false] 45)).heap.size = w1.heap.size + 1 := Array.size_push _
    have hpa := parts_of_own (pr := w1.heap.size) (B := w1.heap.size + 1) HO.out (Nat.le_refl _) (by omega)
    repeat' (first | with_reducible refine wE_seq (fun K hK => ?_) | with_reducible refine wE_block ?_ | with_reducible refine wE_skip ?_ | with_reducible refine wE_ret ?_ | with_reducible refine wE_exit ?_ | ((with_reducible refine wE_region ?_ ?_); (kernel_rfl); simp only [List.append_eq, List.cons_append, List.nil_append, List.map_cons, List.map_nil, stripO, Option.map_none, Option.map_some, List.getElem?_toArray, List.getElem?_cons_succ, List.getElem?_cons_zero, Option.bind_some]) | ((with_reducible refine wS_step (fun K hK => ?_)); simp [go_sem, evalS_tmp, evalS_const, evalS_global, evalS_func, upd, envOf, boolS_undef, boolS_bool, stepS_value, stepS_skip, stepS_enter, ↓IntWalk.iteOmega, *]; (try go_ints); refine hK.out _ _ ?_; clear hK K) | ((with_reducible refine wS_unit (fun K hK => ?_)); simp [go_sem, evalS_tmp, evalS_const, evalS_global, evalS_func, upd, envOf, boolS_undef, boolS_bool, stepS_value, stepS_skip, stepS_enter, ↓IntWalk.iteOmega, *]; (try go_ints); refine hK.out _ _ ?_; clear hK K) | ((with_reducible refine wS_skip ?_ ?_); (focus (simp [evalS_tmp, evalS_const, evalS_global, evalS_func, upd, envOf, boolS_undef, boolS_bool, *]; done))) | ((with_reducible refine wS_want ?_ ?_); (focus (simp [evalS_tmp, evalS_const, evalS_global, evalS_func, upd, envOf, boolS_undef, boolS_bool, *]; done))) | ((with_reducible refine wS_split (fun hc => ?_) (fun hc => ?_)) <;> simp [evalS_tmp, evalS_const, evalS_global, evalS_func, upd, envOf, boolS_undef, boolS_bool, *] at hc <;> try (exfalso; omega)) | with_reducible refine wS_nil ?_ | simp only [thenE, blockE, ↓reduceIte, Nat.reduceEqDiff] | ((with_reducible refine hK.out _ _ ?_); clear hK K) | ((with_reducible refine wE_if ?_ (fun hc => ?_) (fun hc => ?_)); (focus (simp [evalS_tmp, evalS_const, evalS_global, evalS_func, upd, envOf, boolS_undef, boolS_bool, *]; done)); all_goals (simp [evalS_tmp, evalS_const, evalS_global, evalS_func, upd, envOf, boolS_undef, boolS_bool, *] at hc <;> try (exfalso; omega))) | (clear hK; clear K))
    generalize w1.alloc (.cells #[.slice aa nn ccp, .bool false] 45) = w2 at *
    have HR2 : Hid (RdAt w2 w1.heap.size (w1.heap.size + 1) ⟨ps, false⟩ (.slice aa nn ccp)) := ⟨hc2, hpa.step (RStep.grow hg2)⟩
    have HG2 := Lib.hid (HG1.out.trans hg2)
    have HZ2 := Lib.hid (show w2.heap[w.heap.size]? = some (.cells zeroA 26 (0, 0)) by rw [hg2.block _ (by omega)]; exact HZ1.out)
    have HWT := Lib.hid (splitF_le _ _ _ HPS.out)
    clear hg2 hc2 hpa
    generalize w1.heap.size = pr at *
    generalize hnx : (Rd.mk ps false).next false = nx at *
    obtain ⟨word, R1⟩ := nx
    have HNX := Lib.hid hnx
    clear hnx
    have HN0 := Lib.hid (next_r pr (pr + 1) ⟨ps, false⟩ _ false w2 HR2.out)
    rw [HNX.out] at HN0
    (with_reducible refine wS_step (fun K hK => ?_)); simp [go_sem, evalS_tmp, evalS_const, evalS_global, evalS_func, upd, envOf, boolS_undef, boolS_bool, stepS_value, stepS_skip, stepS_enter, ↓IntWalk.iteOmega, *]; (try go_ints); refine (HN0.out).mono ?_; rintro e w3 ⟨rfl, v3, hr3, hs3⟩; refine ⟨_, rfl, hK.out _ _ ?_⟩; clear hK K
    have HR3 := Lib.hid hr3
    have HS3 := Lib.hid hs3
    have HZ3 := Lib.hid (show w3.heap[w.heap.size]? = some (.cells zeroA 26 (0, 0)) by rw [hs3.block _ (by omega) (by omega)]; exact HZ2.out)
    have HG3 := Lib.hid (HG2.out.trans' (hs3.below (by omega) (by omega)))
    have hsz3 : pr + 1 ≤ w3.heap.size := by rw [← hw2]; exact hs3.size
    clear hr3 hs3
    repeat' (first | with_reducible refine wE_seq (fun K hK => ?_) | with_reducible refine wE_block ?_ | with_reducible refine wE_skip ?_ | with_reducible refine wE_ret ?_ | with_reducible refine wE_exit ?_ | ((with_reducible refine wE_region ?_ ?_); (kernel_rfl); simp only [List.append_eq, List.cons_append, List.nil_append, List.map_cons, List.map_nil, stripO, Option.map_none, Option.map_some, List.getElem?_toArray, List.getElem?_cons_succ, List.getElem?_cons_zero, Option.bind_some]) | ((with_reducible refine wS_step (fun K hK => ?_)); simp [go_sem, evalS_tmp, evalS_const, evalS_global, evalS_func, upd, envOf, boolS_undef, boolS_bool, stepS_value, stepS_skip, stepS_enter, ↓IntWalk.iteOmega, *]; (try go_ints); refine hK.out _ _ ?_; clear hK K) | ((with_reducible refine wS_unit (fun K hK => ?_)); simp [go_sem, evalS_tmp, evalS_const, evalS_global, evalS_func, upd, envOf, boolS_undef, boolS_bool, stepS_value, stepS_skip, stepS_enter, ↓IntWalk.iteOmega, *]; (try go_ints); refine hK.out _ _ ?_; clear hK K) | ((with_reducible refine wS_skip ?_ ?_); (focus (simp [evalS_tmp, evalS_const, evalS_global, evalS_func, upd, envOf, boolS_undef, boolS_bool, *]; done))) | ((with_reducible refine wS_want ?_ ?_); (focus (simp [evalS_tmp, evalS_const, evalS_global, evalS_func, upd, envOf, boolS_undef, boolS_bool, *]; done))) | ((with_reducible refine wS_split (fun hc => ?_) (fun hc => ?_)) <;> simp [evalS_tmp, evalS_const, evalS_global, evalS_func, upd, envOf, boolS_undef, boolS_bool, *] at hc <;> try (exfalso; omega)) | with_reducible refine wS_nil ?_ | simp only [thenE, blockE, ↓reduceIte, Nat.reduceEqDiff] | ((with_reducible refine hK.out _ _ ?_); clear hK K) | ((with_reducible refine wE_if ?_ (fun hc => ?_) (fun hc => ?_)); (focus (simp [evalS_tmp, evalS_const, evalS_global, evalS_func, upd, envOf, boolS_undef, boolS_bool, *]; done)); all_goals (simp [evalS_tmp, evalS_const, evalS_global, evalS_func, upd, envOf, boolS_undef, boolS_bool, *] at hc <;> try (exfalso; omega))) | (clear hK; clear K))
    (with_reducible refine wS_step (fun K hK => ?_)); simp [go_sem, evalS_tmp, evalS_const, evalS_global, evalS_func, upd, envOf, boolS_undef, boolS_bool, stepS_value, stepS_skip, stepS_enter, ↓IntWalk.iteOmega, *]; (try go_ints); refine (forms_any w3).mono ?_; rintro e w4 ⟨rfl, hm4⟩; refine ⟨_, rfl, hK.out _ _ ?_⟩; clear hK K
    have hbm : w4.heap[w3.heap.size]? = some (.map formsE 8) := hm4.map
    have hlt4 : w3.heap.size < w4.heap.size := (Array.getElem?_eq_some_iff.1 hbm).1
    have hb4 := hm4.below
    have hg5 := Grow.alloc w4 (.mapIter (some w3.heap.size) 8 #[] 8)
    have hi5 : (w4.alloc (.mapIter (some w3.heap.size) 8 #[] 8)).heap[w4.heap.size]? = some (.mapIter (some w3.heap.size) 8 #[] 8) := heap_alloc_new w4 _
    refine wS_range (.map (some w3.heap.size)) (by simp [evalS_tmp, upd]) (run_range_map w4 47 _ _ w3.heap.size formsE 8 Tryz.underlying47 hbm) ?_
    generalize w4.alloc (.mapIter (some w3.heap.size) 8 #[] 8) = w5 at *
    have hb5 : Below w3.heap.size w3 w5 := hb4.trans (Below.mono hg5 (by omega))
    have HR5 := Lib.hid (HR3.out.below (hb5.mono (by omega)) (by omega))
    have HZ5 := Lib.hid (show w5.heap[w.heap.size]? = some (.cells zeroA 26 (0, 0)) by rw [hb5.block _ (by omega)]; exact HZ3.out)
    have HG5 := Lib.hid (HG3.out.trans' (hb5.mono (by omega)))
    have HM5 := Lib.hid (show w5.heap[w3.heap.size]? = some (.map formsE 8) by rw [hg5.block _ hlt4]; exact hbm)
    have HI5 := Lib.hid hi5
    generalize w3.heap.size = bm at *
    generalize w4.heap.size = r at *
    clear hbm hb4 hg5 hi5 hb5 hm4
    repeat' (first | with_reducible refine wE_seq (fun K hK => ?_) | with_reducible refine wE_block ?_ | with_reducible refine wE_skip ?_ | with_reducible refine wE_ret ?_ | with_reducible refine wE_exit ?_ | ((with_reducible refine wE_region ?_ ?_); (kernel_rfl); simp only [List.append_eq, List.cons_append, List.nil_append, List.map_cons, List.map_nil, stripO, Option.map_none, Option.map_some, List.getElem?_toArray, List.getElem?_cons_succ, List.getElem?_cons_zero, Option.bind_some]) | ((with_reducible refine wS_step (fun K hK => ?_)); simp [go_sem, evalS_tmp, evalS_const, evalS_global, evalS_func, upd, envOf, boolS_undef, boolS_bool, stepS_value, stepS_skip, stepS_enter, ↓IntWalk.iteOmega, *]; (try go_ints); refine hK.out _ _ ?_; clear hK K) | ((with_reducible refine wS_unit (fun K hK => ?_)); simp [go_sem, evalS_tmp, evalS_const, evalS_global, evalS_func, upd, envOf, boolS_undef, boolS_bool, stepS_value, stepS_skip, stepS_enter, ↓IntWalk.iteOmega, *]; (try go_ints); refine hK.out _ _ ?_; clear hK K) | ((with_reducible refine wS_skip ?_ ?_); (focus (simp [evalS_tmp, evalS_const, evalS_global, evalS_func, upd, envOf, boolS_undef, boolS_bool, *]; done))) | ((with_reducible refine wS_want ?_ ?_); (focus (simp [evalS_tmp, evalS_const, evalS_global, evalS_func, upd, envOf, boolS_undef, boolS_bool, *]; done))) | ((with_reducible refine wS_split (fun hc => ?_) (fun hc => ?_)) <;> simp [evalS_tmp, evalS_const, evalS_global, evalS_func, upd, envOf, boolS_undef, boolS_bool, *] at hc <;> try (exfalso; omega)) | with_reducible refine wS_nil ?_ | simp only [thenE, blockE, ↓reduceIte, Nat.reduceEqDiff] | ((with_reducible refine hK.out _ _ ?_); clear hK K) | ((with_reducible refine wE_if ?_ (fun hc => ?_) (fun hc => ?_)); (focus (simp [evalS_tmp, evalS_const, evalS_global, evalS_func, upd, envOf, boolS_undef, boolS_bool, *]; done)); all_goals (simp [evalS_tmp, evalS_const, evalS_global, evalS_func, upd, envOf, boolS_undef, boolS_bool, *] at hc <;> try (exfalso; omega))) | (clear hK; clear K))
    have rest : ∀ (σ : Env) (w' : World), σ 2 = .pointer (some ⟨w.heap.size, 0, none⟩) ∧ w'.heap[w.heap.size]? = some (.cells zeroA 26 (0, 0)) ∧ Grow w w' ∧ (∀ A, ¬ ParseOk s.data.toList A) → K σ w' := by
      rintro σ w' ⟨e2, hz', hg', hno⟩
      refine hK.out _ _ ?_
      have HZ' := Lib.hid hz'
      have HG' := Lib.hid hg'
      have HNO := Lib.hid hno
      clear hK hz' hg' hno
      repeat' (first | with_reducible refine wE_seq (fun K hK => ?_) | with_reducible refine wE_block ?_ | with_reducible refine wE_skip ?_ | with_reducible refine wE_ret ?_ | with_reducible refine wE_exit ?_ | ((with_reducible refine wE_region ?_ ?_); (kernel_rfl); simp only [List.append_eq, List.cons_append, List.nil_append, List.map_cons, List.map_nil, stripO, Option.map_none, Option.map_some, List.getElem?_toArray, List.getElem?_cons_succ, List.getElem?_cons_zero, Option.bind_some]) | ((with_reducible refine wS_step (fun K hK => ?_)); simp [go_sem, evalS_tmp, evalS_const, evalS_global, evalS_func, upd, envOf, boolS_undef, boolS_bool, stepS_value, stepS_skip, stepS_enter, ↓IntWalk.iteOmega, *]; (try go_ints); refine hK.out _ _ ?_; clear hK K) | ((with_reducible refine wS_unit (fun K hK => ?_)); simp [go_sem, evalS_tmp, evalS_const, evalS_global, evalS_func, upd, envOf, boolS_undef, boolS_bool, stepS_value, stepS_skip, stepS_enter, ↓IntWalk.iteOmega, *]; (try go_ints); refine hK.out _ _ ?_; clear hK K) | ((with_reducible refine wS_skip ?_ ?_); (focus (simp [evalS_tmp, evalS_const, evalS_global, evalS_func, upd, envOf, boolS_undef, boolS_bool, *]; done))) | ((with_reducible refine wS_want ?_ ?_); (focus (simp [evalS_tmp, evalS_const, evalS_global, evalS_func, upd, envOf, boolS_undef, boolS_bool, *]; done))) | ((with_reducible refine wS_split (fun hc => ?_) (fun hc => ?_)) <;> simp [evalS_tmp, evalS_const, evalS_global, evalS_func, upd, envOf, boolS_undef, boolS_bool, *] at hc <;> try (exfalso; omega)) | with_reducible refine wS_nil ?_ | simp only [thenE, blockE, ↓reduceIte, Nat.reduceEqDiff] | ((with_reducible refine hK.out _ _ ?_); clear hK K) | ((with_reducible refine wE_if ?_ (fun hc => ?_) (fun hc => ?_)); (focus (simp [evalS_tmp, evalS_const, evalS_global, evalS_func, upd, envOf, boolS_undef, boolS_bool, *]; done)); all_goals (simp [evalS_tmp, evalS_const, evalS_global, evalS_func, upd, envOf, boolS_undef, boolS_bool, *] at hc <;> try (exfalso; omega))) | (clear hK; clear K))
      refine wS_storeRow w.heap.size zeroA zeroA (by simp [evalS_tmp, upd, e2]) (by simp [evalS_tmp, upd]) HZ'.out size25 rfl (by simp [Value.oneCell']) ?_
      repeat' (first | with_reducible refine wE_seq (fun K hK => ?_) | with_reducible refine wE_block ?_ | with_reducible refine wE_skip ?_ | with_reducible refine wE_ret ?_ | with_reducible refine wE_exit ?_ | ((with_reducible refine wE_region ?_ ?_); (kernel_rfl); simp only [List.append_eq, List.cons_append, List.nil_append, List.map_cons, List.map_nil, stripO, Option.map_none, Option.map_some, List.getElem?_toArray, List.getElem?_cons_succ, List.getElem?_cons_zero, Option.bind_some]) | ((with_reducible refine wS_step (fun K hK => ?_)); simp [go_sem, evalS_tmp, evalS_const, evalS_global, evalS_func, upd, envOf, boolS_undef, boolS_bool, stepS_value, stepS_skip, stepS_enter, ↓IntWalk.iteOmega, *]; (try go_ints); refine hK.out _ _ ?_; clear hK K) | ((with_reducible refine wS_unit (fun K hK => ?_)); simp [go_sem, evalS_tmp, evalS_const, evalS_global, evalS_func, upd, envOf, boolS_undef, boolS_bool, stepS_value, stepS_skip, stepS_enter, ↓IntWalk.iteOmega, *]; (try go_ints); refine hK.out _ _ ?_; clear hK K) | ((with_reducible refine wS_skip ?_ ?_); (focus (simp [evalS_tmp, evalS_const, evalS_global, evalS_func, upd, envOf, boolS_undef, boolS_bool, *]; done))) | ((with_reducible refine wS_want ?_ ?_); (focus (simp [evalS_tmp, evalS_const, evalS_global, evalS_func, upd, envOf, boolS_undef, boolS_bool, *]; done))) | ((with_reducible refine wS_split (fun hc => ?_) (fun hc => ?_)) <;> simp [evalS_tmp, evalS_const, evalS_global, evalS_func, upd, envOf, boolS_undef, boolS_bool, *] at hc <;> try (exfalso; omega)) | with_reducible refine wS_nil ?_ | simp only [thenE, blockE, ↓reduceIte, Nat.reduceEqDiff] | ((with_reducible refine hK.out _ _ ?_); clear hK K) | ((with_reducible refine wE_if ?_ (fun hc => ?_) (fun hc => ?_)); (focus (simp [evalS_tmp, evalS_const, evalS_global, evalS_func, upd, envOf, boolS_undef, boolS_bool, *]; done)); all_goals (simp [evalS_tmp, evalS_const, evalS_global, evalS_func, upd, envOf, boolS_undef, boolS_bool, *] at hc <;> try (exfalso; omega))) | (clear hK; clear K))
      exact endE_ct rfl (by simp [upd, e2]) (run_loadVar_row _ w.heap.size 26 26 _ (0, 0) _ (setRow_heap _ _ _ _ _ _ HZ'.out) Tryz.underlying26 rfl size25) ⟨HG'.out.trans' (below_row _ (Nat.le_refl _) _), .inr ⟨by simp [upd], HNO.out⟩⟩
    have HREST := Lib.hid rest
    clear rest hK
    refine wE_loop (fun (seen : Array Nat) σ w' => σ 0 = .string s ∧ σ 2 = .pointer (some ⟨w.heap.size, 0, none⟩) ∧ σ 6 = .pointer (some ⟨pr, 0, none⟩) ∧ σ 7 = .string word ∧ σ 27 = .pointer (some ⟨r, 0, none⟩) ∧ RdAt w' pr (pr + 1) R1 v3 ∧ w'.heap[w.heap.size]? = some (.cells zeroA 26 (0, 0)) ∧ Grow w w' ∧ w'.heap[bm]? = some (.map formsE 8) ∧ (∃ c0, 8 ≤ c0 ∧ w'.heap[r]? = some (.mapIter (some bm) 8 seen c0)) ∧ ∀ k : Int, 1 ≤ k ∧ k ≤ 8 → (k - 1).toNat ∈ seen → R1.wrong = true ∨ word ≠ S (wordL k)) (fun seen => (leftOf formsE seen).size) #[] ?_ ?_
    · refine ⟨by simp [upd, envOf], by simp [upd, envOf], by simp [upd, envOf], by simp [upd, envOf], by simp [upd, envOf], HR5.out, HZ5.out, HG5.out, HM5.out, ⟨8, by omega, HI5.out⟩, by simp⟩
    rintro seen σ w6 ⟨e0, e2, e6, e7, e27, hr, hz, hg, hm, ⟨c0, hc0, hi⟩, hseen⟩
    have HR6 := Lib.hid hr
    have HZ6 := Lib.hid hz
    have HG6 := Lib.hid hg
    have HM6 := Lib.hid hm
    have HI6 := Lib.hid hi
    have HSEEN := Lib.hid hseen
    have hrs : r < w6.heap.size := (Array.getElem?_eq_some_iff.1 hi).1
    clear hr hz hg hm hi hseen
    rcases run_next_at (P := Tryz.prog) w6 0 r bm 8 c0 seen formsE 8 HI6.out HM6.out forms_born.1 hc0 with ⟨h0, hrun⟩ | ⟨e, he, w7a, hw7, hrun⟩
    · repeat' (first | with_reducible refine wE_seq (fun K hK => ?_) | with_reducible refine wE_block ?_ | with_reducible refine wE_skip ?_ | with_reducible refine wE_ret ?_ | with_reducible refine wE_exit ?_ | simp only [thenE, blockE, ↓reduceIte, Nat.reduceEqDiff] | ((with_reducible refine hK.out _ _ ?_); clear hK K) | ((with_reducible refine wE_if ?_ (fun hc => ?_) (fun hc => ?_)); (focus (simp [evalS_tmp, evalS_const, evalS_global, evalS_func, upd, envOf, boolS_undef, boolS_bool, *]; done)); all_goals (simp [evalS_tmp, evalS_const, evalS_global, evalS_func, upd, envOf, boolS_undef, boolS_bool, *] at hc <;> try (exfalso; omega))) | (clear hK; clear K))
      ((with_reducible refine wE_region ?_ ?_); (kernel_rfl); simp only [List.append_eq, List.cons_append, List.nil_append, List.map_cons, List.map_nil, stripO, Option.map_none, Option.map_some, List.getElem?_toArray, List.getElem?_cons_succ, List.getElem?_cons_zero, Option.bind_some])
      refine wS_next (.pointer (some ⟨r, 0, none⟩)) (by simp [evalS_tmp, e27]) hrun ?_
      clear hrun
      repeat' (first | with_reducible refine wE_seq (fun K hK => ?_) | with_reducible refine wE_block ?_ | with_reducible refine wE_skip ?_ | with_reducible refine wE_ret ?_ | with_reducible refine wE_exit ?_ | ((with_reducible refine wE_region ?_ ?_); (kernel_rfl); simp only [List.append_eq, List.cons_append, List.nil_append, List.map_cons, List.map_nil, stripO, Option.map_none, Option.map_some, List.getElem?_toArray, List.getElem?_cons_succ, List.getElem?_cons_zero, Option.bind_some]) | ((with_reducible refine wS_step (fun K hK => ?_)); simp [go_sem, evalS_tmp, evalS_const, evalS_global, evalS_func, upd, envOf, boolS_undef, boolS_bool, stepS_value, stepS_skip, stepS_enter, ↓IntWalk.iteOmega, *]; (try go_ints); refine hK.out _ _ ?_; clear hK K) | ((with_reducible refine wS_unit (fun K hK => ?_)); simp [go_sem, evalS_tmp, evalS_const, evalS_global, evalS_func, upd, envOf, boolS_undef, boolS_bool, stepS_value, stepS_skip, stepS_enter, ↓IntWalk.iteOmega, *]; (try go_ints); refine hK.out _ _ ?_; clear hK K) | ((with_reducible refine wS_skip ?_ ?_); (focus (simp [evalS_tmp, evalS_const, evalS_global, evalS_func, upd, envOf, boolS_undef, boolS_bool, *]; done))) | ((with_reducible refine wS_want ?_ ?_); (focus (simp [evalS_tmp, evalS_const, evalS_global, evalS_func, upd, envOf, boolS_undef, boolS_bool, *]; done))) | ((with_reducible refine wS_split (fun hc => ?_) (fun hc => ?_)) <;> simp [evalS_tmp, evalS_const, evalS_global, evalS_func, upd, envOf, boolS_undef, boolS_bool, *] at hc <;> try (exfalso; omega)) | with_reducible refine wS_nil ?_ | simp only [thenE, blockE, ↓reduceIte, Nat.reduceEqDiff] | ((with_reducible refine hK.out _ _ ?_); clear hK K) | ((with_reducible refine wE_if ?_ (fun hc => ?_) (fun hc => ?_)); (focus (simp [evalS_tmp, evalS_const, evalS_global, evalS_func, upd, envOf, boolS_undef, boolS_bool, *]; done)); all_goals (simp [evalS_tmp, evalS_const, evalS_global, evalS_func, upd, envOf, boolS_undef, boolS_bool, *] at hc <;> try (exfalso; omega))) | (clear hK; clear K))
      refine HREST.out _ _ ⟨by simp [upd, e2], HZ6.out, HG6.out, ?_⟩
      intro A hA
      obtain ⟨g1, g2, g3, -⟩ := parse_fact hA HPS.out HNX.out
      rcases HSEEN.out A.kind g3 (left_none h0 A.kind g3) with h | h
      · rw [g2] at h; cases h
      · exact h g1
    · obtain ⟨hef, hlt⟩ := left_less he
      obtain ⟨k, hk, hkey, hval, hborn⟩ := mem_forms hef
      obtain ⟨f, g, hfv, hrd, hcall⟩ := read_cases k hk
      rw [← hfv] at hval
      have hb7 := below_it r (.mapIter (some bm) 8 (seen.push e.born) 8) hw7
      have hi7 : (setBlock w7a r (.mapIter (some bm) 8 (seen.push e.born) 8)).heap[r]? = some (.mapIter (some bm) 8 (seen.push e.born) 8) := by
        have : w7a.heap = w6.heap := by rcases hw7 with rfl | rfl <;> rfl
        simp only [setBlock]
        rw [Array.getElem?_setIfInBounds_self_of_lt (by rw [this]; exact hrs)]
      generalize setBlock w7a r (.mapIter (some bm) 8 (seen.push e.born) 8) = w7 at *
      have HR7 := Lib.hid (HR6.out.below (hb7.mono (by omega)) (by omega))
      have HZ7 := Lib.hid (show w7.heap[w.heap.size]? = some (.cells zeroA 26 (0, 0)) by rw [hb7.block _ (by omega)]; exact HZ6.out)
      have HM7 := Lib.hid (show w7.heap[bm]? = some (.map formsE 8) by rw [hb7.block _ hlt4]; exact HM6.out)
      have HG7 := Lib.hid (HG6.out.trans' (hb7.mono (by omega)))
      have HI7 := Lib.hid hi7
      have hrun2 := run_entry_at (P := Tryz.prog) w7 r bm 8 seen formsE 8 e hi7 HM7.out hef forms_born.2
      have hr7 : r < w7.heap.size := (Array.getElem?_eq_some_iff.1 hi7).1
      clear hb7 hi7 hw7
      rw [hkey, hval] at hrun2
      rw [hkey, hval] at hrun
      obtain ⟨ek, ev, eb⟩ := e
      simp only at *
      repeat' (first | with_reducible refine wE_seq (fun K hK => ?_) | with_reducible refine wE_block ?_ | with_reducible refine wE_skip ?_ | with_reducible refine wE_ret ?_ | with_reducible refine wE_exit ?_ | simp only [thenE, blockE, ↓reduceIte, Nat.reduceEqDiff] | ((with_reducible refine hK.out _ _ ?_); clear hK K) | ((with_reducible refine wE_if ?_ (fun hc => ?_) (fun hc => ?_)); (focus (simp [evalS_tmp, evalS_const, evalS_global, evalS_func, upd, envOf, boolS_undef, boolS_bool, *]; done)); all_goals (simp [evalS_tmp, evalS_const, evalS_global, evalS_func, upd, envOf, boolS_undef, boolS_bool, *] at hc <;> try (exfalso; omega))) | (clear hK; clear K))
      ((with_reducible refine wE_region ?_ ?_); (kernel_rfl); simp only [List.append_eq, List.cons_append, List.nil_append, List.map_cons, List.map_nil, stripO, Option.map_none, Option.map_some, List.getElem?_toArray, List.getElem?_cons_succ, List.getElem?_cons_zero, Option.bind_some])
      refine wS_next (.pointer (some ⟨r, 0, none⟩)) (by simp [evalS_tmp, e27]) hrun ?_
      clear hrun
      repeat' (first | with_reducible refine wE_seq (fun K hK => ?_) | with_reducible refine wE_block ?_ | with_reducible refine wE_skip ?_ | with_reducible refine wE_ret ?_ | with_reducible refine wE_exit ?_ | ((with_reducible refine wE_region ?_ ?_); (kernel_rfl); simp only [List.append_eq, List.cons_append, List.nil_append, List.map_cons, List.map_nil, stripO, Option.map_none, Option.map_some, List.getElem?_toArray, List.getElem?_cons_succ, List.getElem?_cons_zero, Option.bind_some]) | ((with_reducible refine wS_step (fun K hK => ?_)); simp [go_sem, evalS_tmp, evalS_const, evalS_global, evalS_func, upd, envOf, boolS_undef, boolS_bool, stepS_value, stepS_skip, stepS_enter, ↓IntWalk.iteOmega, *]; (try go_ints); refine hK.out _ _ ?_; clear hK K) | ((with_reducible refine wS_unit (fun K hK => ?_)); simp [go_sem, evalS_tmp, evalS_const, evalS_global, evalS_func, upd, envOf, boolS_undef, boolS_bool, stepS_value, stepS_skip, stepS_enter, ↓IntWalk.iteOmega, *]; (try go_ints); refine hK.out _ _ ?_; clear hK K) | ((with_reducible refine wS_skip ?_ ?_); (focus (simp [evalS_tmp, evalS_const, evalS_global, evalS_func, upd, envOf, boolS_undef, boolS_bool, *]; done))) | ((with_reducible refine wS_want ?_ ?_); (focus (simp [evalS_tmp, evalS_const, evalS_global, evalS_func, upd, envOf, boolS_undef, boolS_bool, *]; done))) | ((with_reducible refine wS_split (fun hc => ?_) (fun hc => ?_)) <;> simp [evalS_tmp, evalS_const, evalS_global, evalS_func, upd, envOf, boolS_undef, boolS_bool, *] at hc <;> try (exfalso; omega)) | with_reducible refine wS_nil ?_ | simp only [thenE, blockE, ↓reduceIte, Nat.reduceEqDiff] | ((with_reducible refine hK.out _ _ ?_); clear hK K) | ((with_reducible refine wE_if ?_ (fun hc => ?_) (fun hc => ?_)); (focus (simp [evalS_tmp, evalS_const, evalS_global, evalS_func, upd, envOf, boolS_undef, boolS_bool, *]; done)); all_goals (simp [evalS_tmp, evalS_const, evalS_global, evalS_func, upd, envOf, boolS_undef, boolS_bool, *] at hc <;> try (exfalso; omega))) | (clear hK; clear K))
      clear hrun2
      refine wS_storeRow w7.heap.size #[.string (S (wordL k)), .func (.func f) #[] #[], .func (.func g) #[] #[]] #[.string ⟨#[]⟩, .nilFunc, .nilFunc] (by simp [evalS_tmp, upd]) (by simp [evalS_tmp, upd, ← hfv, formV]) (heap_alloc_new w7 _) size56 rfl (by simp [Value.oneCell']) ?_
      have hg8 : Grow w7 ((w7.alloc (.cells #[.string ⟨#[]⟩, .nilFunc, .nilFunc] 52)).setRow w7.heap.size #[.string (S (wordL k)), .func (.func f) #[] #[], .func (.func g) #[] #[]]) := (Grow.alloc w7 _).trans' (below_row _ (Nat.le_refl _) _)
      have hf8 : ((w7.alloc (.cells #[.string ⟨#[]⟩, .nilFunc, .nilFunc] 52)).setRow w7.heap.size #[.string (S (wordL k)), .func (.func f) #[] #[], .func (.func g) #[] #[]]).heap[w7.heap.size]? = some (.cells #[.string (S (wordL k)), .func (.func f) #[] #[], .func (.func g) #[] #[]] 52 (0, 0)) := setRow_heap _ _ _ _ _ _ (heap_alloc_new w7 _)
      generalize ((w7.alloc (.cells #[.string ⟨#[]⟩, .nilFunc, .nilFunc] 52)).setRow w7.heap.size #[.string (S (wordL k)), .func (.func f) #[] #[], .func (.func g) #[] #[]]) = w8 at *
      have HR8 := Lib.hid (HR7.out.grow hg8)
      have HZ8 := Lib.hid (show w8.heap[w.heap.size]? = some (.cells zeroA 26 (0, 0)) by rw [hg8.block _ (by omega)]; exact HZ7.out)
      have HM8 := Lib.hid (show w8.heap[bm]? = some (.map formsE 8) by rw [hg8.block _ (by omega)]; exact HM7.out)
      have HI8 := Lib.hid (show w8.heap[r]? = some (.mapIter (some bm) 8 (seen.push eb) 8) by rw [hg8.block _ hr7]; exact HI7.out)
      have HG8 := Lib.hid (HG7.out.trans hg8)
      have f0 : w8.cell? ⟨w7.heap.size, 0, none⟩ = some (.string (S (wordL k))) := by rw [cell_of_row w8 w7.heap.size 0 _ _ _ hf8]; rfl
      have f2 : w8.cell? ⟨w7.heap.size, 2, none⟩ = some (.func (.func g) #[] #[]) := by rw [cell_of_row w8 w7.heap.size 2 _ _ _ hf8]; rfl
      have r1 : w8.cell? ⟨pr, 1, none⟩ = some (.bool R1.wrong) := by rw [cell_of_row w8 pr 1 _ _ _ HR8.out.cell]; rfl
      generalize w7.heap.size = fb at *
      have hfb : fb < w8.heap.size := (Array.getElem?_eq_some_iff.1 hf8).1
      clear hg8 hf8
      have HLT := Lib.hid hlt
      have HBORN := Lib.hid hborn
      have HRD := Lib.hid hrd
      have HK := Lib.hid hk
      have hmiss : R1.wrong = true ∨ word ≠ S (wordL k) → ∀ j : Int, 1 ≤ j ∧ j ≤ 8 → (j - 1).toNat ∈ seen.push eb → R1.wrong = true ∨ word ≠ S (wordL j) := by
        intro hm j hj hmem
        rw [Array.mem_push] at hmem
        rcases hmem with hmem | hmem
        · exact HSEEN.out j hj hmem
        · have : j = k := by omega
          rw [this]; exact hm
      have HMISS := Lib.hid hmiss
      clear hmiss hlt hborn hrd hk hkey hval hfv hef he
      obtain ⟨rp, rw1⟩ := R1
      cases rw1 with
      | true =>
        simp only at r1
        repeat' (first | with_reducible refine wE_seq (fun K hK => ?_) | with_reducible refine wE_block ?_ | with_reducible refine wE_skip ?_ | with_reducible refine wE_ret ?_ | with_reducible refine wE_exit ?_ | ((with_reducible refine wE_region ?_ ?_); (kernel_rfl); simp only [List.append_eq, List.cons_append, List.nil_append, List.map_cons, List.map_nil, stripO, Option.map_none, Option.map_some, List.getElem?_toArray, List.getElem?_cons_succ, List.getElem?_cons_zero, Option.bind_some]) | ((with_reducible refine wS_step (fun K hK => ?_)); simp [go_sem, evalS_tmp, evalS_const, evalS_global, evalS_func, upd, envOf, boolS_undef, boolS_bool, stepS_value, stepS_skip, stepS_enter, ↓IntWalk.iteOmega, *]; (try go_ints); refine hK.out _ _ ?_; clear hK K) | ((with_reducible refine wS_unit (fun K hK => ?_)); simp [go_sem, evalS_tmp, evalS_const, evalS_global, evalS_func, upd, envOf, boolS_undef, boolS_bool, stepS_value, stepS_skip, stepS_enter, ↓IntWalk.iteOmega, *]; (try go_ints); refine hK.out _ _ ?_; clear hK K) | ((with_reducible refine wS_skip ?_ ?_); (focus (simp [evalS_tmp, evalS_const, evalS_global, evalS_func, upd, envOf, boolS_undef, boolS_bool, *]; done))) | ((with_reducible refine wS_want ?_ ?_); (focus (simp [evalS_tmp, evalS_const, evalS_global, evalS_func, upd, envOf, boolS_undef, boolS_bool, *]; done))) | ((with_reducible refine wS_split (fun hc => ?_) (fun hc => ?_)) <;> simp [evalS_tmp, evalS_const, evalS_global, evalS_func, upd, envOf, boolS_undef, boolS_bool, *] at hc <;> try (exfalso; omega)) | with_reducible refine wS_nil ?_ | simp only [thenE, blockE, ↓reduceIte, Nat.reduceEqDiff] | ((with_reducible refine hK.out _ _ ?_); clear hK K) | ((with_reducible refine wE_if ?_ (fun hc => ?_) (fun hc => ?_)); (focus (simp [evalS_tmp, evalS_const, evalS_global, evalS_func, upd, envOf, boolS_undef, boolS_bool, *]; done)); all_goals (simp [evalS_tmp, evalS_const, evalS_global, evalS_func, upd, envOf, boolS_undef, boolS_bool, *] at hc <;> try (exfalso; omega))) | (clear hK; clear K))
        exact ⟨seen.push eb, ⟨by simp [upd, e0], by simp [upd, e2], by simp [upd, e6], by simp [upd, e7], by simp [upd, e27], HR8.out, HZ8.out, HG8.out, HM8.out, ⟨8, by omega, HI8.out⟩, by intros; exact .inl (by first | trivial | rfl)⟩, HLT.out⟩
      | false =>
        simp only at r1
        by_cases hw : S (wordL k) = word
        · subst hw
          have hw1 : wts rp ≤ s.size + 1 := by
            have a1 := (next_wts (Rd.mk ps false) false).2
            rw [HNX.out] at a1
            have a2 := HWT.out
            have a3 : s.data.toList.length = s.size := by simp
            simp only at a1
            omega
          have hctx : RdCtx w8 pr (pr + 1) ⟨rp, false⟩ v3 := ⟨HR8.out, HE.out.grow HG8.out, by omega, by omega, by omega, fun p hp => by have := (parts_wts rp).2 p hp; omega, by have := (parts_wts rp).1; simp only; omega⟩
          have hkind := read_kind k ⟨rp, false⟩
          have hno : ∀ A, ParseOk s.data.toList A → readP k ⟨rp, false⟩ = (A, ⟨[], false⟩) := fun A hA => hit_fact hA HPS.out HNX.out HK.out
          have hsmall : Small (readP k ⟨rp, false⟩).1 := by
            rcases HSM.out with h | ⟨A, h1, h2⟩
            · exact read_small k ⟨rp, false⟩ (by simp only; omega)
            · rw [hno A h2]; exact h1
          have hread := HRD.out pr (pr + 1) ⟨rp, false⟩ v3 w8 hctx
          generalize readP k ⟨rp, false⟩ = rr at *
          obtain ⟨A, R2⟩ := rr
          obtain ⟨ak, awho, ach, apri, aat, acnt, afs, aps⟩ := A
          simp only at hsmall hkind hno hread
          subst hkind
          simp only [noKind, actV] at hread
          have HNO := Lib.hid hno
          have HSMALL := Lib.hid hsmall
          have HREAD := Lib.hid hread
          clear hno hsmall hread hctx hw1
          repeat' (first | with_reducible refine wE_seq (fun K hK => ?_) | with_reducible refine wE_block ?_ | with_reducible refine wE_skip ?_ | with_reducible refine wE_ret ?_ | with_reducible refine wE_exit ?_ | ((with_reducible refine wE_region ?_ ?_); (kernel_rfl); simp only [List.append_eq, List.cons_append, List.nil_append, List.map_cons, List.map_nil, stripO, Option.map_none, Option.map_some, List.getElem?_toArray, List.getElem?_cons_succ, List.getElem?_cons_zero, Option.bind_some]) | ((with_reducible refine wS_step (fun K hK => ?_)); simp [go_sem, evalS_tmp, evalS_const, evalS_global, evalS_func, upd, envOf, boolS_undef, boolS_bool, stepS_value, stepS_skip, stepS_enter, ↓IntWalk.iteOmega, *]; (try go_ints); refine hK.out _ _ ?_; clear hK K) | ((with_reducible refine wS_unit (fun K hK => ?_)); simp [go_sem, evalS_tmp, evalS_const, evalS_global, evalS_func, upd, envOf, boolS_undef, boolS_bool, stepS_value, stepS_skip, stepS_enter, ↓IntWalk.iteOmega, *]; (try go_ints); refine hK.out _ _ ?_; clear hK K) | ((with_reducible refine wS_skip ?_ ?_); (focus (simp [evalS_tmp, evalS_const, evalS_global, evalS_func, upd, envOf, boolS_undef, boolS_bool, *]; done))) | ((with_reducible refine wS_want ?_ ?_); (focus (simp [evalS_tmp, evalS_const, evalS_global, evalS_func, upd, envOf, boolS_undef, boolS_bool, *]; done))) | ((with_reducible refine wS_split (fun hc => ?_) (fun hc => ?_)) <;> simp [evalS_tmp, evalS_const, evalS_global, evalS_func, upd, envOf, boolS_undef, boolS_bool, *] at hc <;> try (exfalso; omega)) | with_reducible refine wS_nil ?_ | simp only [thenE, blockE, ↓reduceIte, Nat.reduceEqDiff] | ((with_reducible refine hK.out _ _ ?_); clear hK K) | ((with_reducible refine wE_if ?_ (fun hc => ?_) (fun hc => ?_)); (focus (simp [evalS_tmp, evalS_const, evalS_global, evalS_func, upd, envOf, boolS_undef, boolS_bool, *]; done)); all_goals (simp [evalS_tmp, evalS_const, evalS_global, evalS_func, upd, envOf, boolS_undef, boolS_bool, *] at hc <;> try (exfalso; omega))) | (clear hK; clear K))
          (with_reducible refine wS_step (fun K hK => ?_)); simp [go_sem, evalS_tmp, evalS_const, evalS_global, evalS_func, upd, envOf, boolS_undef, boolS_bool, stepS_value, stepS_skip, stepS_enter, ↓IntWalk.iteOmega, *]; (try go_ints); refine (HREAD.out).mono ?_; rintro e w9 ⟨vf, vp, v9, rfl, ha9, hr9, hs9⟩; refine ⟨_, rfl, hK.out _ _ ?_⟩; clear hK K
          have hvf : ∃ a n c, vf = .slice a n c := by obtain ⟨a, c, h, -⟩ := ha9.now.files; exact ⟨_, _, _, h⟩
          have hvp : ∃ a n c, vp = .slice a n c := by obtain ⟨a, c, h, -⟩ := ha9.now.picks; exact ⟨_, _, _, h⟩
          obtain ⟨a1, n1, c1, rfl⟩ := hvf
          obtain ⟨a2, n2, c2, rfl⟩ := hvp
          have HF9 := Lib.hid ha9
          have ha9 := ha9.now
          have HA9 := Lib.hid (act_kind (A := ⟨ak, awho, ach, apri, aat, acnt, afs, aps⟩) ha9 (show I64 ak from ⟨by have := HK.out; omega, by have := HK.out; omega⟩))
          have HR9 := Lib.hid hr9
          have HG9 := Lib.hid (HG8.out.trans' (hs9.below (by omega) (by omega)))
          have HZ9 := Lib.hid (show w9.heap[w.heap.size]? = some (.cells zeroA 26 (0, 0)) by rw [hs9.block _ (by omega) (by omega)]; exact HZ8.out)
          have hsz9 : w8.heap.size ≤ w9.heap.size := hs9.size
          clear ha9 hr9 hs9
          repeat' (first | with_reducible refine wE_seq (fun K hK => ?_) | with_reducible refine wE_block ?_ | with_reducible refine wE_skip ?_ | with_reducible refine wE_ret ?_ | with_reducible refine wE_exit ?_ | ((with_reducible refine wE_region ?_ ?_); (kernel_rfl); simp only [List.append_eq, List.cons_append, List.nil_append, List.map_cons, List.map_nil, stripO, Option.map_none, Option.map_some, List.getElem?_toArray, List.getElem?_cons_succ, List.getElem?_cons_zero, Option.bind_some]) | ((with_reducible refine wS_step (fun K hK => ?_)); simp [go_sem, evalS_tmp, evalS_const, evalS_global, evalS_func, upd, envOf, boolS_undef, boolS_bool, stepS_value, stepS_skip, stepS_enter, ↓IntWalk.iteOmega, *]; (try go_ints); refine hK.out _ _ ?_; clear hK K) | ((with_reducible refine wS_unit (fun K hK => ?_)); simp [go_sem, evalS_tmp, evalS_const, evalS_global, evalS_func, upd, envOf, boolS_undef, boolS_bool, stepS_value, stepS_skip, stepS_enter, ↓IntWalk.iteOmega, *]; (try go_ints); refine hK.out _ _ ?_; clear hK K) | ((with_reducible refine wS_skip ?_ ?_); (focus (simp [evalS_tmp, evalS_const, evalS_global, evalS_func, upd, envOf, boolS_undef, boolS_bool, *]; done))) | ((with_reducible refine wS_want ?_ ?_); (focus (simp [evalS_tmp, evalS_const, evalS_global, evalS_func, upd, envOf, boolS_undef, boolS_bool, *]; done))) | ((with_reducible refine wS_split (fun hc => ?_) (fun hc => ?_)) <;> simp [evalS_tmp, evalS_const, evalS_global, evalS_func, upd, envOf, boolS_undef, boolS_bool, *] at hc <;> try (exfalso; omega)) | with_reducible refine wS_nil ?_ | simp only [thenE, blockE, ↓reduceIte, Nat.reduceEqDiff] | ((with_reducible refine hK.out _ _ ?_); clear hK K) | ((with_reducible refine wE_if ?_ (fun hc => ?_) (fun hc => ?_)); (focus (simp [evalS_tmp, evalS_const, evalS_global, evalS_func, upd, envOf, boolS_undef, boolS_bool, *]; done)); all_goals (simp [evalS_tmp, evalS_const, evalS_global, evalS_func, upd, envOf, boolS_undef, boolS_bool, *] at hc <;> try (exfalso; omega))) | (clear hK; clear K))
          have hg10 := Grow.alloc w9 (.cells #[.int .i64 ak, .string awho, .int .i64 ach, .int .i64 apri, .int .i64 aat, .int .i64 acnt, .slice a1 n1 c1, .slice a2 n2 c2] 26)
          have hc10 : (w9.alloc (.cells #[.int .i64 ak, .string awho, .int .i64 ach, .int .i64 apri, .int .i64 aat, .int .i64 acnt, .slice a1 n1 c1, .slice a2 n2 c2] 26)).heap[w9.heap.size]? = some (.cells #[.int .i64 ak, .string awho, .int .i64 ach, .int .i64 apri, .int .i64 aat, .int .i64 acnt, .slice a1 n1 c1, .slice a2 n2 c2] 26 (0, 0)) := heap_alloc_new w9 _
          generalize w9.alloc (.cells #[.int .i64 ak, .string awho, .int .i64 ach, .int .i64 apri, .int .i64 aat, .int .i64 acnt, .slice a1 n1 c1, .slice a2 n2 c2] 26) = w10 at *
          have hab : w9.heap.size < w10.heap.size := (Array.getElem?_eq_some_iff.1 hc10).1
          have HG10 := Lib.hid (HG9.out.trans hg10)
          have HA10 := Lib.hid (HA9.out.keep (Keeps.of_below hg10))
          have hline := line_any _ _ _ w10 HA10.out HSMALL.out (HT.out.grow HG10.out)
          simp only [actV] at hline
          have HLINE := Lib.hid hline
          clear hline
          (with_reducible refine wS_step (fun K hK => ?_)); simp [go_sem, evalS_tmp, evalS_const, evalS_global, evalS_func, upd, envOf, boolS_undef, boolS_bool, stepS_value, stepS_skip, stepS_enter, ↓IntWalk.iteOmega, *]; (try go_ints); refine (HLINE.out).mono ?_; rintro e w11 ⟨rfl, hg11⟩; refine ⟨_, rfl, hK.out _ _ ?_⟩; clear hK K
          have hg12 : Grow w9 w11 := hg10.trans hg11
          have HG12 := Lib.hid hg12
          have HF11 : Hid (∀ cs, ActAt (w11.setRow w.heap.size cs) ⟨ak, awho, ach, apri, aat, acnt, afs, aps⟩ (.slice a1 n1 c1) (.slice a2 n2 c2)) := fun cs => act_kind (A := ⟨ak, awho, ach, apri, aat, acnt, afs, aps⟩) (HF9.out _ (fun j h1 h2 => by rw [setRow_other _ _ _ _ (by omega), hg12.block _ h2])) (show I64 ak from ⟨by have := HK.out; omega, by have := HK.out; omega⟩)
          have HG11 := Lib.hid (HG10.out.trans hg11)
          have HA11 := Lib.hid (HA10.out.keep (Keeps.of_below hg11))
          have HC11 := Lib.hid (show w11.heap[w9.heap.size]? = some (.cells #[.int .i64 ak, .string awho, .int .i64 ach, .int .i64 apri, .int .i64 aat, .int .i64 acnt, .slice a1 n1 c1, .slice a2 n2 c2] 26 (0, 0)) by rw [hg11.block _ hab]; exact hc10)
          have HZ11 := Lib.hid (show w11.heap[w.heap.size]? = some (.cells zeroA 26 (0, 0)) by rw [hg12.block _ (by omega)]; exact HZ9.out)
          have r11 : w11.cell? ⟨pr, 1, none⟩ = some (.bool R2.wrong) := by rw [cell_of_row w11 pr 1 _ _ _ (HR9.out.grow hg12).cell]; rfl
          generalize w9.heap.size = ab at *
          clear hg10 hc10 hg11 hg12 r1 f0 f2
          have hfin : (R2.wrong = true ∨ checkN ⟨ak, awho, ach, apri, aat, acnt, afs, aps⟩ ≠ 0 ∨ lineL ⟨ak, awho, ach, apri, aat, acnt, afs, aps⟩ ≠ s.data.toList) → ∀ A, ¬ ParseOk s.data.toList A := by
            intro hb A hA
            have h1 := HNO.out A hA
            simp only [Prod.mk.injEq] at h1
            obtain ⟨rfl, rfl⟩ := h1
            rcases hb with hb | hb | hb
            · cases hb
            · exact hb hA.1
            · exact hb hA.2
          have HFIN := Lib.hid hfin
          clear hfin
          obtain ⟨R2p, R2w⟩ := R2
          simp only at r11
          by_cases hck : checkN ⟨ak, awho, ach, apri, aat, acnt, afs, aps⟩ = 0
          · rw [show lineR ⟨ak, awho, ach, apri, aat, acnt, afs, aps⟩ = .tuple #[.string (S (lineL ⟨ak, awho, ach, apri, aat, acnt, afs, aps⟩)), .int .i64 0] by rw [lineR, if_pos hck]]
            have HCK := Lib.hid hck
            clear hck
            obtain ⟨ls, hls⟩ : ∃ ls, ls = S (lineL ⟨ak, awho, ach, apri, aat, acnt, afs, aps⟩) := ⟨_, rfl⟩
            rw [← hls]
            have HLS := Lib.hid hls
            clear hls
            cases R2w with
            | true =>
              repeat' (first | with_reducible refine wE_seq (fun K hK => ?_) | with_reducible refine wE_block ?_ | with_reducible refine wE_skip ?_ | with_reducible refine wE_ret ?_ | with_reducible refine wE_exit ?_ | ((with_reducible refine wE_region ?_ ?_); (kernel_rfl); simp only [List.append_eq, List.cons_append, List.nil_append, List.map_cons, List.map_nil, stripO, Option.map_none, Option.map_some, List.getElem?_toArray, List.getElem?_cons_succ, List.getElem?_cons_zero, Option.bind_some]) | ((with_reducible refine wS_step (fun K hK => ?_)); simp [go_sem, evalS_tmp, evalS_const, evalS_global, evalS_func, upd, envOf, boolS_undef, boolS_bool, stepS_value, stepS_skip, stepS_enter, ↓IntWalk.iteOmega, *]; (try go_ints); refine hK.out _ _ ?_; clear hK K) | ((with_reducible refine wS_unit (fun K hK => ?_)); simp [go_sem, evalS_tmp, evalS_const, evalS_global, evalS_func, upd, envOf, boolS_undef, boolS_bool, stepS_value, stepS_skip, stepS_enter, ↓IntWalk.iteOmega, *]; (try go_ints); refine hK.out _ _ ?_; clear hK K) | ((with_reducible refine wS_skip ?_ ?_); (focus (simp [evalS_tmp, evalS_const, evalS_global, evalS_func, upd, envOf, boolS_undef, boolS_bool, *]; done))) | ((with_reducible refine wS_want ?_ ?_); (focus (simp [evalS_tmp, evalS_const, evalS_global, evalS_func, upd, envOf, boolS_undef, boolS_bool, *]; done))) | ((with_reducible refine wS_split (fun hc => ?_) (fun hc => ?_)) <;> simp [evalS_tmp, evalS_const, evalS_global, evalS_func, upd, envOf, boolS_undef, boolS_bool, *] at hc <;> try (exfalso; omega)) | with_reducible refine wS_nil ?_ | simp only [thenE, blockE, ↓reduceIte, Nat.reduceEqDiff] | ((with_reducible refine hK.out _ _ ?_); clear hK K) | ((with_reducible refine wE_if ?_ (fun hc => ?_) (fun hc => ?_)); (focus (simp [evalS_tmp, evalS_const, evalS_global, evalS_func, upd, envOf, boolS_undef, boolS_bool, *]; done)); all_goals (simp [evalS_tmp, evalS_const, evalS_global, evalS_func, upd, envOf, boolS_undef, boolS_bool, *] at hc <;> try (exfalso; omega))) | (clear hK; clear K))
              refine HREST.out _ _ ⟨by simp [upd, e2], HZ11.out, HG11.out, HFIN.out (.inl rfl)⟩
            | false =>
              by_cases hq : ls = s
              · have HQ := Lib.hid hq
                subst hq
                have m0 : w11.cell? ⟨ab, 0, none⟩ = some (.int .i64 ak) := by rw [cell_of_row w11 ab 0 _ _ _ HC11.out]; rfl
                have m1 : w11.cell? ⟨ab, 1, none⟩ = some (.string awho) := by rw [cell_of_row w11 ab 1 _ _ _ HC11.out]; rfl
                have m2 : w11.cell? ⟨ab, 2, none⟩ = some (.int .i64 ach) := by rw [cell_of_row w11 ab 2 _ _ _ HC11.out]; rfl
                have m3 : w11.cell? ⟨ab, 3, none⟩ = some (.int .i64 apri) := by rw [cell_of_row w11 ab 3 _ _ _ HC11.out]; rfl
                have m4 : w11.cell? ⟨ab, 4, none⟩ = some (.int .i64 aat) := by rw [cell_of_row w11 ab 4 _ _ _ HC11.out]; rfl
                have m5 : w11.cell? ⟨ab, 5, none⟩ = some (.int .i64 acnt) := by rw [cell_of_row w11 ab 5 _ _ _ HC11.out]; rfl
                have m6 : w11.cell? ⟨ab, 6, none⟩ = some (.slice a1 n1 c1) := by rw [cell_of_row w11 ab 6 _ _ _ HC11.out]; rfl
                have m7 : w11.cell? ⟨ab, 7, none⟩ = some (.slice a2 n2 c2) := by rw [cell_of_row w11 ab 7 _ _ _ HC11.out]; rfl
                repeat' (first | with_reducible refine wE_seq (fun K hK => ?_) | with_reducible refine wE_block ?_ | with_reducible refine wE_skip ?_ | with_reducible refine wE_ret ?_ | with_reducible refine wE_exit ?_ | ((with_reducible refine wE_region ?_ ?_); (kernel_rfl); simp only [List.append_eq, List.cons_append, List.nil_append, List.map_cons, List.map_nil, stripO, Option.map_none, Option.map_some, List.getElem?_toArray, List.getElem?_cons_succ, List.getElem?_cons_zero, Option.bind_some]) | ((with_reducible refine wS_step (fun K hK => ?_)); simp [go_sem, evalS_tmp, evalS_const, evalS_global, evalS_func, upd, envOf, boolS_undef, boolS_bool, stepS_value, stepS_skip, stepS_enter, ↓IntWalk.iteOmega, *]; (try go_ints); refine hK.out _ _ ?_; clear hK K) | ((with_reducible refine wS_unit (fun K hK => ?_)); simp [go_sem, evalS_tmp, evalS_const, evalS_global, evalS_func, upd, envOf, boolS_undef, boolS_bool, stepS_value, stepS_skip, stepS_enter, ↓IntWalk.iteOmega, *]; (try go_ints); refine hK.out _ _ ?_; clear hK K) | ((with_reducible refine wS_skip ?_ ?_); (focus (simp [evalS_tmp, evalS_const, evalS_global, evalS_func, upd, envOf, boolS_undef, boolS_bool, *]; done))) | ((with_reducible refine wS_want ?_ ?_); (focus (simp [evalS_tmp, evalS_const, evalS_global, evalS_func, upd, envOf, boolS_undef, boolS_bool, *]; done))) | ((with_reducible refine wS_split (fun hc => ?_) (fun hc => ?_)) <;> simp [evalS_tmp, evalS_const, evalS_global, evalS_func, upd, envOf, boolS_undef, boolS_bool, *] at hc <;> try (exfalso; omega)) | with_reducible refine wS_nil ?_ | simp only [thenE, blockE, ↓reduceIte, Nat.reduceEqDiff] | ((with_reducible refine hK.out _ _ ?_); clear hK K) | ((with_reducible refine wE_if ?_ (fun hc => ?_) (fun hc => ?_)); (focus (simp [evalS_tmp, evalS_const, evalS_global, evalS_func, upd, envOf, boolS_undef, boolS_bool, *]; done)); all_goals (simp [evalS_tmp, evalS_const, evalS_global, evalS_func, upd, envOf, boolS_undef, boolS_bool, *] at hc <;> try (exfalso; omega))) | (clear hK; clear K))
                refine wS_storeRow w.heap.size #[.int .i64 ak, .string awho, .int .i64 ach, .int .i64 apri, .int .i64 aat, .int .i64 acnt, .slice a1 n1 c1, .slice a2 n2 c2] zeroA (by simp [evalS_tmp, upd, e2]) (by simp [evalS_tmp, upd]) HZ11.out size25 rfl (by simp [Value.oneCell']) ?_
                repeat' (first | with_reducible refine wE_seq (fun K hK => ?_) | with_reducible refine wE_block ?_ | with_reducible refine wE_skip ?_ | with_reducible refine wE_ret ?_ | with_reducible refine wE_exit ?_ | ((with_reducible refine wE_region ?_ ?_); (kernel_rfl); simp only [List.append_eq, List.cons_append, List.nil_append, List.map_cons, List.map_nil, stripO, Option.map_none, Option.map_some, List.getElem?_toArray, List.getElem?_cons_succ, List.getElem?_cons_zero, Option.bind_some]) | ((with_reducible refine wS_step (fun K hK => ?_)); simp [go_sem, evalS_tmp, evalS_const, evalS_global, evalS_func, upd, envOf, boolS_undef, boolS_bool, stepS_value, stepS_skip, stepS_enter, ↓IntWalk.iteOmega, *]; (try go_ints); refine hK.out _ _ ?_; clear hK K) | ((with_reducible refine wS_unit (fun K hK => ?_)); simp [go_sem, evalS_tmp, evalS_const, evalS_global, evalS_func, upd, envOf, boolS_undef, boolS_bool, stepS_value, stepS_skip, stepS_enter, ↓IntWalk.iteOmega, *]; (try go_ints); refine hK.out _ _ ?_; clear hK K) | ((with_reducible refine wS_skip ?_ ?_); (focus (simp [evalS_tmp, evalS_const, evalS_global, evalS_func, upd, envOf, boolS_undef, boolS_bool, *]; done))) | ((with_reducible refine wS_want ?_ ?_); (focus (simp [evalS_tmp, evalS_const, evalS_global, evalS_func, upd, envOf, boolS_undef, boolS_bool, *]; done))) | ((with_reducible refine wS_split (fun hc => ?_) (fun hc => ?_)) <;> simp [evalS_tmp, evalS_const, evalS_global, evalS_func, upd, envOf, boolS_undef, boolS_bool, *] at hc <;> try (exfalso; omega)) | with_reducible refine wS_nil ?_ | simp only [thenE, blockE, ↓reduceIte, Nat.reduceEqDiff] | ((with_reducible refine hK.out _ _ ?_); clear hK K) | ((with_reducible refine wE_if ?_ (fun hc => ?_) (fun hc => ?_)); (focus (simp [evalS_tmp, evalS_const, evalS_global, evalS_func, upd, envOf, boolS_undef, boolS_bool, *]; done)); all_goals (simp [evalS_tmp, evalS_const, evalS_global, evalS_func, upd, envOf, boolS_undef, boolS_bool, *] at hc <;> try (exfalso; omega))) | (clear hK; clear K))
                refine endE_ct rfl (by simp [upd, e2]) (run_loadVar_row _ w.heap.size 26 26 _ (0, 0) _ (setRow_heap _ _ _ _ _ _ HZ11.out) Tryz.underlying26 rfl size25) ⟨HG11.out.trans' (below_row _ (Nat.le_refl _) _), .inl ⟨⟨ak, awho, ach, apri, aat, acnt, afs, aps⟩, .slice a1 n1 c1, .slice a2 n2 c2, by simp [upd, actV], HF11.out _, HCK.out, ?_⟩⟩
                rw [HLS.out]; rfl
              · have hq2 : ¬ ls.toList = s.toList := fun h => hq (toList_inj h)
                repeat' (first | with_reducible refine wE_seq (fun K hK => ?_) | with_reducible refine wE_block ?_ | with_reducible refine wE_skip ?_ | with_reducible refine wE_ret ?_ | with_reducible refine wE_exit ?_ | ((with_reducible refine wE_region ?_ ?_); (kernel_rfl); simp only [List.append_eq, List.cons_append, List.nil_append, List.map_cons, List.map_nil, stripO, Option.map_none, Option.map_some, List.getElem?_toArray, List.getElem?_cons_succ, List.getElem?_cons_zero, Option.bind_some]) | ((with_reducible refine wS_step (fun K hK => ?_)); simp [go_sem, evalS_tmp, evalS_const, evalS_global, evalS_func, upd, envOf, boolS_undef, boolS_bool, stepS_value, stepS_skip, stepS_enter, ↓IntWalk.iteOmega, *]; (try go_ints); refine hK.out _ _ ?_; clear hK K) | ((with_reducible refine wS_unit (fun K hK => ?_)); simp [go_sem, evalS_tmp, evalS_const, evalS_global, evalS_func, upd, envOf, boolS_undef, boolS_bool, stepS_value, stepS_skip, stepS_enter, ↓IntWalk.iteOmega, *]; (try go_ints); refine hK.out _ _ ?_; clear hK K) | ((with_reducible refine wS_skip ?_ ?_); (focus (simp [evalS_tmp, evalS_const, evalS_global, evalS_func, upd, envOf, boolS_undef, boolS_bool, *]; done))) | ((with_reducible refine wS_want ?_ ?_); (focus (simp [evalS_tmp, evalS_const, evalS_global, evalS_func, upd, envOf, boolS_undef, boolS_bool, *]; done))) | ((with_reducible refine wS_split (fun hc => ?_) (fun hc => ?_)) <;> simp [evalS_tmp, evalS_const, evalS_global, evalS_func, upd, envOf, boolS_undef, boolS_bool, *] at hc <;> try (exfalso; omega)) | with_reducible refine wS_nil ?_ | simp only [thenE, blockE, ↓reduceIte, Nat.reduceEqDiff] | ((with_reducible refine hK.out _ _ ?_); clear hK K) | ((with_reducible refine wE_if ?_ (fun hc => ?_) (fun hc => ?_)); (focus (simp [evalS_tmp, evalS_const, evalS_global, evalS_func, upd, envOf, boolS_undef, boolS_bool, *]; done)); all_goals (simp [evalS_tmp, evalS_const, evalS_global, evalS_func, upd, envOf, boolS_undef, boolS_bool, *] at hc <;> try (exfalso; omega))) | (clear hK; clear K))
                refine HREST.out _ _ ⟨by simp [upd, e2], HZ11.out, HG11.out, HFIN.out (.inr (.inr ?_))⟩
                intro h
                exact hq (by rw [HLS.out, h]; rfl)
          · rw [show lineR ⟨ak, awho, ach, apri, aat, acnt, afs, aps⟩ = .tuple #[.string ⟨#[]⟩, .int .i64 (checkN ⟨ak, awho, ach, apri, aat, acnt, afs, aps⟩)] by rw [lineR, if_neg hck]]
            have HCK := Lib.hid hck
            generalize checkN ⟨ak, awho, ach, apri, aat, acnt, afs, aps⟩ = cn at *
            cases R2w with
            | true =>
              repeat' (first | with_reducible refine wE_seq (fun K hK => ?_) | with_reducible refine wE_block ?_ | with_reducible refine wE_skip ?_ | with_reducible refine wE_ret ?_ | with_reducible refine wE_exit ?_ | ((with_reducible refine wE_region ?_ ?_); (kernel_rfl); simp only [List.append_eq, List.cons_append, List.nil_append, List.map_cons, List.map_nil, stripO, Option.map_none, Option.map_some, List.getElem?_toArray, List.getElem?_cons_succ, List.getElem?_cons_zero, Option.bind_some]) | ((with_reducible refine wS_step (fun K hK => ?_)); simp [go_sem, evalS_tmp, evalS_const, evalS_global, evalS_func, upd, envOf, boolS_undef, boolS_bool, stepS_value, stepS_skip, stepS_enter, ↓IntWalk.iteOmega, *]; (try go_ints); refine hK.out _ _ ?_; clear hK K) | ((with_reducible refine wS_unit (fun K hK => ?_)); simp [go_sem, evalS_tmp, evalS_const, evalS_global, evalS_func, upd, envOf, boolS_undef, boolS_bool, stepS_value, stepS_skip, stepS_enter, ↓IntWalk.iteOmega, *]; (try go_ints); refine hK.out _ _ ?_; clear hK K) | ((with_reducible refine wS_skip ?_ ?_); (focus (simp [evalS_tmp, evalS_const, evalS_global, evalS_func, upd, envOf, boolS_undef, boolS_bool, *]; done))) | ((with_reducible refine wS_want ?_ ?_); (focus (simp [evalS_tmp, evalS_const, evalS_global, evalS_func, upd, envOf, boolS_undef, boolS_bool, *]; done))) | ((with_reducible refine wS_split (fun hc => ?_) (fun hc => ?_)) <;> simp [evalS_tmp, evalS_const, evalS_global, evalS_func, upd, envOf, boolS_undef, boolS_bool, *] at hc <;> try (exfalso; omega)) | with_reducible refine wS_nil ?_ | simp only [thenE, blockE, ↓reduceIte, Nat.reduceEqDiff] | ((with_reducible refine hK.out _ _ ?_); clear hK K) | ((with_reducible refine wE_if ?_ (fun hc => ?_) (fun hc => ?_)); (focus (simp [evalS_tmp, evalS_const, evalS_global, evalS_func, upd, envOf, boolS_undef, boolS_bool, *]; done)); all_goals (simp [evalS_tmp, evalS_const, evalS_global, evalS_func, upd, envOf, boolS_undef, boolS_bool, *] at hc <;> try (exfalso; omega))) | (clear hK; clear K))
              refine HREST.out _ _ ⟨by simp [upd, e2], HZ11.out, HG11.out, HFIN.out (.inl rfl)⟩
            | false =>
              repeat' (first | with_reducible refine wE_seq (fun K hK => ?_) | with_reducible refine wE_block ?_ | with_reducible refine wE_skip ?_ | with_reducible refine wE_ret ?_ | with_reducible refine wE_exit ?_ | ((with_reducible refine wE_region ?_ ?_); (kernel_rfl); simp only [List.append_eq, List.cons_append, List.nil_append, List.map_cons, List.map_nil, stripO, Option.map_none, Option.map_some, List.getElem?_toArray, List.getElem?_cons_succ, List.getElem?_cons_zero, Option.bind_some]) | ((with_reducible refine wS_step (fun K hK => ?_)); simp [go_sem, evalS_tmp, evalS_const, evalS_global, evalS_func, upd, envOf, boolS_undef, boolS_bool, stepS_value, stepS_skip, stepS_enter, ↓IntWalk.iteOmega, *]; (try go_ints); refine hK.out _ _ ?_; clear hK K) | ((with_reducible refine wS_unit (fun K hK => ?_)); simp [go_sem, evalS_tmp, evalS_const, evalS_global, evalS_func, upd, envOf, boolS_undef, boolS_bool, stepS_value, stepS_skip, stepS_enter, ↓IntWalk.iteOmega, *]; (try go_ints); refine hK.out _ _ ?_; clear hK K) | ((with_reducible refine wS_skip ?_ ?_); (focus (simp [evalS_tmp, evalS_const, evalS_global, evalS_func, upd, envOf, boolS_undef, boolS_bool, *]; done))) | ((with_reducible refine wS_want ?_ ?_); (focus (simp [evalS_tmp, evalS_const, evalS_global, evalS_func, upd, envOf, boolS_undef, boolS_bool, *]; done))) | ((with_reducible refine wS_split (fun hc => ?_) (fun hc => ?_)) <;> simp [evalS_tmp, evalS_const, evalS_global, evalS_func, upd, envOf, boolS_undef, boolS_bool, *] at hc <;> try (exfalso; omega)) | with_reducible refine wS_nil ?_ | simp only [thenE, blockE, ↓reduceIte, Nat.reduceEqDiff] | ((with_reducible refine hK.out _ _ ?_); clear hK K) | ((with_reducible refine wE_if ?_ (fun hc => ?_) (fun hc => ?_)); (focus (simp [evalS_tmp, evalS_const, evalS_global, evalS_func, upd, envOf, boolS_undef, boolS_bool, *]; done)); all_goals (simp [evalS_tmp, evalS_const, evalS_global, evalS_func, upd, envOf, boolS_undef, boolS_bool, *] at hc <;> try (exfalso; omega))) | (clear hK; clear K))
              refine HREST.out _ _ ⟨by simp [upd, e2], HZ11.out, HG11.out, HFIN.out (.inr (.inl HCK.out))⟩
        · have hw2 : ¬ (S (wordL k)).toList = word.toList := fun h => hw (toList_inj h)
          repeat' (first | with_reducible refine wE_seq (fun K hK => ?_) | with_reducible refine wE_block ?_ | with_reducible refine wE_skip ?_ | with_reducible refine wE_ret ?_ | with_reducible refine wE_exit ?_ | ((with_reducible refine wE_region ?_ ?_); (kernel_rfl); simp only [List.append_eq, List.cons_append, List.nil_append, List.map_cons, List.map_nil, stripO, Option.map_none, Option.map_some, List.getElem?_toArray, List.getElem?_cons_succ, List.getElem?_cons_zero, Option.bind_some]) | ((with_reducible refine wS_step (fun K hK => ?_)); simp [go_sem, evalS_tmp, evalS_const, evalS_global, evalS_func, upd, envOf, boolS_undef, boolS_bool, stepS_value, stepS_skip, stepS_enter, ↓IntWalk.iteOmega, *]; (try go_ints); refine hK.out _ _ ?_; clear hK K) | ((with_reducible refine wS_unit (fun K hK => ?_)); simp [go_sem, evalS_tmp, evalS_const, evalS_global, evalS_func, upd, envOf, boolS_undef, boolS_bool, stepS_value, stepS_skip, stepS_enter, ↓IntWalk.iteOmega, *]; (try go_ints); refine hK.out _ _ ?_; clear hK K) | ((with_reducible refine wS_skip ?_ ?_); (focus (simp [evalS_tmp, evalS_const, evalS_global, evalS_func, upd, envOf, boolS_undef, boolS_bool, *]; done))) | ((with_reducible refine wS_want ?_ ?_); (focus (simp [evalS_tmp, evalS_const, evalS_global, evalS_func, upd, envOf, boolS_undef, boolS_bool, *]; done))) | ((with_reducible refine wS_split (fun hc => ?_) (fun hc => ?_)) <;> simp [evalS_tmp, evalS_const, evalS_global, evalS_func, upd, envOf, boolS_undef, boolS_bool, *] at hc <;> try (exfalso; omega)) | with_reducible refine wS_nil ?_ | simp only [thenE, blockE, ↓reduceIte, Nat.reduceEqDiff] | ((with_reducible refine hK.out _ _ ?_); clear hK K) | ((with_reducible refine wE_if ?_ (fun hc => ?_) (fun hc => ?_)); (focus (simp [evalS_tmp, evalS_const, evalS_global, evalS_func, upd, envOf, boolS_undef, boolS_bool, *]; done)); all_goals (simp [evalS_tmp, evalS_const, evalS_global, evalS_func, upd, envOf, boolS_undef, boolS_bool, *] at hc <;> try (exfalso; omega))) | (clear hK; clear K))
          exact ⟨seen.push eb, ⟨by simp [upd, e0], by simp [upd, e2], by simp [upd, e6], by simp [upd, e7], by simp [upd, e27], HR8.out, HZ8.out, HG8.out, HM8.out, ⟨8, by omega, HI8.out⟩, HMISS.out (.inr (fun h => hw h.symm))⟩, HLT.out⟩
  · rename_i hps
    obtain ⟨rfl, rfl⟩ := hsp
    have HPS := Lib.hid hps
    clear hps
    repeat' (first | with_reducible refine wE_seq (fun K hK => ?_) | with_reducible refine wE_block ?_ | with_reducible refine wE_skip ?_ | with_reducible refine wE_ret ?_ | with_reducible refine wE_exit ?_ | ((with_reducible refine wE_region ?_ ?_); (kernel_rfl); simp only [List.append_eq, List.cons_append, List.nil_append, List.map_cons, List.map_nil, stripO, Option.map_none, Option.map_some, List.getElem?_toArray, List.getElem?_cons_succ, List.getElem?_cons_zero, Option.bind_some]) | ((with_reducible refine wS_step (fun K hK => ?_)); simp [go_sem, evalS_tmp, evalS_const, evalS_global, evalS_func, upd, envOf, boolS_undef, boolS_bool, stepS_value, stepS_skip, stepS_enter, ↓IntWalk.iteOmega, *]; (try go_ints); refine hK.out _ _ ?_; clear hK K) | ((with_reducible refine wS_unit (fun K hK => ?_)); simp [go_sem, evalS_tmp, evalS_const, evalS_global, evalS_func, upd, envOf, boolS_undef, boolS_bool, stepS_value, stepS_skip, stepS_enter, ↓IntWalk.iteOmega, *]; (try go_ints); refine hK.out _ _ ?_; clear hK K) | ((with_reducible refine wS_skip ?_ ?_); (focus (simp [evalS_tmp, evalS_const, evalS_global, evalS_func, upd, envOf, boolS_undef, boolS_bool, *]; done))) | ((with_reducible refine wS_want ?_ ?_); (focus (simp [evalS_tmp, evalS_const, evalS_global, evalS_func, upd, envOf, boolS_undef, boolS_bool, *]; done))) | ((with_reducible refine wS_split (fun hc => ?_) (fun hc => ?_)) <;> simp [evalS_tmp, evalS_const, evalS_global, evalS_func, upd, envOf, boolS_undef, boolS_bool, *] at hc <;> try (exfalso; omega)) | with_reducible refine wS_nil ?_ | simp only [thenE, blockE, ↓reduceIte, Nat.reduceEqDiff] | ((with_reducible refine hK.out _ _ ?_); clear hK K) | ((with_reducible refine wE_if ?_ (fun hc => ?_) (fun hc => ?_)); (focus (simp [evalS_tmp, evalS_const, evalS_global, evalS_func, upd, envOf, boolS_undef, boolS_bool, *]; done)); all_goals (simp [evalS_tmp, evalS_const, evalS_global, evalS_func, upd, envOf, boolS_undef, boolS_bool, *] at hc <;> try (exfalso; omega))) | (clear hK; clear K))
    refine wS_storeRow w.heap.size zeroA zeroA (by simp [evalS_tmp, upd]) (by simp [evalS_tmp, upd]) HZ1.out size25 rfl (by simp [Value.oneCell']) ?_
    repeat' (first | with_reducible refine wE_seq (fun K hK => ?_) | with_reducible refine wE_block ?_ | with_reducible refine wE_skip ?_ | with_reducible refine wE_ret ?_ | with_reducible refine wE_exit ?_ | ((with_reducible refine wE_region ?_ ?_); (kernel_rfl); simp only [List.append_eq, List.cons_append, List.nil_append, List.map_cons, List.map_nil, stripO, Option.map_none, Option.map_some, List.getElem?_toArray, List.getElem?_cons_succ, List.getElem?_cons_zero, Option.bind_some]) | ((with_reducible refine wS_step (fun K hK => ?_)); simp [go_sem, evalS_tmp, evalS_const, evalS_global, evalS_func, upd, envOf, boolS_undef, boolS_bool, stepS_value, stepS_skip, stepS_enter, ↓IntWalk.iteOmega, *]; (try go_ints); refine hK.out _ _ ?_; clear hK K) | ((with_reducible refine wS_unit (fun K hK => ?_)); simp [go_sem, evalS_tmp, evalS_const, evalS_global, evalS_func, upd, envOf, boolS_undef, boolS_bool, stepS_value, stepS_skip, stepS_enter, ↓IntWalk.iteOmega, *]; (try go_ints); refine hK.out _ _ ?_; clear hK K) | ((with_reducible refine wS_skip ?_ ?_); (focus (simp [evalS_tmp, evalS_const, evalS_global, evalS_func, upd, envOf, boolS_undef, boolS_bool, *]; done))) | ((with_reducible refine wS_want ?_ ?_); (focus (simp [evalS_tmp, evalS_const, evalS_global, evalS_func, upd, envOf, boolS_undef, boolS_bool, *]; done))) | ((with_reducible refine wS_split (fun hc => ?_) (fun hc => ?_)) <;> simp [evalS_tmp, evalS_const, evalS_global, evalS_func, upd, envOf, boolS_undef, boolS_bool, *] at hc <;> try (exfalso; omega)) | with_reducible refine wS_nil ?_ | simp only [thenE, blockE, ↓reduceIte, Nat.reduceEqDiff] | ((with_reducible refine hK.out _ _ ?_); clear hK K) | ((with_reducible refine wE_if ?_ (fun hc => ?_) (fun hc => ?_)); (focus (simp [evalS_tmp, evalS_const, evalS_global, evalS_func, upd, envOf, boolS_undef, boolS_bool, *]; done)); all_goals (simp [evalS_tmp, evalS_const, evalS_global, evalS_func, upd, envOf, boolS_undef, boolS_bool, *] at hc <;> try (exfalso; omega))) | (clear hK; clear K))
    refine endE_ct rfl (by simp [upd]) (run_loadVar_row _ w.heap.size 26 26 _ (0, 0) _ (setRow_heap _ _ _ _ _ _ HZ1.out) Tryz.underlying26 rfl size25) ⟨HG1.out.trans' (below_row _ (Nat.le_refl _) _), .inr ⟨by simp [upd], ?_⟩⟩
    rintro A ⟨hc, hl⟩
    have := split_line esc_unesc A
    rw [hl, HPS.out] at this
    cases this
end Go.Proofs.YtglekdhdogjnoaaGreatDoor
