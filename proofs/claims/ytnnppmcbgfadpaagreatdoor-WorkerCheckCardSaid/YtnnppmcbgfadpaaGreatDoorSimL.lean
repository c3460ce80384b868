/- The pattern of append stands for each append. -/
import Derived.Test.YtnnppmcbgfadpaaGreatDoorSimK
namespace Go.Proofs.YtnnppmcbgfadpaaGreatDoor
open Go.RowKit
section
variable {P : Program} {w0 : World} {ρ : Ren} {W w : World}
theorem run_underlying {t : TypeId} {d : TypeDesc} (h : P.underlying t = some d) (w : World) : (underlying t).run P w = .ok d w := by
  unfold underlying
  show (program >>= fun p => _).run P w = _
  rw [Sem.run_bind]
  show (match P.underlying t with | some d => pure d | none => _ : Sem TypeDesc).run P w = _
  rw [h]; rfl
theorem run_typeInfo {t : TypeId} {i : TypeInfo} (h : P.info? t = some i) (w : World) : (typeInfo t).run P w = .ok i w := by
  unfold typeInfo
  rw [Sem.run_bind]
  show (match P.info? t with | some d => pure d | none => _ : Sem TypeInfo).run P w = _
  rw [h]; rfl
theorem run_sizeOf {t : TypeId} {i : TypeInfo} (h : P.info? t = some i) (w : World) : (sizeOf t).run P w = .ok i.size w := by
  unfold sizeOf
  rw [Sem.run_bind, run_typeInfo h]; rfl
theorem appTypes_of {ts : Array TypeId} {e : TypeId} {i : TypeInfo} (h : appTypes P ts = some (e, i)) : AppTypes P ts e i.size ∧ P.info? e = some i := by
  unfold appTypes at h
  split at h
  · rename_i t xt h1 h2
    split at h
    · rename_i e' xd h3 h4
      split at h
      · cases h
      · rename_i hx
        cases hi : P.info? e' with
        | none => rw [hi] at h; cases h
        | some j =>
          rw [hi] at h
          cases h
          exact ⟨⟨⟨t, h1, run_underlying h3⟩, ⟨xt, xd, h2, run_underlying h4, fun k hk => hx k hk⟩, run_sizeOf hi⟩, hi⟩
    · cases h
  · cases h
theorem HR.drawn (h : HR P w0 ρ W w) (n : Nat) : HR P w0 ρ W { w with drawn := n } :=
  ⟨h.dom, h.obj, h.inj, h.own, h.kind, ⟨h.below.os, h.below.tape, h.below.output, h.below.size, h.below.block⟩, h.off0⟩
theorem lenOf_rel {x x' : Value} (hv : VR ρ x x') {pw pw' : PW} {m : Nat} (h : runP P (Builtin.lenOf x) pw = some (m, pw')) : ∀ w, (Builtin.lenOf x').run P w = .ok m w := by
  intro w
  cases hv <;> simp only [Builtin.lenOf] at h ⊢ <;> first | (simp only [pure, runP, Option.some.injEq, Prod.mk.injEq] at h; rw [← h.1]; rfl) | (cases h)
theorem slice_le {base : Option Addr} {n c : Nat} {s' : Value} (h : VR ρ (.slice base n c) s') : ∃ b' c', s' = .slice b' n c' ∧ n ≤ c' := by
  cases h with
  | snil => exact ⟨_, _, rfl, Nat.le_refl _⟩
  | sfresh a' h hs => exact ⟨_, _, rfl, Nat.le_refl _⟩
  | sempty a' c' h hs => exact ⟨_, _, rfl, Nat.zero_le _⟩
  | slice h hs hn hc hcc => exact ⟨_, _, rfl, by rcases hcc with rfl | ⟨h, _⟩ <;> omega⟩
theorem firstNone {x x' : Value} (hv : VR ρ x x') (z : Nat) {pw pw' : PW} {m : Nat} (h : runP P (Builtin.lenOf x) pw = some (m, pw')) (w : World) : (Builtin.firstCells z 0 x').run P w = .ok #[] w := by
  cases hv <;> simp only [Builtin.lenOf] at h <;> first | (cases h; done) | skip
  · rename_i s
    have h0 : (s.extract 0 0).data = #[] := by
      apply Array.eq_empty_of_size_eq_zero
      have : (s.extract 0 0).size = 0 := by simp [ByteArray.size_extract]
      exact this
    show (pure ((s.extract 0 0).data.map fun b => Value.int .u8 b.toNat) : Sem (Array Value)).run P w = _
    rw [h0, Array.map_empty]; rfl
  · rfl
  · unfold Builtin.firstCells; rw [Nat.zero_mul]; rfl
  · unfold Builtin.firstCells; rw [Nat.zero_mul]; rfl
  · unfold Builtin.firstCells; rw [Nat.zero_mul]; rfl
/-- What is read, read again in a world that fits. -/
theorem first_rel {x x' : Value} (hr : HR P w0 ρ W w) {pw pw' : PW} (hrel : Rel pw W) (hv : VR ρ x x') {z m : Nat} {new : Array Value} (hm : ∀ a c, x = .slice a 0 c → m = 0) (h : runP P (Builtin.firstCells z m x) pw = some (new, pw')) :
    ∃ new', (Builtin.firstCells z m x').run P w = .ok new' w ∧ AR ρ new new' := by
  obtain ⟨W', h1, _⟩ := runP_run _ _ _ _ _ h hrel
  obtain ⟨ρ2, a', w', x1, x2, x3, x4, x5⟩ := sim_firstCells (P := P) (w0 := w0) (q := true) z hv m hm ρ (Ren.le_refl _) W w hr new W' h1
  obtain ⟨e1, e2, e3⟩ := x5 rfl
  subst e1; subst e3
  exact ⟨a', x2, x3⟩
theorem len_zero {x : Value} {pw pw' : PW} {m : Nat} (h : runP P (Builtin.lenOf x) pw = some (m, pw')) : ∀ a c, x = .slice a 0 c → m = 0 := by
  rintro a c rfl
  simp only [Builtin.lenOf, pure, runP, Option.some.injEq, Prod.mk.injEq] at h
  exact h.1.symm
theorem ar_oneCell {a a' : Array Value} (h : AR ρ a a') (ho : a.toList.all oneCell = true) : ∀ v ∈ a'.toList, (∀ cs, v ≠ .agg cs) ∧ ∀ cs, v ≠ .tuple cs := by
  intro v hv
  obtain ⟨i, hi⟩ := List.getElem?_of_mem hv
  have hi' : a'[i]? = some v := by simpa using hi
  have hlt : i < a.size := by rw [h.size]; exact (Array.getElem?_eq_some_iff.1 hi').1
  have hg := h.get i a[i] v (Array.getElem?_eq_getElem hlt) hi'
  obtain ⟨n1, n2⟩ := oneCell_agg (List.all_eq_true.1 ho a[i] (by simp))
  exact ⟨hg.notAgg n1, hg.notTuple n2⟩
theorem zeroCells_size (z : Array Value) (n : Nat) : (Builtin.zeroCells z n).size = n * z.size := by
  unfold Builtin.zeroCells; simp
/-- A new row for what is appended. -/
theorem grow_rel {ts : Array TypeId} {ty e : TypeId} {i : TypeInfo} {n c m : Nat} {base' : Option Addr} {x' : Value} {W2 : World} {row new row' new' : Array Value}
    (hr : HR P w0 ρ W w) (hW2 : HR P w0 ρ W2 w) (ht : AppTypes P ts e i.size) (hi : P.info? e = some i) (hl : ∀ w, (Builtin.lenOf x').run P w = .ok m w) (hc : ¬ n + m ≤ c) (hm : m ≠ 0) (hz0 : i.size ≠ 0)
    (h30 : n + m ≤ 2 ^ 30) (hb30 : (n + m) * i.bytes ≤ 2 ^ 30)
    (ho : (Builtin.firstCells i.size n (.slice base' n c)).run P { w with drawn := w.drawn + 1 } = .ok row' { w with drawn := w.drawn + 1 }) (hx : (Builtin.firstCells i.size m x').run P { w with drawn := w.drawn + 1 } = .ok new' { w with drawn := w.drawn + 1 })
    (hro : AR ρ row row') (hnew : AR ρ new new') (hs1 : row.size = n * i.size) (hs2 : new.size = m * i.size) (hzs0 : zeroFits i = true) :
    ∃ ρ' v' w', ρ.le ρ' ∧ (Builtin.append_ ts ty #[.slice base' n c, x']).run P w = .ok v' w' ∧ VR ρ' (.slice (some ⟨W2.heap.size, 0, none⟩) (n + m) (n + m)) v' ∧ HR P w0 ρ' { W2 with heap := W2.heap.push (.cells (row ++ new) e) } w' := by
  obtain ⟨v0, h0, hv0⟩ : ∃ v0, i.zero = some v0 ∧ v0.cells.size = i.size := by
    unfold zeroFits at hzs0
    split at hzs0
    · rename_i v0 h0; exact ⟨v0, h0, by simpa using hzs0⟩
    · cases hzs0
  have hzv : ∀ w, (zeroValue e).run P w = .ok v0 w := by
    intro w
    unfold zeroValue
    rw [Sem.run_bind, run_typeInfo hi]
    show (match i.zero with | some v => pure v | none => _ : Sem Value).run P w = _
    rw [h0]; rfl
  have hcl : c < n + m := by omega
  have hcap := nextcap_le hcl
  have hroom : Builtin.nextslicecap (n + m) c * i.bytes ≤ 2 ^ 48 := by
    have h1 : Builtin.nextslicecap (n + m) c * i.bytes ≤ (2 * (n + m) + 1000) * i.bytes := Nat.mul_le_mul_right _ hcap
    have h2 : i.bytes ≤ (n + m) * i.bytes := Nat.le_mul_of_pos_left _ (by omega)
    have h3 : (2 * (n + m) + 1000) * i.bytes = 2 * ((n + m) * i.bytes) + 1000 * i.bytes := by rw [Nat.add_mul, Nat.mul_assoc]
    omega
  obtain ⟨k, w1, hk, hheap, hos, htape, hout, hrun⟩ := append_grow (ty := ty) ht hl hc (run_typeInfo hi) hzv (by have : IntKind.i64.max = 9223372036854775807 := rfl; omega) hroom ho hx
  have hsz : (row' ++ new' ++ Builtin.zeroCells v0.cells (k - (n + m))).size = k * i.size := by
    rw [Array.size_append, Array.size_append, ← hro.size, ← hnew.size, hs1, hs2, zeroCells_size, hv0, ← Nat.add_mul, ← Nat.add_mul]
    congr 1; omega
  let L : Loc := ⟨w.heap.size, 0, (row ++ new).size, k * i.size, i.size⟩
  have hfree : ρ W2.heap.size = none := by
    cases e : ρ W2.heap.size with
    | none => rfl
    | some M => have := (hW2.dom _ M e).1; omega
  have hle : ρ.le (ρ.add W2.heap.size L) := Ren.le_add _ _ _ hfree
  have hpos : 0 < m * i.size := Nat.mul_pos (by omega) (by omega)
  refine ⟨ρ.add W2.heap.size L, _, w1, hle, hrun, ?_, ?_⟩
  · refine VR.slice (L := L) (Ren.add_same _ _ _) ?_ (Nat.le_refl _) (by omega) ?_
    · show 0 < (row ++ new).size
      rw [Array.size_append, hs2]; omega
    · rcases Nat.lt_or_ge (n + m) k with h | h
      · exact .inr ⟨h, by show 0 + 0 + k * i.size ≤ k * i.size; omega⟩
      · exact .inl (by omega)
  · refine hW2.alloc (L := L) rfl rfl rfl hheap (by simp [liveO]) hos htape hout ?_
    refine .cells (by rw [hsz]) rfl ?_ (fun j hj => by rw [hi] at hj; cases hj; rfl) ?_ (fun k' h1 h2 => by simp at h2) (fun _ => rfl)
    · show 0 + (row ++ new).size ≤ _
      rw [hsz, Array.size_append, hs1, hs2, ← Nat.add_mul, Nat.zero_add]
      exact Nat.mul_le_mul_right _ hk
    · intro j v v' hv hv'
      have hj : j < (row ++ new).size := (Array.getElem?_eq_some_iff.1 hv).1
      have hall : AR ρ (row ++ new) (row' ++ new') := hro.append hnew
      have e : (0 : Nat) + j = j := Nat.zero_add j
      change (row' ++ new' ++ Builtin.zeroCells v0.cells (k - (n + m)))[0 + j]? = some v' at hv'
      rw [e, Array.getElem?_append, if_pos (by rw [← hall.size]; exact hj)] at hv'
      exact (hall.get j v v' hv hv').mono hle
theorem loadCellsFrom_run {a : Addr} (n : Nat) : ∀ (i : Nat) (acc : Array Value) (l : List Value), l.length = n → (∀ j, j < n → W.cell? (a.add (i + j)) = l[j]?) → (loadCellsFrom a i n acc).run P W = .ok (acc ++ l.toArray) W := by
  induction n with
  | zero =>
    intro i acc l hl _
    have : l = [] := List.eq_nil_of_length_eq_zero hl
    subst this
    show (Result.ok acc W : Result (Array Value)) = _
    simp
  | succ n ih =>
    intro i acc l hl h
    cases l with
    | nil => simp at hl
    | cons v l =>
      show (load (a.add i) >>= fun v => loadCellsFrom a (i + 1) n (acc.push v)).run P W = _
      have h0 := h 0 (by omega)
      rw [Nat.add_zero] at h0
      rw [Sem.run_bind, run_load, h0]
      show (loadCellsFrom a (i + 1) n (acc.push v)).run P W = _
      rw [ih (i + 1) (acc.push v) l (by simpa using hl) (fun j hj => by rw [show i + 1 + j = i + (j + 1) by omega, h (j + 1) (by omega)]; rfl)]
      simp
theorem loadRow_run {b : Nat} {row : Array Value} {e : TypeId} {fz : Nat × Nat} (hb : W.heap[b]? = some (.cells row e fz)) : (loadCells ⟨b, 0, none⟩ row.size).run P W = .ok row W := by
  have := loadCellsFrom_run (P := P) (W := W) (a := ⟨b, 0, none⟩) row.size 0 #[] row.toList (by simp) (fun j hj => by
    rw [add_plain]
    unfold World.cell?
    simp only [hb, Option.isSome_none, Bool.false_eq_true, if_false, Array.getElem?_toList, Nat.zero_add])
  unfold loadCells
  simpa using this
theorem AR_two {a b : Value} {args' : Array Value} (h : AR ρ #[a, b] args') : ∃ a' b', args' = #[a', b'] ∧ VR ρ a a' ∧ VR ρ b b' := by
  obtain ⟨l⟩ := args'
  have hs := h.size
  match l, hs with
  | [a', b'], _ => exact ⟨a', b', rfl, h.get 0 a a' rfl rfl, h.get 1 b b' rfl rfl⟩
/-- In place: the row that the pattern gives up is the row that it makes anew. -/
theorem inplace_rel {ts : Array TypeId} {ty e : TypeId} {i : TypeInfo} {n m c' b : Nat} {x' : Value} {L : Loc} {row new new' : Array Value}
    (hr : HR P w0 ρ W w) (ht : AppTypes P ts e i.size) (hi : P.info? e = some i) (hl : ∀ w, (Builtin.lenOf x').run P w = .ok m w) (hfit : n + m ≤ c') (hm : m ≠ 0) (hz0 : i.size ≠ 0)
    (hL : ρ b = some L) (hb : W.heap[b]? = some (.cells row e (0, 0))) (hpos : 0 < row.size) (hroom : L.off + 0 + c' * L.z ≤ L.room)
    (hx : (Builtin.firstCells i.size m x').run P w = .ok new' w) (hnew : AR ρ new new') (hone : new.toList.all oneCell = true) (hs1 : row.size = n * i.size) (hs2 : new.size = m * i.size) :
    ∃ ρ' v' w', ρ.le ρ' ∧ (Builtin.append_ ts ty #[.slice (some ⟨L.blk, L.off + 0, none⟩) n c', x']).run P w = .ok v' w' ∧ VR ρ' (.slice (some ⟨W.heap.size, 0, none⟩) (n + m) (n + m)) v' ∧
      HR P w0 ρ' { W with heap := (W.heap.setIfInBounds b dead).push (.cells (row ++ new) e) } w' := by
  have hlive : liveO (.cells row e (0, 0)) = true := rfl
  obtain ⟨o', ho', hor⟩ := hr.get hb hlive hL
  have h0 := hr.off0 b L hL
  cases hor with
  | cells g1 g2 g3 g4 g5 g6 g7 =>
    rename_i c1 fz
    have hLz : i.size = L.z := g4 i hi
    have hfree : ∀ k, ¬ (fz.1 ≤ k ∧ k < fz.2) := by
      intro k ⟨k1, k2⟩
      have := g6 k (by rw [h0]; omega) (by rw [h0]; omega)
      simp at this
    have hle1 : (n + m) * i.size ≤ c1.size := by
      have : (n + m) * i.size ≤ c' * i.size := Nat.mul_le_mul_right _ hfit
      rw [← hLz, h0] at hroom
      omega
    rw [Nat.add_mul] at hle1
    obtain ⟨w1, c2, s1, s2, s3, s4, s5, s6, s7, s8, s9, s10⟩ := storeCells_row (P := P) L.blk (n * i.size) e fz new'.toList 0 w c1 ho' (fun k _ => hfree k) (by rw [Array.length_toList, ← hnew.size, hs2]; omega) (ar_oneCell hnew hone)
    let M : Loc := ⟨L.blk, 0, (row ++ new).size, L.room, L.z⟩
    have hfr : ρ W.heap.size = none := by
      cases e : ρ W.heap.size with
      | none => rfl
      | some M => have := (hr.dom _ M e).1; omega
    have hle : ρ.le (ρ.add W.heap.size M) := Ren.le_add _ _ _ hfr
    have hpos2 : 0 < m * i.size := Nat.mul_pos (by omega) (by omega)
    have hadd : (⟨L.blk, L.off + 0, none⟩ : Addr).add (n * i.size) = ⟨L.blk, n * i.size, none⟩ := by rw [add_plain, h0]; simp
    refine ⟨ρ.add W.heap.size M, _, w1, hle, append_in (ty := ty) ht hl hfit hx (by rw [hadd]; exact s1), ?_, ?_⟩
    · have : VR (ρ.add W.heap.size M) (.slice (some ⟨W.heap.size, 0, none⟩) (n + m) (n + m)) (.slice (some ⟨M.blk, M.off + 0, none⟩) (n + m) c') := by
        refine VR.slice (L := M) (Ren.add_same _ _ _) ?_ (Nat.le_refl _) (by omega) ?_
        · show 0 < (row ++ new).size
          rw [Array.size_append]; omega
        · rcases Nat.lt_or_ge (n + m) c' with h | h
          · exact .inr ⟨h, by rw [h0] at hroom; exact hroom⟩
          · exact .inl (by omega)
      rw [show L.off + 0 = M.off + 0 by rw [h0]]
      exact this
    · refine hr.renew (o2 := .cells (row ++ new) e) (M := M) (L := L) (d := dead) hb hlive ?_ hL rfl rfl rfl (by simp [liveO]) rfl rfl s2 s3 s4 s5 s6 s7 ?_
      · show (((0 : Nat) == 0) && decide (row.size ≤ 0)) = false
        simp only [beq_self_eq_true, Bool.true_and, decide_eq_false_iff_not]; omega
      · refine .cells (by rw [s8]; exact g1) rfl ?_ (fun j hj => by rw [hi] at hj; cases hj; exact hLz) ?_ (fun k k1 k2 => (hfree (0 + k) ⟨k1, k2⟩).elim) (fun _ => g7 rfl)
        · show 0 + (row ++ new).size ≤ c2.size
          rw [s8, Array.size_append]; omega
        · intro j v v' hv hv'
          change c2[0 + j]? = some v' at hv'
          rw [Nat.zero_add] at hv'
          rw [Array.getElem?_append] at hv
          split at hv
          · rename_i hj
            rw [s9 j (.inl (by omega))] at hv'
            exact (g5 j v v' hv (by rw [h0, Nat.zero_add]; exact hv')).mono hle
          · rename_i hj
            have hj2 : j - row.size < new.size := (Array.getElem?_eq_some_iff.1 hv).1
            have e1 : j = n * i.size + 0 + (j - row.size) := by omega
            rw [e1, s10 (j - row.size) (by rw [Array.length_toList, ← hnew.size]; exact hj2), Array.getElem?_toList] at hv'
            exact (hnew.get _ v v' hv hv').mono hle
/-- Each append is as the pattern's. -/
theorem append_rel {ts : Array TypeId} {ty : TypeId} {args args' : Array Value} (ha : AR ρ args args') {pw pw' : PW} {v : Value} (h : patAppend P ts args pw = some (v, pw')) (hrel : Rel pw W) (hr : HR P w0 ρ W w) :
    ∃ ρ' v' w' W', ρ.le ρ' ∧ (Builtin.append_ ts ty args').run P w = .ok v' w' ∧ VR ρ' v v' ∧ Rel pw' W' ∧ HR P w0 ρ' W' w' := by
  unfold patAppend at h
  split at h
  · rename_i base n c x hargs
    have he : args = #[.slice base n c, x] := by rw [← hargs]
    subst he
    obtain ⟨s', x', rfl, hs, hx⟩ := AR_two ha
    split at h
    · rename_i e i m pw1 hty hlen
      obtain ⟨ht, hi⟩ := appTypes_of hty
      have hl := lenOf_rel hx hlen
      split at h
      · rename_i hm
        subst hm
        cases h
        obtain ⟨b', c', rfl, hn⟩ := slice_le hs
        exact ⟨ρ, _, w, W, Ren.le_refl _, append_none ht hl hn (firstNone hx _ hlen w), hs, hrel, hr⟩
      · rename_i hm
        split at h
        · rename_i new pw2 hnew
          split at h
          · rename_i hc
            obtain ⟨hz1, hz0, hs2, hone, h30, hb30, hlt⟩ := hc
            split at h
            · rename_i w' happ
              cases h
              obtain ⟨new', n1, n2⟩ := first_rel hr hrel hx (len_zero hlen) hnew
              obtain ⟨new'', n3, n4⟩ := first_rel (hr.drawn (w.drawn + 1)) hrel hx (len_zero hlen) hnew
              unfold appRow at happ
              cases base with
              | none =>
                simp only at happ
                split at happ
                · rename_i hc
                  obtain ⟨rfl, rfl⟩ := hc
                  cases happ
                  cases hs
                  obtain ⟨ρ', v', w', g1, g2, g3, g4⟩ := grow_rel (ty := ty) (row := #[]) (row' := #[]) (n := 0) (c := 0) (base' := none) hr hr ht hi hl (by omega) hm hz0 h30 hb30 rfl n3 (AR.nil ρ) n4 (by simp) hs2 hz1
                  rw [Array.empty_append] at g4
                  rw [← hrel.size]
                  exact ⟨ρ', v', w', _, g1, g2, g3, hrel.push hlt _, g4⟩
                · cases happ
              | some a =>
                simp only at happ
                split at happ
                · rename_i row e' fz hb
                  have hbW : W.heap[a.block]? = some (.cells row e' fz) := by rw [hrel.get, hb]
                  split at happ
                  · rename_i hc
                    obtain ⟨rfl, rfl⟩ := hc
                    split at happ
                    · rename_i hc2
                      obtain ⟨k1, rfl, k3⟩ := hc2
                      cases happ
                      have hs' : ∃ a', s' = .slice (some a') 0 0 := by
                        cases hs with
                        | sfresh a' h hs => exact ⟨_, rfl⟩
                        | sempty a' c' h hs =>
                          obtain ⟨o', _, hor⟩ := hr.get hbW rfl h
                          cases hor with
                          | cells g1 g2 g3 g4 g5 g6 g7 => omega
                        | slice h hs hn hc hcc => omega
                      obtain ⟨a', rfl⟩ := hs'
                      obtain ⟨ρ', v', w', g1, g2, g3, g4⟩ := grow_rel (ty := ty) (row := #[]) (row' := #[]) (n := 0) (c := 0) (base' := some a') hr hr ht hi hl (by omega) hm hz0 h30 hb30 (by unfold Builtin.firstCells; rw [Nat.zero_mul]; rfl) n3 (AR.nil ρ) n4 (by simp) hs2 hz1
                      rw [Array.empty_append] at g4
                      rw [← hrel.size]
                      exact ⟨ρ', v', w', _, g1, g2, g3, hrel.push hlt _, g4⟩
                    · cases happ
                  · rename_i hc0
                    split at happ
                    · rename_i hc2
                      obtain ⟨k1, k2, rfl, rfl, k5, k6, rfl⟩ := hc2
                      cases happ
                      obtain ⟨b, o, sp⟩ := a
                      simp only at k1 k2 hbW hb
                      subst k1; subst k2
                      have hblt := PW.get_lt hb
                      have hrel2 := (hrel.set hblt dead).push (o := .cells (row ++ new) e') hlt
                      cases hs with
                      | sfresh a' h hs => exact (hc0 ⟨rfl, rfl⟩).elim
                      | sempty a' c' h hs => exact (hc0 ⟨rfl, rfl⟩).elim
                      | slice hL hs hn hc hcc =>
                        rename_i c' L
                        rw [← hrel.size]
                        by_cases hfit : n + m ≤ c'
                        · rcases hcc with rfl | ⟨_, hroom⟩
                          · omega
                          · obtain ⟨ρ', v', w', g1, g2, g3, g4⟩ := inplace_rel (ty := ty) hr ht hi hl hfit hm hz0 hL hbW k5 hroom n1 n2 hone k6 hs2
                            exact ⟨ρ', v', w', _, g1, g2, g3, hrel2, g4⟩
                        · have hdrop : HR P w0 ρ { W with heap := W.heap.setIfInBounds b dead } w := hr.drop (b := b) (d := dead) rfl rfl rfl
                          have hf : (Builtin.firstCells i.size n (.slice (some ⟨b, 0, none⟩) n n)).run P W = .ok row W := by
                            unfold Builtin.firstCells; rw [← k6]; exact loadRow_run hbW
                          obtain ⟨ρ2, row', w3, x1, x2, x3, x4, x5⟩ := sim_firstCells (P := P) (w0 := w0) (q := true) i.size (VR.slice hL hs hn hc hcc) n (fun a c he => by cases he; rfl) ρ (Ren.le_refl _) W { w with drawn := w.drawn + 1 } (hr.drawn _) row W hf
                          obtain ⟨e1, e2, e3⟩ := x5 rfl
                          subst e1; subst e3
                          obtain ⟨ρ', v', w', g1, g2, g3, g4⟩ := grow_rel (ty := ty) (row := row) (row' := row') hr hdrop ht hi hl hfit hm hz0 h30 hb30 x2 n3 x3 n4 k6 hs2 hz1
                          refine ⟨ρ', v', w', _, g1, g2, ?_, hrel2, g4⟩
                          have e : ({ W with heap := W.heap.setIfInBounds b dead } : World).heap.size = W.heap.size := by simp
                          rw [e] at g3
                          exact g3
                    · cases happ
                · cases happ
            · cases h
          · cases h
        · cases h
    · cases h
  · cases h
end
end Go.Proofs.YtnnppmcbgfadpaaGreatDoor
