/- Operations: pointers held against each other, unsafe.Pointer, bytes as strings. -/
import Derived.Test.YtnnppmcbgfadpaaGreatDoorSimN
namespace Go.Proofs.YtnnppmcbgfadpaaGreatDoor
open Go.RowKit
section
variable {P : Program} {w0 : World} {q : Bool} {ρ : Ren} {W w : World} {pw pw' : PW}
theorem equal_ptr {t e : TypeId} (hu : P.underlying t = some (.pointer e)) (a b : Option Addr) (w : World) : (Op.equal t (.pointer a) (.pointer b)).run P w =
    ((match a, b with
      | none, b => (pure b.isNone : Sem Bool)
      | some _, none => pure false
      | some a, some b => do
        if (← sizeOf e) ≠ 0 then sameAddr a b
        else if a == b then pure true
        else pure ((← choose .zeroSizeEq) = 1)) : Sem Bool).run P w := by
  unfold Op.equal Op.maxDepth
  conv => lhs; unfold Op.equalIn
  rw [Sem.run_bind, run_underlying hu, Result.andThen_ok]
  cases a <;> cases b <;> rfl
theorem addr_beq (b o o' : Nat) (L : Loc) : ((⟨b, o, none⟩ : Addr) == ⟨b, o', none⟩) = ((⟨L.blk, L.off + o, none⟩ : Addr) == ⟨L.blk, L.off + o', none⟩) := by
  rw [Bool.eq_iff_iff]
  simp only [beq_iff_eq, Addr.mk.injEq, true_and, and_true]
  omega
theorem ptrEq_rel {t : TypeId} {x x' y y' : Value} {b : Bool} (hx : VR ρ x x') (hy : VR ρ y y') (h : patPtrEq P t x y = some b) (w : World) : (Op.equal t x' y').run P w = .ok b w := by
  unfold patPtrEq at h
  split at h
  · rename_i e hu
    cases hx with
    | pnil =>
      cases hy with
      | pnil => cases h; rw [equal_ptr hu]; rfl
      | ptr hb => cases h; rw [equal_ptr hu]; rfl
      | _ => cases h
    | ptr ha =>
      cases hy with
      | pnil => cases h; rw [equal_ptr hu]; rfl
      | ptr hb =>
        rename_i ba oa La bb ob Lb
        simp only at h
        split at h
        · rename_i i hi
          split at h
          · rename_i hc
            obtain ⟨hc, hn⟩ := hc
            subst hc
            rw [ha] at hb; cases hb
            cases h
            rw [equal_ptr hu]
            simp only [Sem.run_bind, run_sizeOf hi, Result.andThen_ok]
            rw [if_pos hn, addr_beq _ _ _ La]
            unfold sameAddr
            simp only [beq_self_eq_true, if_true]
            rfl
          · cases h
        · cases h
      | _ => cases h
    | _ => cases h
  · cases h
theorem eqGuard_ptr (op : BinOp) (t : TypeId) (ox oy : Operand) (a b : Option Addr) (w : World) : (eqGuard op t ox oy (.pointer a) (.pointer b)).run P w = .ok () w := by
  unfold eqGuard
  split <;> rfl
theorem ptr_of {t : TypeId} {x x' y y' : Value} {b : Bool} (hx : VR ρ x x') (hy : VR ρ y y') (h : patPtrEq P t x y = some b) : ∃ a c, x' = .pointer a ∧ y' = .pointer c := by
  unfold patPtrEq at h
  split at h
  · cases hx <;> cases hy <;> first | (cases h; done) | exact ⟨_, _, rfl, rfl⟩
  · cases h
/-- Plain operands are the same in both. -/
theorem pQuick_rel {p : Bool} {m : Sem Value} {nx : Next} (h : pQuick P m pw = some (nx, pw')) (hrel : Rel pw W) (hr : HR P w0 ρ W w) : Good P w0 ρ p nx pw' w (do pure (.value (← m))) := by
  unfold pQuick at h
  split at h
  · rename_i v hq
    split at h
    · rename_i hp
      cases h
      exact good_same (v' := v) (by rw [Sem.run_bind, quick_run _ _ hq]; rfl) (plain_refl hp ρ) hrel hr
    · cases h
  · cases h
theorem pBin_rel {p : Bool} {op : BinOp} {t : TypeId} {ox oy : Operand} {x x' y y' : Value} {nx : Next} (hx : VR ρ x x') (hy : VR ρ y y') (h : pBin P op t ox oy x y pw = some (nx, pw')) (hrel : Rel pw W) (hr : HR P w0 ρ W w) :
    Good P w0 ρ p nx pw' w (do pure (.value (← (do eqGuard op t ox oy x' y'; binOp op t x' y')))) := by
  unfold pBin at h
  split at h
  · rename_i hp
    simp only [Bool.and_eq_true] at hp
    rw [plain_eq 3 _ _ hp.1 hx, plain_eq 3 _ _ hp.2 hy]
    exact pQuick_rel h hrel hr
  · split at h
    · cases he : patPtrEq P t x y with
      | none => rw [he] at h; cases h
      | some b =>
        rw [he] at h; cases h
        obtain ⟨a, c, rfl, rfl⟩ := ptr_of hx hy he
        refine good_same (v' := .bool b) ?_ (.bool b) hrel hr
        have := ptrEq_rel hx hy he w
        simp only [Sem.run_bind, eqGuard_ptr, Result.andThen_ok]
        have e : binOp .eql t (.pointer a) (.pointer c) = (do pure (.bool (← Op.equal t (.pointer a) (.pointer c)))) := by cases a <;> cases c <;> rfl
        rw [e, Sem.run_bind, this]; rfl
    · cases he : patPtrEq P t x y with
      | none => rw [he] at h; cases h
      | some b =>
        rw [he] at h; cases h
        obtain ⟨a, c, rfl, rfl⟩ := ptr_of hx hy he
        refine good_same (v' := .bool !b) ?_ (.bool _) hrel hr
        have := ptrEq_rel hx hy he w
        simp only [Sem.run_bind, eqGuard_ptr, Result.andThen_ok]
        have e : binOp .neq t (.pointer a) (.pointer c) = (do pure (.bool (!(← Op.equal t (.pointer a) (.pointer c))))) := by cases a <;> cases c <;> rfl
        rw [e, Sem.run_bind, this]; rfl
    · cases h
theorem rowAt_mono {fits : TypeId → Bool} : ∀ (d : Nat) (e : TypeId) (c c' off n : Nat), c ≤ c' → rowAt P fits d e c off n = true → rowAt P fits d e c' off n = true
  | 0, _, _, _, _, _, _, h => by cases h
  | d + 1, e, c, c', off, n, hc, h => by
    unfold rowAt at h ⊢
    simp only at h ⊢
    split at h
    · cases h
    · rename_i hs
      rw [if_neg hs]
      simp only [Bool.or_eq_true, Bool.and_eq_true, decide_eq_true_eq] at h ⊢
      rcases h with ⟨⟨h1, h2⟩, h3⟩ | ⟨h1, h2⟩
      · exact .inl ⟨⟨h1, by omega⟩, h3⟩
      · exact .inr ⟨by omega, h2⟩
theorem liesAt_mono : ∀ (d : Nat) (e : TypeId) (c c' off : Nat) (u : TypeId) (n : Nat), c ≤ c' → liesAt P d e c off u n = true → liesAt P d e c' off u n = true
  | 0, _, _, _, _, _, _, _, h => by cases h
  | d + 1, e, c, c', off, u, n, hc, h => by
    unfold liesAt at h ⊢
    simp only [Bool.or_eq_true] at h ⊢
    rcases h with h | h
    · exact .inl (rowAt_mono _ _ _ _ _ _ hc h)
    · refine .inr ?_
      split at h
      · exact liesAt_mono d e c c' off _ _ hc h
      · cases h
/-- A live row of the pattern, and the row of the world. -/
theorem live_rel {b : Nat} {c : Array Value} {e : TypeId} {L : Loc} (hb : liveRow pw b = some (c, e)) (hL : ρ b = some L) (hrel : Rel pw W) (hr : HR P w0 ρ W w) : ∃ c' fz, w.heap[L.blk]? = some (.cells c' e fz) ∧ c.size ≤ c'.size ∧ L.off = 0 := by
  unfold liveRow at hb
  split at hb
  · rename_i cc ee lo hi hg
    split at hb
    · rename_i hle
      cases hb
      have hw : W.heap[b]? = some (.cells c e (lo, hi)) := by rw [hrel.get, hg]
      obtain ⟨o', ho', hor⟩ := hr.get hw (by simpa [liveO] using hle) hL
      have h0 := hr.off0 b L hL
      cases hor with
      | cells h1 h2 h3 h4 h5 h6 h7 => exact ⟨_, _, ho', by omega, h0⟩
    · cases hb
  · cases hb
theorem shape_run {r : Nat} {c : Array Value} {e : TypeId} {fz : Nat × Nat} (h : w.heap[r]? = some (.cells c e fz)) : (shape r).run P w = .ok (some (e, c.size)) w := by
  show (Result.ok (w.shape? r) w : Result _) = _
  unfold World.shape?
  rw [h]
theorem viewAt_run {r : Nat} {c : Array Value} {e : TypeId} {fz : Nat × Nat} (h : w.heap[r]? = some (.cells c e fz)) : (viewAt r).run P w = .ok none w := by
  unfold viewAt
  rw [Sem.run_bind, shape_run h]
  rfl
theorem seenAt_run {a : Addr} {c : Array Value} {e : TypeId} {fz : Nat × Nat} (h : w.heap[a.block]? = some (.cells c e fz)) : (Conv.seenAt a).run P w = .ok a w := by
  unfold Conv.seenAt
  rw [Sem.run_bind, viewAt_run h]
  rfl
theorem cellsIn_run {r : Nat} {c : Array Value} {e : TypeId} {fz : Nat × Nat} (h : w.heap[r]? = some (.cells c e fz)) : (cellsIn r).run P w = .ok (some c.size) w := by
  unfold cellsIn
  rw [Sem.run_bind, shape_run h]
  rfl
theorem variablesAt_run {a : Addr} {u : TypeId} {n : Nat} {c : Array Value} {e : TypeId} {fz : Nat × Nat} (h : w.heap[a.block]? = some (.cells c e fz)) : (variablesAt a u n).run P w = .ok (liesAt P P.depth e (c.size / P.cellsOf e) a.off u n) w := by
  unfold variablesAt
  rw [Sem.run_bind]
  show ((shape a.block >>= _).run P w) = _
  rw [Sem.run_bind, shape_run h]
  rfl
theorem convert_ptr {s d t : TypeId} (hs : P.underlying s = some (.pointer t)) (hd : P.underlying d = some .unsafePointer) (a : Addr) (w : World) : (convert s d (.pointer (some a))).run P w = (Conv.unsafePointer s d (.pointer (some a))).run P w := by
  unfold convert
  rw [Sem.run_bind, run_underlying hs, Result.andThen_ok, Sem.run_bind, run_underlying hd, Result.andThen_ok]
theorem convert_back {s d u : TypeId} (hs : P.underlying s = some .unsafePointer) (hd : P.underlying d = some (.pointer u)) (a : Addr) (w : World) : (convert s d (.pointer (some a))).run P w = (Conv.unsafePointer s d (.pointer (some a))).run P w := by
  unfold convert
  rw [Sem.run_bind, run_underlying hs, Result.andThen_ok, Sem.run_bind, run_underlying hd, Result.andThen_ok]
theorem plain0_all {cs cs' : Array Value} (h : AR ρ cs cs') (hp : cs.toList.all (plainV 0) = true) : cs' = cs := by
  apply Array.ext
  · exact h.size.symm
  · intro i h1 h2
    exact plain_eq 0 _ _ (List.all_eq_true.1 hp cs[i] (by simp)) (h.get i cs[i] cs'[i] (Array.getElem?_eq_getElem h2) (Array.getElem?_eq_getElem h1))
theorem bytes_eq (a : Addr) (n c : Nat) : Conv.bytesToString (.slice (some a) n c) = loadCells a n >>= bytesLoop := rfl
theorem convert_bytes {s d e : TypeId} (hs : P.underlying s = some (.slice e)) (hd : P.underlying d = some .string) (he : P.underlying e = some (.int .u8)) (a : Addr) (n c : Nat) (w : World) : (convert s d (.slice (some a) n c)).run P w = (loadCells a n >>= bytesLoop).run P w := by
  unfold convert
  rw [Sem.run_bind, run_underlying hs, Result.andThen_ok, Sem.run_bind, run_underlying hd, Result.andThen_ok]
  show (underlying e >>= _).run P w = _
  rw [Sem.run_bind, run_underlying he, Result.andThen_ok]
  rfl
theorem pConv_rel {p : Bool} {s d : TypeId} {x x' : Value} {nx : Next} (hx : VR ρ x x') (h : pConv P s d x pw = some (nx, pw')) (hrel : Rel pw W) (hr : HR P w0 ρ W w) :
    Good P w0 ρ p nx pw' w (do pure (.value (← convert s d x'))) := by
  unfold pConv at h
  split at h
  · rename_i hp
    rw [plain_eq 3 _ _ hp hx]
    exact pQuick_rel h hrel hr
  · cases he : patConv P s d x pw with
    | none => rw [he] at h; cases h
    | some v =>
      rw [he] at h; cases h
      unfold patConv at he
      split at he
      · rename_i t a hs hd hnp
        split at he
        · rename_i c e i hl hi
          split at he
          · rename_i hc
            obtain ⟨h1, h2, h3⟩ := hc
            cases he
            cases hx with
            | ptr hL =>
              rename_i b o L
              obtain ⟨c', fz, g1, g2, g3⟩ := live_rel hl hL hrel hr
              refine good_same (v' := .pointer (some ⟨L.blk, L.off + o, none⟩)) ?_ (.ptr hL) hrel hr
              rw [Sem.run_bind, convert_ptr hs hd]
              unfold Conv.unsafePointer
              rw [Sem.run_bind, run_underlying hs, Result.andThen_ok, Sem.run_bind, run_underlying hd, Result.andThen_ok]
              have e1 : (Conv.seenAt ⟨L.blk, L.off + o, none⟩).run P w = .ok ⟨L.blk, L.off + o, none⟩ w := seenAt_run g1
              have e2 : (cellsIn L.blk).run P w = .ok (some c'.size) w := cellsIn_run g1
              simp only [Sem.run_bind, e1, e2, run_sizeOf hi, Result.andThen_ok]
              simp only at h2
              have h4 : ¬ (c'.size ≤ L.off + o) := by omega
              simp [h3, h4]
          · cases he
        · cases he
      · rename_i u a hs hd hnp
        split at he
        · rename_i c e i hl hi
          split at he
          · rename_i hc
            obtain ⟨h1, h2⟩ := hc
            cases he
            cases hx with
            | ptr hL =>
              rename_i b o L
              obtain ⟨c', fz, g1, g2, g3⟩ := live_rel hl hL hrel hr
              refine good_same (v' := .pointer (some ⟨L.blk, L.off + o, none⟩)) ?_ (.ptr hL) hrel hr
              rw [Sem.run_bind, convert_back hs hd]
              unfold Conv.unsafePointer
              rw [Sem.run_bind, run_underlying hs, Result.andThen_ok, Sem.run_bind, run_underlying hd, Result.andThen_ok]
              have e1 : (Conv.seenAt ⟨L.blk, L.off + o, none⟩).run P w = .ok ⟨L.blk, L.off + o, none⟩ w := seenAt_run g1
              have e2 : (variablesAt ⟨L.blk, L.off + o, none⟩ u 1).run P w = .ok true w := by
                rw [variablesAt_run g1]
                simp only at h2
                rw [show L.off + o = o by omega, liesAt_mono _ _ _ _ _ _ _ (Nat.div_le_div_right g2) h2]
              simp only [Sem.run_bind, e1, Result.andThen_ok, run_sizeOf hi, e2, Bool.or_true, if_true]
              rfl
          · cases he
        · cases he
      · rename_i e a n c hs hd hnp
        split at he
        · rename_i hu
          split at he
          · cases he
          · rename_i hn
            split at he
            · rename_i cs pw1 hrun
              split at he
              · rename_i hp
                split at he
                · rename_i u hq
                  split at he
                  · rename_i hpv
                    cases he
                    cases hx with
                    | sfresh => exact (hn rfl).elim
                    | sempty => exact (hn rfl).elim
                    | slice hL hs' hn' hc hcc =>
                      rename_i b o c' L
                      obtain ⟨W', r1, r2⟩ := runP_run _ _ _ _ _ hrun hrel
                      obtain ⟨ρ2, cs', w', x1, x2, x3, x4, x5⟩ := sim_loadCells (P := P) (w0 := w0) (q := true) (ρ := ρ) ⟨_, _, _, hL, rfl, rfl⟩ n ρ (Ren.le_refl _) W w hr cs W' r1
                      obtain ⟨e1, e2, e3⟩ := x5 rfl
                      subst e1; subst e3
                      have := plain0_all x3 hp
                      subst this
                      refine good_same (v' := v) ?_ (plain_refl hpv _) hrel hr
                      rw [Sem.run_bind, convert_bytes hs hd hu, Sem.run_bind, x2, Result.andThen_ok, quick_run _ _ hq]
                      rfl
                  · cases he
                · cases he
              · cases he
            · cases he
        · cases he
      · cases he
end
end Go.Proofs.YtnnppmcbgfadpaaGreatDoor
