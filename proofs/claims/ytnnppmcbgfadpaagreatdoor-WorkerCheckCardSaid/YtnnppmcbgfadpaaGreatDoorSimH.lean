/- Append in a pattern and in what fits it: the pattern makes a new row each time and gives the old one up. -/
import Derived.Test.YtnnppmcbgfadpaaGreatDoorSimG
namespace Go.Proofs.YtnnppmcbgfadpaaGreatDoor
open Go.RowKit
/-- The zero values have their types' sizes. -/
theorem growBy_le (n : Nat) : ∀ r c, c < n → Builtin.growBy n r c ≤ 2 * n + 1000
  | 0, c, h => by unfold Builtin.growBy; omega
  | r + 1, c, h => by
    unfold Builtin.growBy
    split
    · omega
    · by_cases h2 : c + (c + 768) / 4 < n
      · exact growBy_le n r _ h2
      · cases r with
        | zero => unfold Builtin.growBy; omega
        | succ r => unfold Builtin.growBy; rw [if_pos (by omega)]; omega
theorem nextcap_le {n c : Nat} (h : c < n) : Builtin.nextslicecap n c ≤ 2 * n + 1000 := by
  unfold Builtin.nextslicecap
  split
  · omega
  · split
    · omega
    · exact growBy_le n 4 c h
section
variable {P : Program} {w0 : World} {q : Bool} {ρ : Ren} {W w : World}
theorem sim_firstCells (z : Nat) {s s' : Value} (h : VR ρ s s') (n : Nat) (hn : ∀ a c, s = .slice a 0 c → n = 0) : Sim P w0 q ρ AR (Builtin.firstCells z n s) (Builtin.firstCells z n s') := by
  cases h with
  | snil => exact sim_pure fun _ _ => AR.nil _
  | sfresh a h hs => rw [hn _ _ rfl]; unfold Builtin.firstCells; rw [Nat.zero_mul]; exact sim_pure fun _ _ => AR.nil _
  | sempty a c h hs => rw [hn _ _ rfl]; unfold Builtin.firstCells; rw [Nat.zero_mul]; exact sim_pure fun _ _ => AR.nil _
  | slice h hs hn hc hcc => exact sim_loadCells ⟨_, _, _, h, rfl, rfl⟩ _
  | string s =>
    refine sim_pure fun ρ1 _ => ⟨rfl, fun i v v' hv hv' => ?_⟩
    rw [hv] at hv'; cases hv'
    rw [Array.getElem?_map] at hv
    cases hx : ((s.extract 0 n).data)[i]? with
    | none => rw [hx] at hv; cases hv
    | some x => rw [hx] at hv; cases hv; exact .int _ _
  | _ => exact sim_halt
/-- The old row is given up, a new one stands for it (and for what was appended): in the same block of the world, or in a new one. -/
theorem HR.renew (h : HR P w0 ρ W w) {W' w' : World} {b : Nat} {L M : Loc} {o d o2 o2' : Obj} (hb : W.heap[b]? = some o) (hl : liveO o = true) (hro : roO o = false) (hL : ρ b = some L)
    (hd : liveO d = false) (hdd : deadO d = true) (hW : W'.heap = (W.heap.setIfInBounds b d).push o2) (hl2 : liveO o2 = true)
    (hM0 : M.off = 0) (hM : M.blk = L.blk) (hs' : w'.heap.size = w.heap.size) (hw' : w'.heap[L.blk]? = some o2') (hne' : ∀ i, i ≠ L.blk → w'.heap[i]? = w.heap[i]?)
    (hos : w'.os = w.os) (htape : w'.tape = w.tape) (hout : w'.output = w.output) (hor : OR P (ρ.add W.heap.size M) M o2 o2') : HR P w0 (ρ.add W.heap.size M) W' w' := by
  have hfree : ρ W.heap.size = none := by
    cases e : ρ W.heap.size with
    | none => rfl
    | some M => have := (h.dom _ M e).1; omega
  have hle : ρ.le (ρ.add W.heap.size M) := Ren.le_add _ _ _ hfree
  have hblt : b < W.heap.size := (Array.getElem?_eq_some_iff.1 hb).1
  have getW : ∀ i, W'.heap[i]? = if i = W.heap.size then some o2 else if i = b then some d else W.heap[i]? := by
    intro i
    rw [hW, Array.getElem?_push, Array.size_setIfInBounds, Array.getElem?_setIfInBounds]
    by_cases e : i = W.heap.size
    · rw [if_pos e, if_pos e]
    · rw [if_neg e, if_neg e]
      by_cases e2 : b = i
      · rw [if_pos e2, if_pos e2.symm, if_pos (by omega)]
      · rw [if_neg e2, if_neg (fun e => e2 e.symm)]
  have old : ∀ (c : Nat) (x : Obj) (N : Loc), W'.heap[c]? = some x → liveO x = true → (ρ.add W.heap.size M) c = some N → (c = W.heap.size ∧ N = M ∧ x = o2) ∨ (c ≠ W.heap.size ∧ c ≠ b ∧ ρ c = some N ∧ W.heap[c]? = some x) := by
    intro c x N hc hx hN
    rw [getW] at hc
    split at hc
    · rename_i e; subst e; rw [Ren.add_same] at hN; cases hN; cases hc; exact .inl ⟨rfl, rfl, rfl⟩
    · rename_i e
      split at hc
      · cases hc; rw [hd] at hx; cases hx
      · rename_i e2
        rw [Ren.add_ne _ _ _ _ e] at hN
        exact .inr ⟨e, e2, hN, hc⟩
  have off0 : ∀ c N, (ρ.add W.heap.size M) c = some N → N.off = 0 := by
    intro c N hc
    by_cases e : c = W.heap.size
    · subst e; rw [Ren.add_same] at hc; cases hc; exact hM0
    · rw [Ren.add_ne _ _ _ _ e] at hc; exact h.off0 c N hc
  refine ⟨?_, ?_, ?_, ?_, ?_, ?_, off0⟩
  · intro c N hc
    rw [hW, Array.size_push, Array.size_setIfInBounds, hs']
    by_cases e : c = W.heap.size
    · subst e; rw [Ren.add_same] at hc; cases hc
      have := (h.dom b L hL).2; omega
    · rw [Ren.add_ne _ _ _ _ e] at hc
      have := h.dom c N hc; omega
  · intro c x hc hx
    rw [getW] at hc
    split at hc
    · rename_i e; subst e; cases hc
      exact ⟨M, o2', Ren.add_same _ _ _, by rw [hM]; exact hw', hor⟩
    · split at hc
      · cases hc; rw [hd] at hx; cases hx
      · rename_i e e2
        obtain ⟨N, x', h1, h2, h3⟩ := h.obj c x hc hx
        refine ⟨N, x', hle _ _ h1, ?_, h3.mono hle⟩
        rw [hne']
        · exact h2
        · intro e'; exact e2 (h.inj c b x o N L hc hx hb hl h1 hL e')
  · intro c d2 x y N K hc hx hd2 hy hN hK e
    rcases old c x N hc hx hN with ⟨e1, rfl, _⟩ | ⟨e1, e2, e3, e4⟩ <;> rcases old d2 y K hd2 hy hK with ⟨f1, rfl, _⟩ | ⟨f1, f2, f3, f4⟩
    · rw [e1, f1]
    · exact (f2 (h.inj d2 b y o K L f4 hy hb hl f3 hL (by rw [← e, hM]))).elim
    · exact (e2 (h.inj c b x o N L e4 hx hb hl e3 hL (by rw [e, hM]))).elim
    · exact h.inj c d2 x y N K e4 hx f4 hy e3 f3 e
  · intro c x N hc hx hr hN
    rcases old c x N hc hx hN with ⟨e1, rfl, _⟩ | ⟨e1, e2, e3, e4⟩
    · rw [hM]; exact h.own b o L hb hl hro hL
    · exact h.own c x N e4 hx hr e3
  · intro c x hc
    rw [getW] at hc
    split at hc
    · cases hc; exact .inl hl2
    · split at hc
      · cases hc; exact .inr hdd
      · exact h.kind c x hc
  · have hge := h.own b o L hb hl hro hL
    exact ⟨hos.trans h.below.os, htape.trans h.below.tape, hout.trans h.below.output, by rw [hs']; exact h.below.size, fun k hk => (hne' k (by omega)).trans (h.below.block k hk)⟩
/-- A block is given up. -/
theorem HR.drop (h : HR P w0 ρ W w) {W' : World} {b : Nat} {d : Obj} (hd : liveO d = false) (hdd : deadO d = true) (hW : W'.heap = W.heap.setIfInBounds b d) : HR P w0 ρ W' w := by
  have getW : ∀ i, W'.heap[i]? = if b = i then (if i < W.heap.size then some d else none) else W.heap[i]? := by
    intro i; rw [hW, Array.getElem?_setIfInBounds]; split <;> rename_i e
    · subst e; rfl
    · rfl
  have old : ∀ (c : Nat) (x : Obj), W'.heap[c]? = some x → liveO x = true → W.heap[c]? = some x := by
    intro c x hc hx
    rw [getW] at hc
    split at hc
    · split at hc
      · cases hc; rw [hd] at hx; cases hx
      · cases hc
    · exact hc
  refine ⟨?_, ?_, ?_, ?_, ?_, h.below, h.off0⟩
  · intro c N hc; rw [hW, Array.size_setIfInBounds]; exact h.dom c N hc
  · intro c x hc hx; exact h.obj c x (old c x hc hx) hx
  · intro c d2 x y N K hc hx hd2 hy hN hK e; exact h.inj c d2 x y N K (old c x hc hx) hx (old d2 y hd2 hy) hy hN hK e
  · intro c x N hc hx hr hN; exact h.own c x N (old c x hc hx) hx hr hN
  · intro c x hc
    rw [getW] at hc
    split at hc
    · split at hc
      · cases hc; exact .inr hdd
      · cases hc
    · exact h.kind c x hc
end
end Go.Proofs.YtnnppmcbgfadpaaGreatDoor
