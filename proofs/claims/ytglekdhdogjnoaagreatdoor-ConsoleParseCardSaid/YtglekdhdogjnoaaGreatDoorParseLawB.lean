/- The reader of parts, as plain data: what an input is read as, and that the line of an input is read as it. -/
import Derived.Test.YtglekdhdogjnoaaGreatDoorParseLaw
import Derived.Test.YtglekdhdogjnoaaGreatDoorLineLaw
namespace Go.Proofs.YtglekdhdogjnoaaGreatDoor
open Go.RowKit
structure Rd where
  parts : List PPart
  wrong : Bool
def Rd.next (r : Rd) (q : Bool) : ByteArray × Rd :=
  match r.parts with
  | p :: ps => if p.quoted = q then (p.text, ⟨ps, r.wrong⟩) else (⟨#[]⟩, ⟨p :: ps, true⟩)
  | [] => (⟨#[]⟩, ⟨[], true⟩)
/-- What strconv.Atoi answers: the number, and whether there is no error. -/
def atoiV (s : ByteArray) : Int × Bool :=
  match Lib.atoiAll s.data.toList with
  | .ok v => (v, true)
  | .range => (Lib.atoiSat s.data.toList, false)
  | _ => (0, false)
def Rd.number (r : Rd) : Int × Rd := ((atoiV (r.next false).1).1, ⟨(r.next false).2.parts, (r.next false).2.wrong || !(atoiV (r.next false).1).2⟩)
def Rd.quotedNext (r : Rd) : Bool := !r.wrong && (match r.parts with | p :: _ => p.quoted | [] => false)
/-- The files that follow, where nothing was wrong. -/
def filesF : List PPart → List File × Rd
  | p :: q :: ps =>
    if p.quoted then (if q.quoted then ((p.text, q.text) :: (filesF ps).1, (filesF ps).2) else ([(p.text, ⟨#[]⟩)], ⟨q :: ps, true⟩))
    else ([], ⟨p :: q :: ps, false⟩)
  | [p] => if p.quoted then ([(p.text, ⟨#[]⟩)], ⟨[], true⟩) else ([], ⟨[p], false⟩)
  | [] => ([], ⟨[], false⟩)
def Rd.files (r : Rd) : List File × Rd := if r.wrong then ([], r) else filesF r.parts
def picksF : List PPart → List Int × Rd
  | [] => ([], ⟨[], false⟩)
  | p :: ps => if ((Rd.mk (p :: ps) false).number).2.wrong then ([((Rd.mk (p :: ps) false).number).1], ((Rd.mk (p :: ps) false).number).2) else (((Rd.mk (p :: ps) false).number).1 :: (picksF ps).1, (picksF ps).2)
def Rd.picks (r : Rd) : List Int × Rd := if r.wrong then ([], r) else picksF r.parts
def act0 (k : Int) : PAct := ⟨k, ⟨#[]⟩, 0, 0, 0, 0, [], []⟩
/-- What the form of a kind reads. -/
def readP (k : Int) (r : Rd) : PAct × Rd :=
  if k = 1 then
    let (who, r1) := r.next true
    let (p, r2) := r1.number
    let (a, r3) := r2.number
    let (fs, r4) := r3.files
    (⟨k, who, 0, p, a, 0, fs, []⟩, r4)
  else if k = 2 ∨ k = 7 then
    let (who, r1) := r.next true
    let (c, r2) := r1.number
    (⟨k, who, c, 0, 0, 0, [], []⟩, r2)
  else if k = 4 then
    let (ns, r1) := r.picks
    (⟨k, ⟨#[]⟩, 0, 0, 0, 0, [], ns⟩, r1)
  else if k = 5 ∨ k = 8 then
    let (c, r1) := r.number
    (⟨k, ⟨#[]⟩, 0, 0, 0, c, [], []⟩, r1)
  else if k = 6 then
    let (who, r1) := r.next true
    let (c, r2) := r1.number
    let (a, r3) := r2.number
    (⟨k, who, 0, 0, a, c, [], []⟩, r3)
  else (act0 k, r)
def fileParts (f : File) : List PPart := [⟨true, f.1⟩, ⟨true, f.2⟩]
def numPart (n : Int) : PPart := ⟨false, itoaS n⟩
def restParts (A : PAct) : List PPart :=
  if A.kind = 1 then [⟨true, A.who⟩, numPart A.priority, numPart A.at_] ++ A.files.flatMap fileParts
  else if A.kind = 2 ∨ A.kind = 7 then [⟨true, A.who⟩, numPart A.change]
  else if A.kind = 4 then A.picks.map numPart
  else if A.kind = 5 ∨ A.kind = 8 then [numPart A.count]
  else if A.kind = 6 then [⟨true, A.who⟩, numPart A.count, numPart A.at_]
  else []
theorem enc_files (fs : List File) : ((fs.flatMap fileParts).flatMap fun q => 32 :: encP q) = filesL fs := by
  induction fs with
  | nil => rfl
  | cons f fs ih =>
    rw [List.flatMap_cons, List.flatMap_append, ih]
    simp [filesL, fileParts, encP]
theorem enc_nums (xs : List Int) : ((xs.map numPart).flatMap fun q => 32 :: encP q) = numsL xs := by
  induction xs with
  | nil => rfl
  | cons f fs ih =>
    rw [List.map_cons, List.flatMap_cons, ih]
    simp [numsL, numPart, encP, itoaS, S_list]
theorem line_parts (A : PAct) : lineL A = joinP (⟨false, S (wordL A.kind)⟩ :: restParts A) := by
  rw [joinP, lineL, restParts]
  simp only [encP, Bool.false_eq_true, if_false, S_list]
  split
  · rw [List.flatMap_append]
    have := enc_files A.files
    simp only [encP] at this
    rw [this]
    simp [numsL, numPart, itoaS, S_list]
  split
  · simp [numsL, numPart, itoaS, S_list]
  split
  · have := enc_nums A.picks
    simp only [encP] at this
    rw [this]
  split
  · simp [numsL, numPart, itoaS, S_list]
  split
  · simp [numsL, numPart, itoaS, S_list]
  · simp
theorem good_num (n : Int) : GoodP (numPart n) := by
  intro _
  simp only [numPart, itoaS, S_list]
  constructor
  · intro c hc
    rcases itoa_mem n c hc with rfl | h
    · decide
    · simp [notSp]; omega
  · intro c hc
    rcases itoa_mem n c (List.mem_of_mem_head? hc) with rfl | h
    · decide
    · omega
theorem good_word (k : Int) : GoodP ⟨false, S (wordL k)⟩ := by
  intro _
  simp only [S_list]
  unfold wordL
  repeat' split
  all_goals exact ⟨by decide, by decide⟩
theorem good_rest (A : PAct) : ∀ q ∈ restParts A, GoodP q := by
  have gt : ∀ t, GoodP ⟨true, t⟩ := fun t h => by simp at h
  unfold restParts
  repeat' split
  · intro q hq
    simp only [List.mem_append, List.mem_cons, List.not_mem_nil, or_false, List.mem_flatMap, fileParts] at hq
    rcases hq with (rfl | rfl | rfl) | ⟨f, _, rfl | rfl⟩
    all_goals first | exact gt _ | exact good_num _
  · intro q hq
    simp only [List.mem_cons, List.not_mem_nil, or_false] at hq
    rcases hq with rfl | rfl
    all_goals first | exact gt _ | exact good_num _
  · intro q hq
    simp only [List.mem_map] at hq
    obtain ⟨n, _, rfl⟩ := hq
    exact good_num _
  · intro q hq
    simp only [List.mem_cons, List.not_mem_nil, or_false] at hq
    subst hq; exact good_num _
  · intro q hq
    simp only [List.mem_cons, List.not_mem_nil, or_false] at hq
    rcases hq with rfl | rfl | rfl
    all_goals first | exact gt _ | exact good_num _
  · intro q hq; simp at hq
theorem split_line {e : List UInt8 → Option (UInt8 × Nat)} (he : Esc e) (A : PAct) : splitF e ((lineL A).length + 1) (lineL A) = some (⟨false, S (wordL A.kind)⟩ :: restParts A) := by
  have hlen : ∀ ps : List PPart, ps.length ≤ (ps.flatMap fun q => 32 :: encP q).length := by
    intro ps
    induction ps with
    | nil => simp
    | cons p ps ih => simp only [List.flatMap_cons, List.length_append, List.length_cons]; omega
  have h := split_enc he ⟨false, S (wordL A.kind)⟩ (restParts A) ((lineL A).length + 1) (good_word _) (good_rest A) (by
    rw [line_parts, joinP, List.length_append]; have := hlen (restParts A); omega)
  rw [← line_parts] at h
  exact h
/-! ### What was written is read -/
theorem atoi_num (n : Int) (h : largeB n = false) : atoiV (itoaS n) = (n, true) := by
  simp only [largeB, Bool.or_eq_false_iff, decide_eq_false_iff_not] at h
  unfold atoiV itoaS
  rw [S_list, atoi_itoa n (by omega) (by omega)]
theorem read_num (n : Int) (ps : List PPart) (h : largeB n = false) (w : Bool) : (Rd.mk (numPart n :: ps) w).number = (n, ⟨ps, w⟩) := by
  simp [Rd.number, Rd.next, numPart, atoi_num n h]
theorem read_text (t : ByteArray) (ps : List PPart) (w : Bool) : (Rd.mk (⟨true, t⟩ :: ps) w).next true = (t, ⟨ps, w⟩) := by
  simp [Rd.next]
theorem read_files (fs : List File) : filesF (fs.flatMap fileParts) = (fs, ⟨[], false⟩) := by
  induction fs with
  | nil => rfl
  | cons f fs ih =>
    simp only [List.flatMap_cons, fileParts, List.cons_append, List.nil_append, filesF, if_true]
    rw [ih]
theorem read_picks (xs : List Int) (h : xs.any largeB = false) : picksF (xs.map numPart) = (xs, ⟨[], false⟩) := by
  induction xs with
  | nil => rfl
  | cons x xs ih =>
    simp only [List.any_cons, Bool.or_eq_false_iff] at h
    rw [List.map_cons, picksF, read_num x _ h.1, ih h.2]
    simp
theorem ba_empty (b : ByteArray) (h : b.toList.isEmpty = true) : b = ⟨#[]⟩ := by
  rw [List.isEmpty_iff, ByteArray.toList_eq] at h
  rw [← S_of b, h]; rfl
/-- A field that a kind does not mention is nought. -/
structure NoExtra (A : PAct) : Prop where
  who : A.kind ≠ 1 → A.kind ≠ 2 → A.kind ≠ 6 → A.kind ≠ 7 → A.who = ⟨#[]⟩
  change : A.kind ≠ 2 → A.kind ≠ 7 → A.change = 0
  priority : A.kind ≠ 1 → A.priority = 0
  at_ : A.kind ≠ 1 → A.kind ≠ 6 → A.at_ = 0
  count : A.kind ≠ 5 → A.kind ≠ 6 → A.kind ≠ 8 → A.count = 0
  files : A.kind ≠ 1 → A.files = []
  picks : A.kind ≠ 4 → A.picks = []
theorem noExtra (A : PAct) (h : xB A = false) : NoExtra A := by
  simp only [xB, extraB, Bool.or_eq_false_iff] at h
  obtain ⟨⟨⟨⟨⟨⟨h1, h2⟩, h3⟩, h4⟩, h5⟩, h6⟩, h7⟩ := h
  refine ⟨fun a b c d => ?_, fun a b => ?_, fun a => ?_, fun a b => ?_, fun a b c => ?_, fun a => ?_, fun a => ?_⟩
  · refine ba_empty _ ?_
    cases hw : A.who.toList.isEmpty
    · simp [extra1, hw, a, b, c, d] at h1
    · rfl
  · by_cases hc : A.change = 0
    · exact hc
    · simp [extra2, hc, a, b] at h2
  · by_cases hc : A.priority = 0
    · exact hc
    · simp [extra3, hc, a] at h3
  · by_cases hc : A.at_ = 0
    · exact hc
    · simp [extra4, hc, a, b] at h4
  · by_cases hc : A.count = 0
    · exact hc
    · simp [extra5, hc, a, b, c] at h5
  · cases hp : A.files with
    | nil => rfl
    | cons x xs => simp [extra6, hp, a] at h6
  · cases hp : A.picks with
    | nil => rfl
    | cons x xs => simp [extra7, hp, a] at h7
structure Fine (A : PAct) : Prop where
  k1 : 1 ≤ A.kind
  k8 : A.kind ≤ 8
  extra : NoExtra A
  change : largeB A.change = false
  priority : largeB A.priority = false
  at_ : largeB A.at_ = false
  count : largeB A.count = false
  picks : A.picks.any largeB = false
theorem fine_of (A : PAct) (h : checkN A = 0) : Fine A := by
  unfold checkN at h
  split at h
  · omega
  rename_i hk
  split at h
  · omega
  rename_i hx
  split at h
  · omega
  rename_i hb
  have hb' : badB A = false := by simpa using hb
  simp only [badB, Bool.or_eq_false_iff] at hb'
  obtain ⟨⟨⟨⟨a, b⟩, c⟩, d⟩, e⟩ := hb'
  exact ⟨by omega, by omega, noExtra A (by simpa using hx), a, b, c, d, e⟩
theorem act_ext {A B : PAct} (h1 : A.kind = B.kind) (h2 : A.who = B.who) (h3 : A.change = B.change) (h4 : A.priority = B.priority) (h5 : A.at_ = B.at_) (h6 : A.count = B.count) (h7 : A.files = B.files) (h8 : A.picks = B.picks) : A = B := by
  cases A; cases B; simp_all
theorem read_line (A : PAct) (h : Fine A) : readP A.kind ⟨restParts A, false⟩ = (A, ⟨[], false⟩) := by
  have x := h.extra
  unfold readP restParts
  split
  · rename_i k
    simp only [List.cons_append, List.nil_append, read_text, read_num _ _ h.priority, read_num _ _ h.at_, Rd.files, Bool.false_eq_true, if_false, read_files]
    refine Prod.ext (act_ext rfl rfl ?_ rfl rfl ?_ rfl ?_) rfl
    · exact (x.change (by omega) (by omega)).symm
    · exact (x.count (by omega) (by omega) (by omega)).symm
    · exact (x.picks (by omega)).symm
  split
  · rename_i _ k
    simp only [read_text, read_num _ _ h.change]
    refine Prod.ext (act_ext rfl rfl rfl ?_ ?_ ?_ ?_ ?_) rfl
    · exact (x.priority (by omega)).symm
    · exact (x.at_ (by omega) (by omega)).symm
    · exact (x.count (by omega) (by omega) (by omega)).symm
    · exact (x.files (by omega)).symm
    · exact (x.picks (by omega)).symm
  split
  · rename_i _ _ k
    simp only [Rd.picks, Bool.false_eq_true, if_false, read_picks _ h.picks]
    refine Prod.ext (act_ext rfl ?_ ?_ ?_ ?_ ?_ ?_ rfl) rfl
    · exact (x.who (by omega) (by omega) (by omega) (by omega)).symm
    · exact (x.change (by omega) (by omega)).symm
    · exact (x.priority (by omega)).symm
    · exact (x.at_ (by omega) (by omega)).symm
    · exact (x.count (by omega) (by omega) (by omega)).symm
    · exact (x.files (by omega)).symm
  split
  · rename_i _ _ _ k
    simp only [read_num _ _ h.count]
    refine Prod.ext (act_ext rfl ?_ ?_ ?_ ?_ rfl ?_ ?_) rfl
    · exact (x.who (by omega) (by omega) (by omega) (by omega)).symm
    · exact (x.change (by omega) (by omega)).symm
    · exact (x.priority (by omega)).symm
    · exact (x.at_ (by omega) (by omega)).symm
    · exact (x.files (by omega)).symm
    · exact (x.picks (by omega)).symm
  split
  · rename_i _ _ _ _ k
    simp only [read_text, read_num _ _ h.count, read_num _ _ h.at_]
    refine Prod.ext (act_ext rfl rfl ?_ ?_ rfl rfl ?_ ?_) rfl
    · exact (x.change (by omega) (by omega)).symm
    · exact (x.priority (by omega)).symm
    · exact (x.files (by omega)).symm
    · exact (x.picks (by omega)).symm
  · refine Prod.ext (act_ext rfl ?_ ?_ ?_ ?_ ?_ ?_ ?_) rfl
    · exact (x.who (by omega) (by omega) (by omega) (by omega)).symm
    · exact (x.change (by omega) (by omega)).symm
    · exact (x.priority (by omega)).symm
    · exact (x.at_ (by omega) (by omega)).symm
    · exact (x.count (by omega) (by omega) (by omega)).symm
    · exact (x.files (by omega)).symm
    · exact (x.picks (by omega)).symm
end Go.Proofs.YtglekdhdogjnoaaGreatDoor
