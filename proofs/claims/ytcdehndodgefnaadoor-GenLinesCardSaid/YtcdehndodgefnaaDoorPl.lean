/- Plain lemmas on lists of whole numbers: places, bytes of words. No program in sight. -/
import Derived.Laws.BitsLemmas
set_option linter.unusedVariables false
namespace Ab
open Go

theorem getD_mem {xs : List Int} {j : Nat} (h : j < xs.length) : xs.getD j 0 ∈ xs := by
  rw [List.getD_eq_getElem?_getD, List.getElem?_eq_getElem h]; exact List.getElem_mem _
theorem getD_at {α : Type} {xs : List α} {j : Nat} (d : α) (h : j < xs.length) : xs.getD j d = xs[j] := by
  rw [List.getD_eq_getElem?_getD, List.getElem?_eq_getElem h]; rfl
theorem getD_eq_of {α : Type} {xs ys : List α} (d : α) (hl : xs.length = ys.length) (h : ∀ j, j < xs.length → xs.getD j d = ys.getD j d) : xs = ys := by
  refine List.ext_getElem hl fun j h1 h2 => ?_
  have := h j h1
  rwa [getD_at d h1, getD_at d h2] at this
theorem getD_append_left {α : Type} {xs ys : List α} {j : Nat} (d : α) (h : j < xs.length) : (xs ++ ys).getD j d = xs.getD j d := by
  rw [List.getD_eq_getElem?_getD, List.getElem?_append_left h, ← List.getD_eq_getElem?_getD]
theorem getD_append_right {α : Type} {xs ys : List α} (j : Nat) (d : α) : (xs ++ ys).getD (xs.length + j) d = ys.getD j d := by
  rw [List.getD_eq_getElem?_getD, List.getElem?_append_right (by omega), ← List.getD_eq_getElem?_getD]; congr 1; omega
theorem getD_drop {α : Type} (xs : List α) (i j : Nat) (d : α) : (xs.drop i).getD j d = xs.getD (i + j) d := by
  rw [List.getD_eq_getElem?_getD, List.getElem?_drop, ← List.getD_eq_getElem?_getD]
theorem getD_take {α : Type} (xs : List α) {i j : Nat} (d : α) (h : j < i) : (xs.take i).getD j d = xs.getD j d := by
  rw [List.getD_eq_getElem?_getD, List.getElem?_take, if_pos h, ← List.getD_eq_getElem?_getD]
theorem take_succ_getD {α : Type} {xs : List α} {k : Nat} (d : α) (h : k < xs.length) : xs.take (k + 1) = xs.take k ++ [xs.getD k d] := by
  rw [getD_at d h, List.take_succ_eq_append_getElem h]

theorem wraps_u64 (n : Int) (h₀ : 0 ≤ n) (h₁ : n < 2 ^ 64) : IntKind.u64.wrap n = n := by
  simp only [IntKind.wrap, IntKind.bits, IntKind.signed]; simp; omega
theorem wraps_u32 (n : Int) (h₀ : 0 ≤ n) (h₁ : n < 2 ^ 32) : IntKind.u32.wrap n = n := by
  simp only [IntKind.wrap, IntKind.bits, IntKind.signed]; simp; omega

/-- The word whose bytes these are, the lowest first. -/
def lw : List Int → Int
  | [] => 0
  | b :: t => b + 256 * lw t
def isBytes (xs : List Int) : Prop := ∀ x ∈ xs, 0 ≤ x ∧ x < 256
def isWords (xs : List Int) : Prop := ∀ x ∈ xs, 0 ≤ x ∧ x < 18446744073709551616

theorem lw_bound {xs : List Int} (h : isBytes xs) : 0 ≤ lw xs ∧ lw xs < 256 ^ xs.length := by
  induction xs with
  | nil => simp [lw]
  | cons b t ih =>
    have h1 := h b (by simp)
    have h2 := ih (fun x hx => h x (by simp [hx]))
    simp only [lw, List.length_cons, Int.pow_succ]
    omega
theorem lw_drop {xs : List Int} {m : Nat} (h : m < xs.length) : lw (xs.drop m) = xs.getD m 0 + 256 * lw (xs.drop (m + 1)) := by
  rw [List.drop_eq_getElem_cons h, lw, getD_at 0 h]
theorem pow_le {a b : Nat} (h : a ≤ b) : (256 : Int) ^ a ≤ 256 ^ b := by
  have := Nat.pow_le_pow_right (n := 256) (by decide) h
  have h2 : ((256 ^ a : Nat) : Int) ≤ ((256 ^ b : Nat) : Int) := by omega
  simpa using h2
theorem lw_drop_bound {xs : List Int} (h : isBytes xs) (m : Nat) (hl : xs.length = 8) : 0 ≤ lw (xs.drop m) ∧ lw (xs.drop m) < 256 ^ (8 - m) := by
  have := lw_bound (xs := xs.drop m) (fun x hx => h x (List.mem_of_mem_drop hx))
  rwa [List.length_drop, hl] at this
theorem lw_drop_succ {xs : List Int} (h : isBytes xs) (m : Nat) (hl : xs.length = 8) : 0 ≤ lw (xs.drop (m + 1)) ∧ lw (xs.drop (m + 1)) < 72057594037927936 := by
  have h1 := lw_drop_bound h (m + 1) hl
  have h2 := pow_le (a := 8 - (m + 1)) (b := 7) (by omega)
  have h3 : (256 : Int) ^ 7 = 72057594037927936 := by decide
  omega
theorem or_byte {y x : Int} (hy : 0 ≤ y) (hy1 : y < 72057594037927936) (hx : 0 ≤ x) (hx1 : x < 256) : bits .or .u64 (y * 256) x = y * 256 + x :=
  bits_join .u64 64 (by decide) wraps_u64 8 (y * 256) x (by omega) (by omega) (by omega) hx (by omega) (by omega)

/-- A word's bytes, the lowest first: n of them. -/
def lb : Nat → Int → List Int
  | 0, _ => []
  | n + 1, w => w % 256 :: lb n (w / 256)
theorem lb_length (n : Nat) (w : Int) : (lb n w).length = n := by
  induction n generalizing w with
  | zero => rfl
  | succ n ih => rw [lb, List.length_cons, ih]
theorem pow_two_eight (q : Nat) : (256 : Int) ^ q = 2 ^ (8 * q) := by rw [Int.pow_mul]; rfl
theorem lb_getD (n : Nat) (w : Int) (j : Nat) (h : j < n) : (lb n w).getD j 0 = w / 2 ^ (8 * j) % 256 := by
  induction n generalizing w j with
  | zero => omega
  | succ n ih =>
    rw [lb]
    cases j with
    | zero => simp
    | succ j =>
      rw [List.getD_cons_succ, ih (w / 256) j (by omega)]
      have e : (2 : Int) ^ (8 * (j + 1)) = 256 * 2 ^ (8 * j) := by rw [show 8 * (j + 1) = 8 * j + 8 from by omega, Int.pow_add]; omega
      rw [e, ← Int.ediv_ediv_of_nonneg (by decide)]
theorem lb_take (n : Nat) (w : Int) (k : Nat) (h : k < n) : (lb n w).take (k + 1) = (lb n w).take k ++ [w / 2 ^ (8 * k) % 256] := by
  rw [take_succ_getD 0 (by rw [lb_length]; exact h), lb_getD n w k h]
theorem lb_bytes (n : Nat) (w : Int) : isBytes (lb n w) := by
  induction n generalizing w with
  | zero => intro x hx; cases hx
  | succ n ih =>
    intro x hx
    rw [lb, List.mem_cons] at hx
    rcases hx with rfl | hx
    · omega
    · exact ih _ x hx
theorem lw_lb (n : Nat) (w : Int) : lw (lb n w) = w % 256 ^ n := by
  induction n generalizing w with
  | zero => rw [lb, lw, Int.pow_zero, Int.emod_one]
  | succ n ih =>
    rw [lb, lw, ih]
    have e : (256 : Int) ^ (n + 1) = 256 * 256 ^ n := by rw [Int.pow_succ]; omega
    have p : (0 : Int) < 256 ^ n := Int.pow_pos (by decide)
    rw [e]
    generalize (256 : Int) ^ n = q at *
    have h1 : w % (256 * q) = w % 256 + 256 * (w / 256 % q) := by
      have h2 : w / (256 * q) = w / 256 / q := (Int.ediv_ediv_of_nonneg (by decide)).symm
      rw [Int.emod_def w (256 * q), Int.emod_def w 256, Int.emod_def (w / 256) q, h2]; grind
    rw [h1]
theorem lb_lw {xs : List Int} (h : isBytes xs) : lb xs.length (lw xs) = xs := by
  induction xs with
  | nil => rfl
  | cons b t ih =>
    have h1 := h b (by simp)
    have h2 := ih (fun x hx => h x (by simp [hx]))
    rw [List.length_cons, lb, lw, show (b + 256 * lw t) % 256 = b from by omega, show (b + 256 * lw t) / 256 = lw t from by omega, h2]
def badIdx (l : List Int) : Int := match l.findIdx? (fun x => decide (18446744069414584321 ≤ x)) with
  | some i => i
  | none => -1

theorem badIdx_some {l : List Int} {k : Nat} (hk : k < l.length) (h : 18446744069414584321 ≤ l.getD k 0) (hb : ∀ j, j < k → l.getD j 0 < 18446744069414584321) : badIdx l = k := by
  have : l.findIdx? (fun x => decide (18446744069414584321 ≤ x)) = some k := by
    rw [List.findIdx?_eq_some_iff_getElem]
    refine ⟨hk, ?_, fun j hj => ?_⟩
    · rw [getD_at 0 hk] at h; simpa using h
    · have := hb j hj
      rw [getD_at 0 (by omega)] at this
      simpa using this
  rw [badIdx, this]
theorem badIdx_none {l : List Int} (hb : ∀ j, j < l.length → l.getD j 0 < 18446744069414584321) : badIdx l = -1 := by
  have : l.findIdx? (fun x => decide (18446744069414584321 ≤ x)) = none := by
    rw [List.findIdx?_eq_none_iff]
    intro x hx
    obtain ⟨j, hj, rfl⟩ := List.getElem_of_mem hx
    have := hb j hj
    rw [getD_at 0 hj] at this
    simpa using this
  rw [badIdx, this]

theorem badIdx_cases (l : List Int) : badIdx l = -1 ∨ ∃ k : Nat, k < l.length ∧ badIdx l = k ∧ 18446744069414584321 ≤ l.getD k 0 ∧ ∀ j, j < k → l.getD j 0 < 18446744069414584321 := by
  cases h : l.findIdx? (fun x => decide (18446744069414584321 ≤ x)) with
  | none => left; rw [badIdx, h]
  | some k =>
    right
    have h2 := h
    rw [List.findIdx?_eq_some_iff_getElem] at h2
    obtain ⟨hk, h3, h4⟩ := h2
    refine ⟨k, hk, by rw [badIdx, h], by rw [getD_at 0 hk]; simpa using h3, fun j hj => ?_⟩
    have := h4 j hj
    rw [getD_at 0 (by omega)]
    simpa using this

/-- A row's form. -/
def form (l : List Int) : List Int := l.flatMap (lb 8)
theorem form_length (l : List Int) : (form l).length = 8 * l.length := by
  induction l with
  | nil => rfl
  | cons a t ih => rw [form, List.flatMap_cons, List.length_append, lb_length, ← form, ih, List.length_cons]; omega
theorem form_snoc (l : List Int) (x : Int) : form (l ++ [x]) = form l ++ lb 8 x := by simp [form, List.flatMap_append]
theorem form_take_succ {l : List Int} {k : Nat} (h : k < l.length) : form (l.take (k + 1)) = form (l.take k) ++ lb 8 (l.getD k 0) := by
  rw [take_succ_getD 0 h, form_snoc]
theorem form_bytes (l : List Int) : isBytes (form l) := by
  intro x hx
  obtain ⟨a, _, h⟩ := List.mem_flatMap.1 hx
  exact lb_bytes 8 a x h
/-- The words of a form: n of them. -/
def wordsOf (bs : List Int) (n : Nat) : List Int := (List.range n).map fun i => lw ((bs.drop (8 * i)).take 8)
theorem wordsOf_succ (bs : List Int) (n : Nat) : wordsOf bs (n + 1) = wordsOf bs n ++ [lw ((bs.drop (8 * n)).take 8)] := by
  simp [wordsOf, List.range_succ]
theorem wordsOf_length (bs : List Int) (n : Nat) : (wordsOf bs n).length = n := by simp [wordsOf]
theorem wordsOf_getD (bs : List Int) (n j : Nat) (h : j < n) : (wordsOf bs n).getD j 0 = lw ((bs.drop (8 * j)).take 8) := by
  rw [getD_at 0 (by rw [wordsOf_length]; exact h)]; simp [wordsOf]
/-- The row of a form, a place, and an error's number. -/
def takeL (bs : List Int) : List Int × Int × Int :=
  if bs.length % 8 ≠ 0 then ([], ((8 * (bs.length / 8) : Nat) : Int), 15)
  else if badIdx (wordsOf bs (bs.length / 8)) < 0 then (wordsOf bs (bs.length / 8), 0, 0) else ([], 8 * badIdx (wordsOf bs (bs.length / 8)), 3)
end Ab
