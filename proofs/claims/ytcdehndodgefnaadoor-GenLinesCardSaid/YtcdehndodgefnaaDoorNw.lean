/- A text as a numeral: all cases in one. -/
import Derived.Test.YtcdehndodgefnaaDoorNv
set_option linter.unusedVariables false
namespace Go.Proofs.YtcdehndodgefnaaDoor
open Go.RowKit Ab Go.Proofs

def digitsB (bs : List Int) : Bool := bs.all fun c => decide (48 ≤ c) && decide (c ≤ 57)
theorem digitsB_iff (bs : List Int) : digitsB bs = true ↔ isDigits bs := by
  simp [digitsB, isDigits]
/-- A numeral's word, and an error's number. -/
def numL (bs : List Int) : Int × Int :=
  if bs.length = 0 then (0, 17)
  else if digitsB bs = false then (0, 17)
  else if bs.getD 0 0 = 48 ∧ 1 < bs.length then (0, 17)
  else if 20 < bs.length then (0, 14)
  else if decL bs < 18446744069414584321 then (decL bs, 0)
  else (0, 3)
theorem dropWhile_nil {α : Type} (p : α → Bool) (l : List α) : l.dropWhile p = [] ↔ ∀ x ∈ l, p x = true := by
  induction l with
  | nil => simp
  | cons a t ih =>
    cases h : p a with
    | true => rw [List.dropWhile_cons, if_pos h, ih]; simp [h]
    | false => rw [List.dropWhile_cons, if_neg (by simp [h])]; simp [h]
theorem dropWhile_head {α : Type} (p : α → Bool) (l : List α) {y : α} {r : List α} (h : l.dropWhile p = y :: r) : p y = false := by
  induction l with
  | nil => cases h
  | cons a t ih =>
    cases hp : p a with
    | true => rw [List.dropWhile_cons, if_pos hp] at h; exact ih h
    | false => rw [List.dropWhile_cons, if_neg (by simp [hp])] at h; cases h; exact hp
theorem dropWhile_mem {α : Type} (p : α → Bool) (l : List α) {x : α} (h : x ∈ l.dropWhile p) : x ∈ l := (List.dropWhile_sublist p).subset h
theorem trim_nil (l cs : List UInt8) : Lib.trimS l cs = [] ↔ ∀ x ∈ l, cs.contains x = true := by
  unfold Lib.trimS Lib.trimLeftS Lib.trimRightS
  rw [dropWhile_nil]
  constructor
  · intro h x hx
    have hn : l.reverse.dropWhile (cs.contains ·) = [] := by
      cases hd : l.reverse.dropWhile (cs.contains ·) with
      | nil => rfl
      | cons y r =>
        have h1 := h y (by rw [hd]; simp)
        have h2 := dropWhile_head _ _ hd
        rw [h1] at h2; cases h2
    rw [dropWhile_nil] at hn
    exact hn x (by simpa using hx)
  · intro h x hx
    have hx2 : x ∈ l.reverse.dropWhile (cs.contains ·) := by simpa using hx
    exact h x (by simpa using dropWhile_mem _ _ hx2)
theorem trim_digits (s : ByteArray) : Lib.trimS s.data.toList [48, 49, 50, 51, 52, 53, 54, 55, 56, 57] = [] ↔ digitsB (nm s) = true := by
  rw [trim_nil, digitsB_iff]
  have key : ∀ x : UInt8, ([48, 49, 50, 51, 52, 53, 54, 55, 56, 57] : List UInt8).contains x = true ↔ (48 ≤ (x.toNat : Int) ∧ (x.toNat : Int) ≤ 57) := by
    have all : ∀ n : Fin 256, ([48, 49, 50, 51, 52, 53, 54, 55, 56, 57] : List UInt8).contains (UInt8.ofNat n.val) = decide (48 ≤ n.val ∧ n.val ≤ 57) := by decide +kernel
    intro x
    have h := all ⟨x.toNat, x.toNat_lt⟩
    rw [UInt8.ofNat_toNat] at h
    rw [h, decide_eq_true_iff]; dsimp only; omega
  constructor
  · intro h c hc
    obtain ⟨b, hb, rfl⟩ := List.mem_map.1 hc
    exact (key b).1 (h b hb)
  · intro h x hx
    exact (key x).2 (h _ (List.mem_map.2 ⟨x, hx, rfl⟩))

theorem numeral_any (s : ByteArray) (w : World) (hs : s.size ≤ 1000000) :
    Calls Tryd.prog 30 #[.string s] w fun e w' => e = .returned (.tuple #[.int .u64 (numL (nm s)).1, .int .i64 (numL (nm s)).2]) ∧ Below w.heap.size w w' := by
  have hlen := nm_length s
  by_cases h0 : s.size = 0
  · rw [numL, if_pos (by omega)]; exact numeral_empty s w h0
  · rw [numL, if_neg (by omega)]
    cases hd : digitsB (nm s) with
    | false =>
      rw [if_pos rfl]
      cases ht : Lib.trimS s.data.toList [48, 49, 50, 51, 52, 53, 54, 55, 56, 57] with
      | nil => rw [trim_digits, hd] at ht; cases ht
      | cons c r => exact numeral_signs s w (by omega) hs c r ht
    | true =>
      have ht := (trim_digits s).2 hd
      rw [if_neg (by simp)]
      by_cases hz : (nm s).getD 0 0 = 48 ∧ 1 < (nm s).length
      · rw [if_pos hz]; exact numeral_nought s w (by omega) hs hz.1 ht
      · rw [if_neg hz]
        by_cases hL : 20 < (nm s).length
        · rw [if_pos hL]
          refine numeral_long s w (by omega) hs _ rfl ?_ ht
          rw [beq_eq_false_iff_ne]; intro e; exact hz ⟨e, by omega⟩
        · rw [if_neg hL]
          refine (numeral_num s w (by omega) (by omega) _ rfl ?_ ((digitsB_iff _).1 hd) ht).mono fun e w' ⟨he, hb⟩ => ⟨?_, hb⟩
          · by_cases e : (nm s).getD 0 0 = 48
            · exact .inr ⟨by rw [beq_iff_eq]; exact e, by have := fun h => hz ⟨e, h⟩; omega⟩
            · exact .inl (by rw [beq_eq_false_iff_ne]; exact e)
          · rw [he, numV]; split <;> rfl
end Go.Proofs.YtcdehndodgefnaaDoor
