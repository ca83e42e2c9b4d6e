/- Plain laws: numerals, texts and their rows; the line of a rule and the rule of a line. -/
import Derived.Test.YtcdehndodgefnaaDoorGr
import Derived.Lib.ItoaLen
import Derived.Lib.IndexLaws
set_option linter.unusedVariables false
set_option linter.unusedSimpArgs false
namespace Go.Proofs.YtcdehndodgefnaaDoor
open Go.RowKit Ab Go.Proofs

/-! ### Numerals -/
def decN (l : List UInt8) : Nat := l.foldl (fun v c => 10 * v + (c.toNat - 48)) 0
def allDig (l : List UInt8) : Prop := ∀ c ∈ l, 48 ≤ c.toNat ∧ c.toNat ≤ 57
theorem decN_snoc (l : List UInt8) (c : UInt8) : decN (l ++ [c]) = 10 * decN l + (c.toNat - 48) := by simp [decN]
theorem snoc_rec {P : List UInt8 → Prop} (h0 : P []) (hs : ∀ l c, P l → P (l ++ [c])) : ∀ n, ∀ l : List UInt8, l.length = n → P l
  | 0, l, h => by rw [List.eq_nil_of_length_eq_zero h]; exact h0
  | n + 1, l, h => by
    rcases List.eq_nil_or_concat l with rfl | ⟨l', c, rfl⟩
    · cases h
    · rw [List.concat_eq_append] at h ⊢
      exact hs l' c (snoc_rec h0 hs n l' (by rw [List.length_append, List.length_singleton] at h; omega))
theorem decN_pos {c : UInt8} {t : List UInt8} (h : allDig (c :: t)) (hc : c.toNat ≠ 48) : 1 ≤ decN (c :: t) := by
  have key : ∀ (t : List UInt8) (v : Nat), 1 ≤ v → 1 ≤ t.foldl (fun v c => 10 * v + (c.toNat - 48)) v := by
    intro t
    induction t with
    | nil => intro v h; exact h
    | cons a r ih => intro v h; exact ih _ (by show 1 ≤ 10 * v + (a.toNat - 48); omega)
  have h1 := h c (by simp)
  exact key t _ (by show 1 ≤ 10 * 0 + (c.toNat - 48); omega)
theorem ofNat_toNat (c : UInt8) (n : Nat) (h : n = c.toNat) : UInt8.ofNat n = c := by subst h; exact UInt8.ofNat_toNat
/-- A numeral is its number's digits. -/
theorem dec_digits : ∀ l : List UInt8, l ≠ [] → allDig l → (l.length = 1 ∨ ∀ c, l.head? = some c → c.toNat ≠ 48) → Lib.decDigits (decN l) = l := by
  intro l
  refine snoc_rec (P := fun l => l ≠ [] → allDig l → (l.length = 1 ∨ ∀ c, l.head? = some c → c.toNat ≠ 48) → Lib.decDigits (decN l) = l) (fun h => absurd rfl h) ?_ l.length l rfl
  intro l c ih _ hd hz
  have hc := hd c (by simp)
  have hl : allDig l := fun x hx => hd x (by simp [hx])
  cases l with
  | nil =>
    have e : decN ([] ++ [c]) = c.toNat - 48 := by simp [decN]
    rw [e, Lib.decDigits_one (by omega), ofNat_toNat c _ (by omega)]; rfl
  | cons a t =>
    have ha : a.toNat ≠ 48 := by
      rcases hz with h | h
      · simp at h
      · exact h a (by simp)
    have h1 := ih (by simp) hl (.inr fun x hx => by simp at hx; subst hx; exact ha)
    have h2 := decN_pos hl ha
    rw [decN_snoc, Lib.decDigits, dif_neg (by omega), show (10 * decN (a :: t) + (c.toNat - 48)) / 10 = decN (a :: t) by omega, show (10 * decN (a :: t) + (c.toNat - 48)) % 10 = c.toNat - 48 by omega, h1, ofNat_toNat c _ (by omega)]
theorem digits_spec (u : Nat) : decN (Lib.decDigits u) = u ∧ allDig (Lib.decDigits u) ∧ Lib.decDigits u ≠ [] ∧ (1 ≤ u → ∀ c, (Lib.decDigits u).head? = some c → c.toNat ≠ 48) := by
  induction u using Nat.strongRecOn with
  | ind u ih =>
    by_cases h : u < 10
    · have hn : (UInt8.ofNat (48 + u)).toNat = 48 + u := by rw [UInt8.toNat_ofNat']; omega
      rw [Lib.decDigits_one h]
      refine ⟨by show 10 * 0 + ((UInt8.ofNat (48 + u)).toNat - 48) = u; omega, fun c hc => ?_, List.cons_ne_nil _ _, fun h1 c hc => ?_⟩
      · rw [List.mem_singleton.1 hc]; omega
      · rw [List.head?_cons] at hc; injection hc with hc; rw [← hc]; omega
    · obtain ⟨h1, h2, h3, h4⟩ := ih (u / 10) (by omega)
      have hn : (UInt8.ofNat (48 + u % 10)).toNat = 48 + u % 10 := by rw [UInt8.toNat_ofNat']; omega
      rw [Lib.decDigits, dif_neg h]
      refine ⟨by rw [decN_snoc, h1, hn]; omega, fun c hc => ?_, by simp, fun _ c hc => ?_⟩
      · rcases List.mem_append.1 hc with hc | hc
        · exact h2 c hc
        · rw [List.mem_singleton.1 hc]; omega
      · cases hd : Lib.decDigits (u / 10) with
        | nil => exact absurd hd h3
        | cons a t =>
          rw [hd, List.cons_append, List.head?_cons] at hc
          exact h4 (by omega) c (by rw [hd, List.head?_cons]; exact hc)
theorem nm_map (l : List UInt8) : nm ⟨l.toArray⟩ = l.map fun b => (b.toNat : Int) := by simp [nm]
theorem decL_nm (l : List UInt8) (h : allDig l) : decL (l.map fun b => (b.toNat : Int)) = (decN l : Int) := by
  refine snoc_rec (P := fun l => allDig l → decL (l.map fun b => (b.toNat : Int)) = (decN l : Int)) (fun _ => rfl) ?_ l.length l rfl h
  intro l c ih hd
  have hc := hd c (by simp)
  rw [List.map_append, List.map_cons, List.map_nil, decL_snoc, ih (fun x hx => hd x (by simp [hx])), decN_snoc]
  omega
theorem digitsB_nm (l : List UInt8) : digitsB (l.map fun b => (b.toNat : Int)) = true ↔ allDig l := by
  rw [digitsB_iff]
  constructor
  · intro h c hc
    have := h _ (List.mem_map_of_mem hc)
    omega
  · intro h c hc
    obtain ⟨b, hb, rfl⟩ := List.mem_map.1 hc
    have := h b hb
    omega
/-- A numeral that is one: its digits are the text. -/
theorem numL_text (l : List UInt8) (v : Int) (h : numL (l.map fun b => (b.toNat : Int)) = (v, 0)) : Lib.decDigits v.toNat = l ∧ 0 ≤ v ∧ v < 18446744069414584321 := by
  unfold numL at h
  rw [List.length_map] at h
  split at h
  · cases h
  · split at h
    · cases h
    · split at h
      · cases h
      · split at h
        · cases h
        · split at h
          · rename_i h0 hB hz hl hP
            have hd : allDig l := (digitsB_nm l).1 (by simpa using hB)
            rw [decL_nm l hd] at h hP
            injection h with h1 h2
            subst h1
            refine ⟨?_, by omega, hP⟩
            rw [Int.toNat_natCast]
            refine dec_digits l (fun e => h0 (by rw [e]; rfl)) hd ?_
            by_cases h1 : l.length = 1
            · exact .inl h1
            · refine .inr fun c hc e => hz ⟨?_, by omega⟩
              cases l with
              | nil => cases hc
              | cons a t => simp at hc; subst hc; simp; omega
          · cases h
theorem numL_digits (u : Nat) (h : u < 18446744069414584321) : numL ((Lib.decDigits u).map fun b => (b.toNat : Int)) = ((u : Int), 0) := by
  obtain ⟨h1, h2, h3, h4⟩ := digits_spec u
  have hl := Lib.decDigits_length u
  have h20 := Lib.nDigits_le20 u (by omega)
  have hlen : (Lib.decDigits u).length ≠ 0 := fun e => h3 (List.eq_nil_of_length_eq_zero e)
  unfold numL
  rw [List.length_map, if_neg hlen, if_neg (by rw [(digitsB_nm _).2 h2]; simp), if_neg ?_, if_neg (by omega), decL_nm _ h2, h1, if_pos (by omega)]
  intro ⟨ha, hb⟩
  by_cases h10 : u < 10
  · rw [Lib.decDigits_one h10] at hb; simp at hb
  · cases hd : Lib.decDigits u with
    | nil => exact h3 hd
    | cons a t =>
      rw [hd] at ha
      have := h4 (by omega) a (by rw [hd]; rfl)
      simp at ha
      omega
end Go.Proofs.YtcdehndodgefnaaDoor
