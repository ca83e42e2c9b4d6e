/- Plain laws: rows of texts; the line of a rule, and the rule of a line. -/
import Derived.Test.YtcdehndodgefnaaDoorPg
import Derived.Test.YtcdehndodgefnaaDoorDg
set_option linter.unusedVariables false
set_option linter.unusedSimpArgs false
namespace Go.Proofs.YtcdehndodgefnaaDoor
open Go.RowKit Ab Go.Proofs

theorem occ_blank (s : List UInt8) (i : Nat) : Lib.occAt s [32] i = true ↔ s[i]? = some 32 := by
  unfold Lib.occAt
  rw [List.isPrefixOf_iff_prefix]
  cases h : s.drop i with
  | nil =>
    have : s[i]? = none := by
      have := congrArg (fun l => l[0]?) h
      rwa [List.getElem?_drop, Nat.add_zero] at this
    rw [this]; simp
  | cons a t =>
    have : s[i]? = some a := by
      have := congrArg (fun l => l[0]?) h
      rwa [List.getElem?_drop, Nat.add_zero] at this
    rw [this, List.cons_prefix_cons]
    constructor
    · rintro ⟨rfl, _⟩; rfl
    · intro e; injection e with e; exact ⟨e.symm, List.nil_prefix⟩
theorem index_blank (x r : List UInt8) (hx : ∀ c ∈ x, c ≠ 32) : Lib.index (x ++ 32 :: r) [32] = x.length := by
  refine Lib.index_first (by simp) ((occ_blank _ _).2 (by simp)) fun j hj => ?_
  rw [Bool.eq_false_iff]
  intro h
  rw [occ_blank, List.getElem?_append_left hj, List.getElem?_eq_getElem hj] at h
  exact hx _ (List.getElem_mem hj) (by injection h)
theorem index_cases (s : List UInt8) : Lib.index s [32] = -1 ∨ ∃ i : Nat, Lib.index s [32] = i ∧ i < s.length ∧ s = s.take i ++ 32 :: s.drop (i + 1) := by
  rcases Lib.index_spec s [32] with ⟨h, _⟩ | ⟨i, h, _, ho, _⟩
  · exact .inl h
  · right
    rw [occ_blank] at ho
    have hi : i < s.length := by
      rcases Nat.lt_or_ge i s.length with h | h
      · exact h
      · rw [List.getElem?_eq_none h] at ho; cases ho
    refine ⟨i, h, hi, ?_⟩
    rw [List.getElem?_eq_getElem hi] at ho
    injection ho with ho
    have := List.take_append_drop i s
    rw [List.drop_eq_getElem_cons hi, ho] at this
    exact this.symm
theorem join_cons2 (x y : List UInt8) (r : List (List UInt8)) : Lib.join (x :: y :: r) [32] = x ++ 32 :: Lib.join (y :: r) [32] := by
  rw [Lib.join_cons, Lib.join_cons]; simp [Lib.joinTail]
theorem splitK_ne (k : Nat) (s : List UInt8) : Lib.splitK [32] 0 k s ≠ [] := by
  cases k with
  | zero => intro h; cases h
  | succ k => unfold Lib.splitK; split <;> intro h <;> cases h
/-- What was split at blanks is joined by blanks. -/
theorem join_split : ∀ (k : Nat) (s : List UInt8), Lib.join (Lib.splitK [32] 0 k s) [32] = s
  | 0, s => Lib.join_one _ _
  | k + 1, s => by
    unfold Lib.splitK
    split
    · exact Lib.join_one _ _
    · rename_i hne
      rcases index_cases s with h | ⟨i, h, hi, e⟩
      · rw [h] at hne; exact absurd rfl hne
      · rw [h, Int.toNat_natCast, Nat.add_zero, List.length_singleton]
        cases hk : Lib.splitK [32] 0 k (s.drop (i + 1)) with
        | nil => exact absurd hk (splitK_ne _ _)
        | cons y r => rw [join_cons2, ← hk, join_split k]; exact e.symm
theorem split_join : ∀ (r : List (List UInt8)) (x : List UInt8), (∀ t ∈ x :: r, ∀ c ∈ t, c ≠ 32) → Lib.splitK [32] 0 (Lib.count (Lib.join (x :: r) [32]) [32]) (Lib.join (x :: r) [32]) = x :: r
  | [], x, h => by
    rw [Lib.join_one, Lib.count_one, List.count_eq_zero.2 (fun hm => h x (by simp) 32 hm rfl)]; rfl
  | y :: r, x, h => by
    have hx : ∀ c ∈ x, c ≠ 32 := h x (by simp)
    have ih := split_join r y (fun t ht => h t (by simp [ht]))
    have hc : Lib.count (x ++ 32 :: Lib.join (y :: r) [32]) [32] = Lib.count (Lib.join (y :: r) [32]) [32] + 1 := by
      rw [Lib.count_one, Lib.count_one, List.count_append, List.count_cons_self, List.count_eq_zero.2 (fun hm => hx 32 hm rfl)]; omega
    rw [join_cons2, hc]
    unfold Lib.splitK
    rw [index_blank x _ hx, if_neg (by simp <;> omega), Int.toNat_natCast, Nat.add_zero, List.length_singleton, List.take_left']
    · rw [show x.length + 1 = (x ++ [32]).length by simp, show x ++ 32 :: Lib.join (y :: r) [32] = (x ++ [32]) ++ Lib.join (y :: r) [32] by simp, List.drop_left', ih]
      rfl
    · rfl
theorem pieces_data (s : ByteArray) : (pieces s).map (·.data.toList) = Lib.splitK [32] 0 (Lib.count s.data.toList [32]) s.data.toList := by
  unfold pieces; rw [Lib.splitB_data]
theorem readT_ok : ∀ (ts : List ByteArray) (acc : List Int) (p : Int) (L : List Int) (q : Int), readT ts acc p = (L, q, 0) → ∃ M, L = acc ++ M ∧ M.map (fun x => Lib.decDigits x.toNat) = ts.map (·.data.toList) ∧ isWords M
  | [], acc, p, L, q, h => by
    injection h with h1 h2
    exact ⟨[], by rw [← h1, List.append_nil], rfl, fun x hx => by cases hx⟩
  | t :: r, acc, p, L, q, h => by
    rw [readT_cons] at h
    split at h
    · rename_i h0
      obtain ⟨M, h1, h2, h3⟩ := readT_ok r _ _ _ _ h
      have hn := numL_text t.data.toList (numL (nm t)).1 (by
        show numL (nm t) = _
        rw [← h0])
      refine ⟨(numL (nm t)).1 :: M, by rw [h1, List.append_assoc]; rfl, by rw [List.map_cons, List.map_cons, h2, hn.1], fun x hx => ?_⟩
      rcases List.mem_cons.1 hx with rfl | hx
      · exact ⟨hn.2.1, by omega⟩
      · exact h3 x hx
    · rename_i h0
      injection h with h1 h2
      injection h2 with h3 h4
      exact absurd h4 h0
/-- A row that was read: the text is its text. -/
theorem readL_text (s : ByteArray) (L : List Int) (q : Int) (h : readL s = (L, q, 0)) : textL L = s.data.toList ∧ isWords L := by
  unfold readL at h
  split at h
  · rename_i h0
    injection h with h1 h2
    subst h1
    have : s.data.toList = [] := List.eq_nil_of_length_eq_zero (by rw [Array.length_toList]; exact h0)
    rw [this]
    exact ⟨rfl, fun x hx => by cases hx⟩
  · obtain ⟨M, h1, h2, h3⟩ := readT_ok _ _ _ _ _ h
    rw [List.nil_append] at h1
    subst h1
    refine ⟨?_, h3⟩
    unfold textL
    rw [h2, pieces_data, join_split]
theorem readT_all : ∀ (L : List Int) (ts : List ByteArray) (acc : List Int) (p : Int), (∀ x ∈ L, 0 ≤ x ∧ x < 18446744069414584321) → ts.map (·.data.toList) = L.map (fun x => Lib.decDigits x.toNat) → readT ts acc p = (acc ++ L, 0, 0)
  | [], ts, acc, p, _, h => by
    obtain rfl : ts = [] := List.map_eq_nil_iff.1 h
    rw [List.append_nil]; rfl
  | x :: L, ts, acc, p, hx, h => by
    cases ts with
    | nil => cases h
    | cons t r =>
      rw [List.map_cons, List.map_cons] at h
      injection h with h1 h2
      have hb := hx x (by simp)
      have hn : numL (nm t) = (x, 0) := by
        show numL (t.data.toList.map fun b => (b.toNat : Int)) = _
        rw [h1, numL_digits x.toNat (by omega), Int.toNat_of_nonneg hb.1]
      rw [readT_cons, hn, if_pos rfl, readT_all L r _ _ (fun y hy => hx y (by simp [hy])) h2, List.append_assoc]; rfl
theorem digits_noblank (u : Nat) : ∀ c ∈ Lib.decDigits u, c ≠ 32 := by
  intro c hc e
  have := (digits_spec u).2.1 c hc
  rw [e] at this
  exact absurd this.1 (by decide)
/-- A canonical row is read from its text as it was. -/
theorem readL_row (L : List Int) (h : ∀ x ∈ L, 0 ≤ x ∧ x < 18446744069414584321) : readL ⟨(textL L).toArray⟩ = (L, 0, 0) := by
  cases L with
  | nil => rfl
  | cons x L =>
    have hne : (textL (x :: L)) ≠ [] := by
      unfold textL
      rw [List.map_cons, Lib.join_cons]
      intro e
      have := (digits_spec x.toNat).2.2.1
      exact this (List.append_eq_nil_iff.1 e).1
    unfold readL
    rw [if_neg (by intro e; exact hne (List.eq_nil_of_length_eq_zero (by simpa [ByteArray.size] using e)))]
    have hp := pieces_data ⟨(textL (x :: L)).toArray⟩
    have e : (⟨(textL (x :: L)).toArray⟩ : ByteArray).data.toList = Lib.join (Lib.decDigits x.toNat :: L.map (fun x => Lib.decDigits x.toNat)) [32] := by simp [textL]
    rw [e, split_join] at hp
    · rw [readT_all (x :: L) _ [] 0 h (by rw [hp]; rfl)]; rfl
    · intro t ht c hc
      rcases List.mem_cons.1 ht with rfl | ht
      · exact digits_noblank _ c hc
      · obtain ⟨y, _, rfl⟩ := List.mem_map.1 ht
        exact digits_noblank _ c hc

/-! ### Lines and rules -/
theorem word_noblank (k : Int) : ∀ c ∈ kWord k, c ≠ 32 := by
  unfold kWord
  split
  · decide
  · split
    · decide
    · split
      · decide
      · split <;> decide
theorem cut_line (k a b c : Int) : Lib.cut (lineL k a b c).data.toList [32] = (kWord k, textL ([a, b, c].take (kNum k)), true) := by
  have e : (lineL k a b c).data.toList = kWord k ++ 32 :: textL ([a, b, c].take (kNum k)) := by simp [lineL]
  rw [e]
  unfold Lib.cut
  rw [index_blank _ _ (word_noblank k), if_pos (by omega), Int.toNat_natCast, List.length_singleton]
  refine Prod.ext ?_ (Prod.ext ?_ rfl)
  · show List.take _ _ = _
    rw [List.take_left']; rfl
  · show List.drop _ _ = _
    rw [show (kWord k).length + 1 = (kWord k ++ [32]).length by simp, show kWord k ++ 32 :: textL ([a, b, c].take (kNum k)) = (kWord k ++ [32]) ++ textL ([a, b, c].take (kNum k)) by simp, List.drop_left']
    rfl
theorem kindOf_word (k : Int) (h1 : 1 ≤ k) (h5 : k ≤ 5) : kindOf ⟨(kWord k).toArray⟩ = k := by
  rcases (show k = 1 ∨ k = 2 ∨ k = 3 ∨ k = 4 ∨ k = 5 by omega) with rfl | rfl | rfl | rfl | rfl <;> decide
theorem kindOf_range (b : ByteArray) (h : kindOf b ≠ 0) : 1 ≤ kindOf b ∧ kindOf b ≤ 5 ∧ b = ⟨(kWord (kindOf b)).toArray⟩ := by
  unfold kindOf at h ⊢
  split
  · rename_i e; exact ⟨by decide, by decide, e⟩
  · split
    · rename_i e; exact ⟨by decide, by decide, e⟩
    · split
      · rename_i e; exact ⟨by decide, by decide, e⟩
      · split
        · rename_i e; exact ⟨by decide, by decide, e⟩
        · split
          · rename_i e; exact ⟨by decide, by decide, e⟩
          · rename_i h1 h2 h3 h4 h5
            rw [if_neg h1, if_neg h2, if_neg h3, if_neg h4, if_neg h5] at h
            exact absurd rfl h
/-- A rule as its line bears it: what its kind doesn't have is nought. -/
def normR (k a b c : Int) : Int × Int × Int × Int := (k, a, if kNum k < 2 then 0 else b, if kNum k < 3 then 0 else c)
theorem readRule_line (k a b c : Int) (hg : goodB k a b c = true) (h0 : 0 ≤ a ∧ 0 ≤ b ∧ 0 ≤ c) : readRule (lineL k a b c) = (normR k a b c, 0) := by
  have h := hg
  unfold goodB at h
  simp only [decide_eq_true_eq] at h
  obtain ⟨⟨h1, h5⟩, ⟨ha, hb, hc⟩, hp⟩ := h
  unfold readRule
  rw [cut_line]
  simp only []
  rw [kindOf_word k h1 h5, if_neg (by omega), readL_row _ (fun x hx => by
    have := List.mem_of_mem_take hx
    simp at this
    omega)]
  simp only []
  unfold ruleOf
  rw [if_neg (fun h => h rfl)]
  rcases (show k = 1 ∨ k = 2 ∨ k = 3 ∨ k = 4 ∨ k = 5 by omega) with rfl | rfl | rfl | rfl | rfl
  · rw [if_neg (by simp [kNum]), if_pos (by show goodB 1 a 0 0 = true; unfold goodB; simp; omega)]; rfl
  · rw [if_neg (by simp [kNum]), if_pos (by show goodB 2 a b 0 = true; unfold goodB; simp; omega)]; rfl
  · rw [if_neg (by simp [kNum]), if_pos (by show goodB 3 a b 0 = true; unfold goodB; simp; omega)]; rfl
  · rw [if_neg (by simp [kNum]), if_pos (by exact hg)]; rfl
  · rw [if_neg (by simp [kNum]), if_pos (by exact hg)]; rfl
/-- A line that was read: the rule is good, and the line is its line. -/
theorem readRule_ok (s : ByteArray) (k a b c : Int) (h : readRule s = ((k, a, b, c), 0)) : goodB k a b c = true ∧ lineL k a b c = s ∧ isWords [a, b, c] := by
  unfold readRule at h
  split at h
  · cases h
  · rename_i hk
    obtain ⟨k1, k5, hw⟩ := kindOf_range _ hk
    generalize hK : kindOf ⟨(Lib.cut s.data.toList [32]).1.toArray⟩ = K at *
    unfold ruleOf at h
    split at h
    · rename_i hE
      injection h with h1 h2
      exact absurd h2 hE
    · split at h
      · cases h
      · rename_i hE hlen
        split at h
        · rename_i hg
          have hE' : (readL ⟨(Lib.cut s.data.toList [32]).2.1.toArray⟩).2.2 = 0 := by simpa using hE
          obtain ⟨hT, hW⟩ := readL_text ⟨(Lib.cut s.data.toList [32]).2.1.toArray⟩ (readL ⟨(Lib.cut s.data.toList [32]).2.1.toArray⟩).1 (readL ⟨(Lib.cut s.data.toList [32]).2.1.toArray⟩).2.1 (by rw [← hE'])
          generalize (readL ⟨(Lib.cut s.data.toList [32]).2.1.toArray⟩).1 = L at *
          have hlen' : L.length = kNum K := by simpa using hlen
          injection h with h1 _
          injection h1 with e1 h1
          injection h1 with e2 h1
          injection h1 with e3 e4
          subst e1
          subst e2
          subst e3
          subst e4
          have hn : 1 ≤ kNum K ∧ kNum K ≤ 3 := by unfold kNum; split <;> (try split) <;> omega
          have hLt : [L.getD 0 0, L.getD 1 0, L.getD 2 0].take (kNum K) = L := by
            rw [← hlen']
            match L, hlen', hn with
            | [x], _, _ => rfl
            | [x, y], _, _ => rfl
            | [x, y, z], _, _ => rfl
            | [], h, hn => simp at h; omega
            | _ :: _ :: _ :: _ :: _, h, hn => simp at h; omega
          refine ⟨hg, ?_, fun x hx => ?_⟩
          · have hT' : textL L = (Lib.cut s.data.toList [32]).2.1 := by rw [hT]
            have hw' : (Lib.cut s.data.toList [32]).1 = kWord K := by
              have := congrArg (fun b : ByteArray => b.data.toList) hw
              simpa using this
            unfold lineL
            rw [hLt, hT', ← hw']
            rcases index_cases s.data.toList with hi | ⟨i, hi, hil, he⟩
            · exfalso
              have hc2 : (Lib.cut s.data.toList [32]).2.1 = [] := by unfold Lib.cut; rw [hi, if_neg (by omega)]
              rw [hc2] at hT'
              cases L with
              | nil => simp at hlen'; omega
              | cons x r =>
                unfold textL at hT'
                rw [List.map_cons, Lib.join_cons] at hT'
                exact (digits_spec x.toNat).2.2.1 (List.append_eq_nil_iff.1 hT').1
            · have hc1 : Lib.cut s.data.toList [32] = (s.data.toList.take i, s.data.toList.drop (i + 1), true) := by
                unfold Lib.cut; rw [hi, if_pos (by omega), Int.toNat_natCast]; rfl
              rw [hc1]
              apply ByteArray.ext
              show (s.data.toList.take i ++ 32 :: s.data.toList.drop (i + 1)).toArray = s.data
              rw [← he]
          · have hz : ∀ j, 0 ≤ L.getD j 0 ∧ L.getD j 0 < 18446744073709551616 := fun j => by
              rcases Nat.lt_or_ge j L.length with hj | hj
              · exact hW _ (getD_mem hj)
              · rw [List.getD_eq_getElem?_getD, List.getElem?_eq_none hj]; exact ⟨by decide, by decide⟩
            simp at hx
            rcases hx with rfl | rfl | rfl
            · exact hz 0
            · exact hz 1
            · exact hz 2
        · cases h
theorem readRule_no (s : ByteArray) (h : (readRule s).2 ≠ 0) : (readRule s).1 = (0, 0, 0, 0) := by
  unfold readRule at h ⊢
  split
  · rfl
  · rename_i hk
    rw [if_neg hk] at h
    unfold ruleOf at h ⊢
    split
    · rfl
    · split
      · rfl
      · split
        · rename_i h1 h2 h3
          rw [if_neg h1, if_neg h2, if_pos h3] at h
          exact absurd rfl h
        · rfl
end Go.Proofs.YtcdehndodgefnaaDoor
