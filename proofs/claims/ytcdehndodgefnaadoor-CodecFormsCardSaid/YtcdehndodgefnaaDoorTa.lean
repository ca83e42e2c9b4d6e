/- Plain laws of the form of a row; codec.Take and its reference, in one piece each. -/
import Derived.Test.YtcdehndodgefnaaDoorAw
import Derived.Test.YtcdehndodgefnaaDoorCb
import Derived.Test.YtcdehndodgefnaaDoorCc
namespace Go.Proofs.YtcdehndodgefnaaDoor
open Go.RowKit Ab Go.Proofs

theorem wordsOf_cons (bs : List Int) (n : Nat) : wordsOf bs (n + 1) = lw (bs.take 8) :: wordsOf (bs.drop 8) n := by
  rw [wordsOf, List.range_succ_eq_map, List.map_cons, List.map_map]
  refine congr (congrArg List.cons (by simp)) ?_
  rw [wordsOf]
  refine List.map_congr_left fun i _ => ?_
  rw [Function.comp_apply, List.drop_drop, show 8 * (i + 1) = 8 + 8 * i from by omega]
theorem wordsOf_form : ∀ (l : List Int), isWords l → wordsOf (form l) l.length = l
  | [], _ => rfl
  | a :: t, h => by
    have e : form (a :: t) = lb 8 a ++ form t := rfl
    have ha := h a (by simp)
    rw [List.length_cons, wordsOf_cons, e, List.take_append_of_le_length (by rw [lb_length]; omega), List.take_of_length_le (by rw [lb_length]; omega), lw_lb,
      List.drop_append_of_le_length (by rw [lb_length]; omega), List.drop_of_length_le (by rw [lb_length]; omega), List.nil_append, wordsOf_form t (fun x hx => h x (by simp [hx]))]
    rw [show (256 : Int) ^ 8 = 18446744073709551616 from by decide, Int.emod_eq_of_lt ha.1 ha.2]
theorem form_wordsOf : ∀ (n : Nat) (bs : List Int), isBytes bs → bs.length = 8 * n → form (wordsOf bs n) = bs
  | 0, bs, _, h => by obtain rfl : bs = [] := List.eq_nil_of_length_eq_zero (by omega); rfl
  | n + 1, bs, hb, h => by
    rw [wordsOf_cons, form, List.flatMap_cons, ← form, form_wordsOf n (bs.drop 8) (fun x hx => hb x (List.mem_of_mem_drop hx)) (by rw [List.length_drop]; omega)]
    have h8 : (bs.take 8).length = 8 := by rw [List.length_take]; omega
    have := lb_lw (xs := bs.take 8) (fun x hx => hb x (List.mem_of_mem_take hx))
    rw [h8] at this
    rw [this, List.take_append_drop]
theorem wordsOf_words (bs : List Int) (n : Nat) (hb : isBytes bs) : isWords (wordsOf bs n) := by
  intro x hx
  rw [wordsOf, List.mem_map] at hx
  obtain ⟨i, _, rfl⟩ := hx
  have h := lw_bound (xs := (bs.drop (8 * i)).take 8) (fun x hx => hb x (List.mem_of_mem_drop (List.mem_of_mem_take hx)))
  have h2 := pow_le (a := ((bs.drop (8 * i)).take 8).length) (b := 8) (by rw [List.length_take]; omega)
  have h3 : (256 : Int) ^ 8 = 18446744073709551616 := by decide
  omega
theorem takeL_words (bs : List Int) (hb : isBytes bs) : isWords (takeL bs).1 := by
  have nil : isWords [] := fun x hx => by cases hx
  unfold takeL
  split
  · exact nil
  · split
    · exact wordsOf_words _ _ hb
    · exact nil
theorem takeL_length (bs : List Int) : (takeL bs).1.length ≤ bs.length / 8 := by
  unfold takeL
  split
  · exact Nat.zero_le _
  · split
    · show (wordsOf _ _).length ≤ _; rw [wordsOf_length]; exact Nat.le_refl _
    · exact Nat.zero_le _
/-- A canonical row is taken as it was. -/
theorem takeL_ok (bs : List Int) (hb : isBytes bs) (h : (takeL bs).2.2 = 0) : form (takeL bs).1 = bs := by
  unfold takeL at h ⊢
  split at h
  · cases h
  · rename_i h8
    rw [if_neg h8]
    split at h
    · rename_i hg; rw [if_pos hg]; exact form_wordsOf _ bs hb (by omega)
    · cases h
theorem takeL_form (l : List Int) (h : isWords l) : takeL (form l) = if badIdx l < 0 then (l, 0, 0) else ([], 8 * badIdx l, 3) := by
  unfold takeL
  rw [form_length, if_neg (by omega), show 8 * l.length / 8 = l.length from by omega, wordsOf_form l h]

/-- The text of a row of bytes that can be read. -/
theorem rd_text {w : World} {a : Option Addr} {n : Nat} {xs : List Int} (h : Rd w .u8 a n xs) (c : Nat) (src dst : TypeId) {e : TypeId} (hs : Tryd.prog.underlying src = some (.slice e)) (he : Tryd.prog.underlying e = some (.int .u8)) (hd : Tryd.prog.underlying dst = some .string) :
    (convert src dst (.slice a n c)).run Tryd.prog w = .ok (.string (strOfNums xs)) w := by
  obtain ⟨rfl, hn, hc⟩ := h
  by_cases h0 : 0 < xs.length
  · obtain ⟨ad, rfl, hcell⟩ := hc h0
    have hl : (loadCells ad xs.length).run Tryd.prog w = .ok (xs.map (Value.int .u8)).toArray w := by
      have := run_loadCells_list (P := Tryd.prog) w ad (xs.map (Value.int .u8)) (fun j v hj => by
        have hjl : j < xs.length := by
          rcases Nat.lt_or_ge j xs.length with h | h
          · exact h
          · rw [List.getElem?_eq_none (by rw [List.length_map]; exact h)] at hj; cases hj
        rw [hcell j hjl]
        rw [List.getElem?_map, List.getElem?_eq_getElem hjl] at hj
        rw [getD_at 0 hjl]
        exact hj)
      rwa [List.length_map] at this
    rw [run_convert_bytes_string w src dst e _ xs.length c hs he hd, run_bytesToString w _ xs.length c xs hl, foldl_push_bytes]
    simp [strOfNums, ByteArray.empty, ByteArray.emptyWithCapacity]
    rfl
  · obtain rfl : xs = [] := List.eq_nil_of_length_eq_zero (by omega)
    cases a with
    | none => rw [run_convert_bytes_nil w src e hs he _ _ dst hd]; rfl
    | some ad =>
      have hl : (loadCells ad 0).run Tryd.prog w = .ok (([] : List Int).map (Value.int .u8)).toArray w := run_loadCells_list (P := Tryd.prog) w ad [] (fun j v hj => by simp at hj)
      show (convert src dst (.slice (some ad) 0 c)).run Tryd.prog w = _
      rw [run_convert_bytes_string w src dst e _ 0 c hs he hd, run_bytesToString w _ 0 c [] hl]
      rfl

theorem take_any (a : Option Addr) (n c : Nat) (bs : List Int) (w : World) (h : Rd w .u8 a n bs) (hs : n ≤ 1000000) (hcap : n ≤ c) (hbs : isBytes bs) :
    Calls Tryd.prog 7 #[.slice a n c] w fun e w' => ∃ v, e = .returned (.tuple #[v, .int .i64 (takeL bs).2.1, .int .i64 (takeL bs).2.2]) ∧ Own w' w.heap.size 35 .u64 v (takeL bs).1 ∧ Below w.heap.size w w' := by
  by_cases h8 : n % 8 = 0
  · exact take_whole a n c bs w h hs h8 hcap hbs
  · refine (take_short a n c bs w h hs h8).mono fun e w' ⟨he, hw⟩ => ?_
    have e2 : takeL bs = ([], ((8 * (n / 8) : Nat) : Int), 15) := by unfold takeL; rw [h.1, if_pos h8]
    subst hw
    rw [e2]
    exact ⟨_, he, Own.nil _ _ _ _, Below.refl _ _⟩
theorem refTake_any (s : ByteArray) (w : World) (hs : s.size ≤ 1000000) :
    Calls Tryd.prog 8 #[.string s] w fun e w' => ∃ v, e = .returned (.tuple #[v, .int .i64 (takeL (nm s)).2.1, .int .i64 (takeL (nm s)).2.2]) ∧ Own w' w.heap.size 35 .u64 v (takeL (nm s)).1 ∧ Below w.heap.size w w' := by
  by_cases h8 : s.size % 8 = 0
  · exact refTake_whole s w hs h8
  · refine (refTake_short s w hs h8).mono fun e w' ⟨he, hw⟩ => ?_
    have e2 : takeL (nm s) = ([], ((8 * (s.size / 8) : Nat) : Int), 15) := by unfold takeL; rw [nm_length, if_pos h8]
    subst hw
    rw [e2]
    exact ⟨_, he, Own.nil _ _ _ _, Below.refl _ _⟩
end Go.Proofs.YtcdehndodgefnaaDoor
