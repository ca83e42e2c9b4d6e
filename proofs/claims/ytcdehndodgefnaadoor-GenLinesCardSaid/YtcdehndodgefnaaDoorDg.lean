/- Walks: the reference of layer 4: digits, texts; and of layer 38: good rules. -/
import Derived.Test.YtcdehndodgefnaaDoorGn
import Derived.Test.YtcdehndodgefnaaDoorCb
import Derived.Lib.ItoaNum
set_option linter.unusedVariables false
namespace Go.Proofs.YtcdehndodgefnaaDoor
open Go.RowKit Ab Go.Proofs

set_option maxHeartbeats 1000000 in
theorem ref38Good_any (k a b c : Int) (w : World) :
    Calls Tryd.prog 15 #[.agg #[.int .i64 k, .int .u64 a, .int .u64 b, .int .u64 c]] w fun e w' => e = .returned (.bool (goodB k a b c)) ∧ Below w.heap.size w w' := by
  have h0 := True.intro
  by_cases ha : 18446744069414584321 ≤ a
  · skip
    have HG : Hid (goodB k a b c = false) := by show _ = _; unfold goodB; simp <;> omega
    clear h0
    go_enter Tryd.func15, Tryd.ntmps15
    go_wp2
    go_ret
    exact ⟨ret_bool (by rw [HG.out] <;> first | rfl | (simp <;> omega)), Upd.below ((Upd.refl _ _).alloc _)⟩
  · by_cases hb : 18446744069414584321 ≤ b
    · skip
      have HG : Hid (goodB k a b c = false) := by show _ = _; unfold goodB; simp <;> omega
      clear h0
      go_enter Tryd.func15, Tryd.ntmps15
      go_wp2
      go_ret
      exact ⟨ret_bool (by rw [HG.out] <;> first | rfl | (simp <;> omega)), Upd.below ((Upd.refl _ _).alloc _)⟩
    · by_cases hc : 18446744069414584321 ≤ c
      · skip
        have HG : Hid (goodB k a b c = false) := by show _ = _; unfold goodB; simp <;> omega
        clear h0
        go_enter Tryd.func15, Tryd.ntmps15
        go_wp2
        go_ret
        exact ⟨ret_bool (by rw [HG.out] <;> first | rfl | (simp <;> omega)), Upd.below ((Upd.refl _ _).alloc _)⟩
      · by_cases h5 : k = 5
        · subst h5
          by_cases hb1 : b < 4294967296
          · by_cases hc1 : c < 4294967296
            · have HG : Hid (goodB 5 a b c = true) := by show _ = _; unfold goodB; simp <;> omega
              go_enter Tryd.func15, Tryd.ntmps15
              go_wp2
              go_ret
              exact ⟨ret_bool (by rw [HG.out] <;> first | rfl | (simp <;> omega)), Upd.below ((Upd.refl _ _).alloc _)⟩
            · have HG : Hid (goodB 5 a b c = false) := by show _ = _; unfold goodB; simp <;> omega
              go_enter Tryd.func15, Tryd.ntmps15
              go_wp2
              go_ret
              exact ⟨ret_bool (by rw [HG.out] <;> first | rfl | (simp <;> omega)), Upd.below ((Upd.refl _ _).alloc _)⟩
          · have HG : Hid (goodB 5 a b c = false) := by show _ = _; unfold goodB; simp <;> omega
            go_enter Tryd.func15, Tryd.ntmps15
            go_wp2
            go_ret
            exact ⟨ret_bool (by rw [HG.out] <;> first | rfl | (simp <;> omega)), Upd.below ((Upd.refl _ _).alloc _)⟩
        · have hk5 : (k == 5) = false := by simpa using h5
          by_cases h1 : 1 ≤ k
          · by_cases h4 : k ≤ 4
            · skip
              have HG : Hid (goodB k a b c = true) := by show _ = _; unfold goodB; simp <;> omega
              clear h5
              go_enter Tryd.func15, Tryd.ntmps15
              go_wp2
              go_ret
              exact ⟨ret_bool (by rw [HG.out] <;> first | rfl | (simp <;> omega)), Upd.below ((Upd.refl _ _).alloc _)⟩
            · skip
              have HG : Hid (goodB k a b c = false) := by show _ = _; unfold goodB; simp <;> omega
              clear h5
              go_enter Tryd.func15, Tryd.ntmps15
              go_wp2
              go_ret
              exact ⟨ret_bool (by rw [HG.out] <;> first | rfl | (simp <;> omega)), Upd.below ((Upd.refl _ _).alloc _)⟩
          · skip
            have HG : Hid (goodB k a b c = false) := by show _ = _; unfold goodB; simp <;> omega
            clear h5
            go_enter Tryd.func15, Tryd.ntmps15
            go_wp2
            go_ret
            exact ⟨ret_bool (by rw [HG.out] <;> first | rfl | (simp <;> omega)), Upd.below ((Upd.refl _ _).alloc _)⟩

theorem digits_step (m : Nat) (S : List UInt8) (D : List UInt8) (h : Lib.decDigits m ++ S = D) :
    (m / 10 = 0 → UInt8.ofNat (48 + m % 10) :: S = D) ∧ (m / 10 ≠ 0 → Lib.decDigits (m / 10) ++ (UInt8.ofNat (48 + m % 10) :: S) = D) := by
  constructor
  · intro h0
    rw [← h, Lib.decDigits_one (by omega), show m % 10 = m from by omega]; rfl
  · intro h0
    have e : Lib.decDigits m = Lib.decDigits (m / 10) ++ [UInt8.ofNat (48 + m % 10)] := by
      conv => lhs; rw [Lib.decDigits]
      rw [dif_neg (by omega)]
    rw [← h, e]; simp
theorem byte_cons (n : Nat) (h : n < 256) (S : List UInt8) : strOfNums [(n : Int)] ++ ⟨S.toArray⟩ = (⟨(UInt8.ofNat n :: S).toArray⟩ : ByteArray) := by
  apply ByteArray.ext
  rw [ByteArray.data_append]
  simp [strOfNums]
set_option maxRecDepth 100000 in
set_option maxHeartbeats 1000000 in
theorem refDigits_any (u : Nat) (w : World) (hu : u < 18446744073709551616) :
    Calls Tryd.prog 28 #[.int .u64 u] w fun e w' => e = .returned (.string ⟨(Lib.decDigits u).toArray⟩) ∧ Below w.heap.size w w' := by
  go_enter Tryd.func28, Tryd.ntmps28
  go_wp2
  go_loopw [0, 3] (fun x s wr => ∃ (m : Nat) (S : List UInt8) (T : ByteArray), x = .int .u64 m ∧ s = .string T ∧ m < 18446744073709551616 ∧ Hid (T = ⟨S.toArray⟩) ∧ Hid (Lib.decDigits m ++ S = Lib.decDigits u) ∧ Hid (Below w.heap.size w wr)) (fun x _ _ => (intOf x).toNat)
  case atStart => exact ⟨u, [], ⟨#[]⟩, rfl, rfl, hu, rfl, by show _ = _; simp, Below.refl _ _⟩
  case round =>
    obtain ⟨m, S, T, rfl, rfl, hm, HT, HD, HB⟩ := hrel
    have hst := digits_step m S _ HD.out
    have hlen : S.length ≤ 20 := by
      have h1 := congrArg List.length HD.out
      rw [List.length_append, Lib.decDigits_length u] at h1
      have := Lib.nDigits_le20 u hu; omega
    have hTs : T.size ≤ 20 := by rw [HT.out]; simpa [ByteArray.size] using hlen
    have hcv := run_byte_string (P := Tryd.prog) wr 23 5 9 Tryd.underlying23 Tryd.underlying5 Tryd.underlying9 (48 + (m : Int) % 10)
    have hadd := fun W => run_string_add_sum (P := Tryd.prog) W (strOfNums [48 + (m : Int) % 10]) T (by rw [strOfNums_size, List.length_singleton]; omega)
    have HN : Hid (strOfNums [48 + (m : Int) % 10] ++ T = ⟨(UInt8.ofNat (48 + m % 10) :: S).toArray⟩) := by
      show _ = _
      rw [HT.out, ← byte_cons (48 + m % 10) (by omega) S]; congr 2
    by_cases h0 : m / 10 = 0
    · have HR := Lib.hid (hst.1 h0)
      have hb0 : ((m : Int) / 10 == 0) = true := by rw [beq_iff_eq]; omega
      clear hst h0 hlen
      go_wp2
      go_ret
      exact ⟨by rw [HN.out, HR.out]; rfl, HB.out.alloc HB.out.size _⟩
    · have HR := Lib.hid (hst.2 h0)
      have hb0 : ((m : Int) / 10 == 0) = false := by rw [beq_eq_false_iff_ne]; omega
      have hm1 : 1 ≤ m := by omega
      clear hst h0 hlen
      go_wp2
      go_roundw
      case rel => exact ⟨m / 10, _, _, by go_num, rfl, by omega, HN, HR, HB.out.alloc HB.out.size _⟩
      case measure => simp [intOf]; omega
theorem add_zero0 (a : Addr) : a.add 0 = a := by
  obtain ⟨b, o, s⟩ := a
  unfold Addr.add
  split <;> simp_all
theorem join_snoc (L : List (List UInt8)) (x : List UInt8) (h : L ≠ []) : Lib.join (L ++ [x]) [32] = Lib.join L [32] ++ 32 :: x := by
  cases L with
  | nil => exact absurd rfl h
  | cons y r => rw [List.cons_append, Lib.join_cons, Lib.join_cons]; simp [Lib.joinTail]
set_option maxRecDepth 100000 in
set_option maxHeartbeats 2000000 in
theorem refText_any (a : Option Addr) (n c : Nat) (l : List Int) (w : World) (h : Rd w .u64 a n l) (hn : n ≤ 1000) (hlw : isWords l) :
    Calls Tryd.prog 16 #[.slice a n c] w fun e w' => e = .returned (.string ⟨(Lib.join (l.map fun x => Lib.decDigits x.toNat) [32]).toArray⟩) ∧ Below w.heap.size w w' := by
  obtain ⟨rfl, hn', hc⟩ := h
  have HC := Lib.hid hc
  have HW := Lib.hid hlw
  clear hc hlw
  go_enter Tryd.func16, Tryd.ntmps16
  go_wp2
  go_loopw [3, 4] (fun s i wr => ∃ (k : Nat) (T : ByteArray), k ≤ l.length ∧ i = .int .i64 k ∧ s = .string T ∧ T.size ≤ 21 * k ∧ Hid (T = ⟨(Lib.join ((l.take k).map fun x => Lib.decDigits x.toNat) [32]).toArray⟩) ∧ Hid (Below w.heap.size w wr)) (fun _ i _ => l.length - (intOf i).toNat)
  case atStart => exact ⟨0, ⟨#[]⟩, by omega, rfl, rfl, by decide, rfl, Below.refl _ _⟩
  case round =>
    obtain ⟨k, T, hk, rfl, rfl, hTs, HT, HB⟩ := hrel
    by_cases hlt : k < l.length
    · obtain ⟨ad, rfl, hcell0⟩ := HC.out (by omega)
      obtain ⟨x, hx⟩ : ∃ x, x = l.getD k 0 := ⟨_, rfl⟩
      have hxr := HW.out _ (getD_mem hlt)
      rw [← hx] at hxr
      obtain ⟨u, rfl⟩ : ∃ u : Nat, x = u := ⟨x.toNat, by omega⟩
      have hcell : wr.cell? (ad.add k) = some (.int .u64 u) := by rw [hx]; exact (HB.out.cell (World.block_lt_of_cell? w _ (hcell0 k hlt))).trans (hcell0 k hlt)
      obtain ⟨D, hD⟩ : ∃ D : ByteArray, D = ⟨(Lib.decDigits u).toArray⟩ := ⟨_, rfl⟩
      have hDs : D.size ≤ 20 := by rw [hD]; show (Lib.decDigits u).toArray.size ≤ 20; rw [List.size_toArray, Lib.decDigits_length]; exact Lib.nDigits_le20 _ (by omega)
      have hF := refDigits_any u wr (by omega)
      rw [← hD] at hF
      have HF := Lib.hid hF
      have HX := Lib.hid hx
      have HD := Lib.hid hD
      clear hx hcell0 hxr hD hF
      have hadd1 := fun W => run_string_add_sum (P := Tryd.prog) W T ⟨#[32]⟩ (by show T.size + 1 ≤ _; omega)
      by_cases hk0 : 0 < k
      · have hadd2 := fun W => run_string_add_sum (P := Tryd.prog) W (T ++ ⟨#[32]⟩) D (by rw [ByteArray.size_append]; show T.size + 1 + D.size ≤ _; omega)
        have HN : Hid (T ++ ⟨#[32]⟩ ++ D = ⟨(Lib.join ((l.take (k + 1)).map fun x => Lib.decDigits x.toNat) [32]).toArray⟩) := by
          show _ = _
          rw [take_succ_getD 0 hlt, List.map_append, List.map_cons, List.map_nil, join_snoc _ _ (by rw [Ne, List.map_eq_nil_iff]; intro e; have := congrArg List.length e; rw [List.length_take, List.length_nil] at this; omega), ← HX.out, HT.out, HD.out]
          apply ByteArray.ext; rw [ByteArray.data_append, ByteArray.data_append]; simp
        have hNs : (T ++ ⟨#[32]⟩ ++ D).size ≤ 21 * (k + 1) := by rw [ByteArray.size_append, ByteArray.size_append]; show T.size + 1 + D.size ≤ _; omega
        go_wp2_with fail
        refine HF.out.mono ?_
        rintro e w2 ⟨rfl, hb2⟩
        have HB2 : Hid (Below w.heap.size w w2) := HB.out.trans (hb2.mono HB.out.size)
        clear hb2
        go_wp2
        go_roundw
        case rel => exact ⟨k + 1, _, by omega, by go_num, rfl, hNs, HN, HB2⟩
        case measure => simp [intOf]; omega
      · obtain rfl : k = 0 := by omega
        have hcell0 : wr.cell? ad = some (.int .u64 u) := by rw [add_zero0] at hcell; exact hcell
        have hadd2 := fun W => run_string_add_sum (P := Tryd.prog) W T D (by omega)
        have HN : Hid (T ++ D = ⟨(Lib.join ((l.take (0 + 1)).map fun x => Lib.decDigits x.toNat) [32]).toArray⟩) := by
          show _ = _
          rw [take_succ_getD 0 hlt, ← HX.out, HT.out, HD.out]
          apply ByteArray.ext; rw [ByteArray.data_append]; simp [Lib.join]
        have hNs : (T ++ D).size ≤ 21 * (0 + 1) := by rw [ByteArray.size_append]; omega
        go_wp2_with fail
        refine HF.out.mono ?_
        rintro e w2 ⟨rfl, hb2⟩
        have HB2 : Hid (Below w.heap.size w w2) := HB.out.trans (hb2.mono HB.out.size)
        clear hb2
        go_wp2
        go_roundw
        case rel => exact ⟨0 + 1, _, by omega, by go_num, rfl, hNs, HN, HB2⟩
        case measure => simp [intOf]; omega
    · obtain rfl : k = l.length := by omega
      go_wp2
      go_ret
      exact ⟨by rw [HT.out, List.take_length]; rfl, HB.out⟩
end Go.Proofs.YtcdehndodgefnaaDoor
