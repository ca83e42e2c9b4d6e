/- Walks: rules: which are good. -/
import Derived.Test.YtcdehndodgefnaaDoorGd
import Derived.Test.YtcdehndodgefnaaDoorCa
import Derived.Test.YtcdehndodgefnaaDoorRe
import Derived.Test.YtcdehndodgefnaaDoorTe
import Derived.Outline
set_option linter.unusedVariables false
namespace Go.Proofs.YtcdehndodgefnaaDoor
open Go.RowKit Ab Go.Proofs

def goodB (k a b c : Int) : Bool := decide ((1 ≤ k ∧ k ≤ 5) ∧ (a < 18446744069414584321 ∧ b < 18446744069414584321 ∧ c < 18446744069414584321) ∧ (k = 5 → b < 4294967296 ∧ c < 4294967296))
theorem badIdx3 (a b c : Int) : badIdx [a, b, c] < 0 ↔ a < 18446744069414584321 ∧ b < 18446744069414584321 ∧ c < 18446744069414584321 := by
  unfold badIdx
  by_cases h1 : 18446744069414584321 ≤ a <;> by_cases h2 : 18446744069414584321 ≤ b <;> by_cases h3 : 18446744069414584321 ≤ c <;> simp [List.findIdx?_cons, h1, h2, h3] <;> (intros; omega)
theorem rd3 (w : World) (a b c : Int) : Rd (w.alloc (.cells #[.int .u64 a, .int .u64 b, .int .u64 c] 35)) .u64 (some ⟨w.heap.size, 0, none⟩) 3 [a, b, c] :=
  ⟨rfl, by omega, fun _ => ⟨_, rfl, fun j hj => by
    rw [add_plain, (Blk.new w 35 [.int .u64 a, .int .u64 b, .int .u64 c]).cell]
    rcases (show j = 0 ∨ j = 1 ∨ j = 2 by omega) with rfl | rfl | rfl <;> rfl⟩⟩
set_option maxHeartbeats 1000000 in
theorem genGood_any (k a b c : Int) (w : World) :
    Calls Tryd.prog 26 #[.agg #[.int .i64 k, .int .u64 a, .int .u64 b, .int .u64 c]] w fun e w' => e = .returned (.bool (goodB k a b c)) ∧ Below w.heap.size w w' := by
  have HR : Hid (Rd ((w.alloc (.cells #[.int .i64 k, .int .u64 a, .int .u64 b, .int .u64 c] 38)).alloc (.cells #[.int .u64 a, .int .u64 b, .int .u64 c] 35)) .u64 (some ⟨w.heap.size + 1, 0, none⟩) 3 [a, b, c]) := by
    have := rd3 (w.alloc (.cells #[.int .i64 k, .int .u64 a, .int .u64 b, .int .u64 c] 38)) a b c
    have e : (w.alloc (.cells #[.int .i64 k, .int .u64 a, .int .u64 b, .int .u64 c] 38)).heap.size = w.heap.size + 1 := by simp
    rwa [e] at this
  by_cases h1 : 1 ≤ k ∧ k ≤ 5
  · obtain ⟨h1, h2⟩ := h1
    by_cases hb : badIdx [a, b, c] < 0
    · have hq := (badIdx3 a b c).1 hb
      by_cases h5 : k = 5
      · subst h5
        by_cases hb1 : b < 4294967296
        · by_cases hc1 : c < 4294967296
          · have HG : Hid (goodB 5 a b c = true) := by show _ = _; unfold goodB; simp <;> omega
            clear hq
            go_enter Tryd.func26, Tryd.ntmps26
            go_wp2_with fail
            refine (check_ok (some ⟨w.heap.size + 1, 0, none⟩) 3 3 [a, b, c] _ HR.out (by omega)).mono ?_
            rintro e w' ⟨rfl, rfl⟩
            go_wp2
            go_ret
            exact ⟨ret_bool (by rw [HG.out] <;> first | rfl | (simp <;> omega)), (Upd.below (((Upd.refl _ _).alloc _).alloc _))⟩
          · have HG : Hid (goodB 5 a b c = false) := by show _ = _; unfold goodB; simp <;> omega
            clear hq
            go_enter Tryd.func26, Tryd.ntmps26
            go_wp2_with fail
            refine (check_ok (some ⟨w.heap.size + 1, 0, none⟩) 3 3 [a, b, c] _ HR.out (by omega)).mono ?_
            rintro e w' ⟨rfl, rfl⟩
            go_wp2
            go_ret
            exact ⟨ret_bool (by rw [HG.out] <;> first | rfl | (simp <;> omega)), (Upd.below (((Upd.refl _ _).alloc _).alloc _))⟩
        · have HG : Hid (goodB 5 a b c = false) := by show _ = _; unfold goodB; simp <;> omega
          clear hq
          go_enter Tryd.func26, Tryd.ntmps26
          go_wp2_with fail
          refine (check_ok (some ⟨w.heap.size + 1, 0, none⟩) 3 3 [a, b, c] _ HR.out (by omega)).mono ?_
          rintro e w' ⟨rfl, rfl⟩
          go_wp2
          go_ret
          exact ⟨ret_bool (by rw [HG.out] <;> first | rfl | (simp <;> omega)), (Upd.below (((Upd.refl _ _).alloc _).alloc _))⟩
      · have HG : Hid (goodB k a b c = true) := by show _ = _; unfold goodB; simp <;> omega
        have hk5 : (k != 5) = true := by rw [bne_iff_ne]; exact h5
        clear hq h5
        go_enter Tryd.func26, Tryd.ntmps26
        go_wp2_with fail
        refine (check_ok (some ⟨w.heap.size + 1, 0, none⟩) 3 3 [a, b, c] _ HR.out (by omega)).mono ?_
        rintro e w' ⟨rfl, rfl⟩
        go_wp2
        go_ret
        exact ⟨ret_bool (by rw [HG.out] <;> first | rfl | (simp <;> omega)), (Upd.below (((Upd.refl _ _).alloc _).alloc _))⟩
    · have HG : Hid (goodB k a b c = false) := by show _ = _; unfold goodB; have := mt (badIdx3 a b c).2 hb; simp <;> omega
      go_enter Tryd.func26, Tryd.ntmps26
      go_wp2_with fail
      refine (check_no (some ⟨w.heap.size + 1, 0, none⟩) 3 3 [a, b, c] _ HR.out (by omega)).mono ?_
      rintro e w' ⟨rfl, rfl⟩
      go_wp2
      go_ret
      exact ⟨ret_bool (by rw [HG.out] <;> first | rfl | (simp <;> omega)), (Upd.below (((Upd.refl _ _).alloc _).alloc _))⟩
  · have HG : Hid (goodB k a b c = false) := by show _ = _; unfold goodB; simp <;> omega
    by_cases h2 : k < 1
    · clear h1
      go_enter Tryd.func26, Tryd.ntmps26
      go_wp2
      go_ret
      exact ⟨ret_bool (by rw [HG.out]), (Upd.below ((Upd.refl _ _).alloc _))⟩
    · have h3 : 5 < k := by omega
      clear h1
      go_enter Tryd.func26, Tryd.ntmps26
      go_wp2
      go_ret
      exact ⟨ret_bool (by rw [HG.out]), (Upd.below ((Upd.refl _ _).alloc _))⟩
end Go.Proofs.YtcdehndodgefnaaDoor
