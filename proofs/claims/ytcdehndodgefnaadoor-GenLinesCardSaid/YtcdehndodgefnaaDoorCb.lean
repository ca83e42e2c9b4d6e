/- Walks: the reference of layer 4: forms of rows, rows of forms, rows compared. -/
import Derived.Test.YtcdehndodgefnaaDoorProg
import Derived.Test.YtcdehndodgefnaaDoorWd
import Derived.Laws.BytesArg
import Derived.Lib.AppendStr
import Derived.Lib.ConvBytes
set_option linter.unusedVariables false
namespace Go.Proofs.YtcdehndodgefnaaDoor
open Go.RowKit Ab

set_option maxHeartbeats 400000 in
theorem refSame_any (a0 a1 : Option Addr) (n0 n1 c0 c1 : Nat) (l0 l1 : List Int) (w : World) (h0 : Rd w .u64 a0 n0 l0) (h1 : Rd w .u64 a1 n1 l1) :
    Calls Tryd.prog 10 #[.slice a0 n0 c0, .slice a1 n1 c1] w fun e w' => e = .returned (.bool (l0 == l1)) ∧ ∃ m, w' = w.drewN m := by
  obtain ⟨rfl, hn0, hc0⟩ := h0
  obtain ⟨rfl, hn1, hc1⟩ := h1
  have HC0 := Lib.hid hc0
  have HC1 := Lib.hid hc1
  clear hc0 hc1
  by_cases hl : l0.length = l1.length
  · go_enter Tryd.func10, Tryd.ntmps10
    have hne : ((l0.length : Int) != (l1.length : Int)) = false := by rw [hl]; simp
    have HL := Lib.hid hl
    clear hl hne
    have hne : ((l0.length : Int) != (l1.length : Int)) = false := by rw [HL.out]; simp
    go_wp2
    go_loopw [5] (fun i wr => ∃ k m : Nat, k ≤ l0.length ∧ i = .int .i64 k ∧ wr = w.drewN m ∧ Hid (∀ j, j < k → l0.getD j 0 = l1.getD j 0)) (fun i _ => l0.length - (intOf i).toNat)
    case atStart => exact ⟨0, 0, by omega, rfl, rfl, fun j hj => by omega⟩
    case round =>
      obtain ⟨k, m, hk, rfl, rfl, HE⟩ := hrel
      by_cases hlt : k < l0.length
      · have hlt1 : k < l1.length := by rw [← HL.out]; exact hlt
        obtain ⟨ad0, rfl, hcell00⟩ := HC0.out (by omega)
        obtain ⟨ad1, rfl, hcell10⟩ := HC1.out (by omega)
        obtain ⟨x, hx⟩ : ∃ x, x = l0.getD k 0 := ⟨_, rfl⟩
        obtain ⟨y, hy⟩ : ∃ y, y = l1.getD k 0 := ⟨_, rfl⟩
        have hcell0 : w.cell? (ad0.add k) = some (.int .u64 x) := by rw [hx]; exact hcell00 k hlt
        have hcell1 : w.cell? (ad1.add k) = some (.int .u64 y) := by rw [hy]; exact hcell10 k hlt1
        have HX := Lib.hid hx
        have HY := Lib.hid hy
        clear hx hy hcell00 hcell10
        by_cases he : x = y
        · have HE' : Hid (∀ j, j < k + 1 → l0.getD j 0 = l1.getD j 0) := fun j hj => by
            by_cases e : j = k
            · subst e; rw [← HX.out, ← HY.out, he]
            · exact HE.out j (by omega)
          have hb : (x != y) = false := by rw [he]; simp
          clear he
          go_wp2
          go_quiet (fail)
          go_wp2
          go_roundw
          case rel => exact ⟨k + 1, _, by omega, by go_num, rfl, HE'⟩
          case measure => simp [intOf]; omega
        · have hb : (x != y) = true := by rw [bne_iff_ne]; exact he
          have HR : Hid ((l0 == l1) = false) := by
            show _ = _; rw [beq_eq_false_iff_ne]; intro e; rw [e] at HX; exact he (HX.out.trans HY.out.symm)
          clear he
          go_wp2
          go_quiet (fail)
          go_wp2
          go_ret
          exact ⟨ret_bool HR.out.symm, _, World.drewN_drewN ..⟩
      · have HR : Hid ((l0 == l1) = true) := by
          show _ = _; rw [beq_iff_eq]; exact getD_eq_of 0 HL.out fun j hj => HE.out j (by omega)
        go_wp2
        go_ret
        exact ⟨ret_bool HR.out.symm, _, rfl⟩
  · have HR : Hid ((l0 == l1) = false) := by show _ = _; rw [beq_eq_false_iff_ne]; intro e; exact hl (congrArg List.length e)
    have hne : ((l0.length : Int) != (l1.length : Int)) = true := by rw [bne_iff_ne]; omega
    clear hl
    go_enter Tryd.func10, Tryd.ntmps10
    go_wp2
    go_ret
    exact ⟨ret_bool HR.out.symm, 0, rfl⟩

set_option maxRecDepth 100000 in
set_option maxHeartbeats 400000 in
theorem refPut_any (a : Option Addr) (n c : Nat) (l : List Int) (w : World) (h : Rd w .u64 a n l) (hl : l.length ≤ 1000000) (hlw : isWords l) :
    Calls Tryd.prog 9 #[.slice a n c] w fun e w' => e = .returned (.string (strOfNums (form l))) ∧ Below w.heap.size w w' := by
  obtain ⟨rfl, hn, hc⟩ := h
  have HC := Lib.hid hc
  clear hc
  go_enter Tryd.func9, Tryd.ntmps9
  go_wp2
  go_loopw [3, 4, 5, 6] (fun s i _ _ wr => ∃ k : Nat, k ≤ l.length ∧ i = .int .i64 k ∧ s = .string (strOfNums (form (l.take k))) ∧ Hid (Below w.heap.size w wr)) (fun _ i _ _ _ => l.length - (intOf i).toNat)
  case atStart => exact ⟨0, by omega, rfl, rfl, Below.refl _ _⟩
  case round =>
    obtain ⟨k, hk, rfl, rfl, HB⟩ := hrel
    by_cases hlt : k < l.length
    · obtain ⟨ad, rfl, hcell0⟩ := HC.out (by omega)
      obtain ⟨x0, hx⟩ : ∃ x, x = l.getD k 0 := ⟨_, rfl⟩
      have hcell : wr.cell? (ad.add k) = some (.int .u64 x0) := by rw [hx]; exact (HB.out.cell (World.block_lt_of_cell? w _ (hcell0 k hlt))).trans (hcell0 k hlt)
      have hxr := hlw _ (getD_mem hlt)
      rw [← hx] at hxr
      obtain ⟨HX0, HX1⟩ := hxr
      have HX := Lib.hid hx
      clear hx hcell0
      go_wp2
      go_loopw [3, 5, 6] (fun s x j w2 => ∃ q : Nat, q ≤ 8 ∧ j = .int .i64 q ∧ s = .string (strOfNums (form (l.take k) ++ (lb 8 x0).take q)) ∧ x = .int .u64 (x0 / 256 ^ q) ∧ Hid (Below w.heap.size w w2)) (fun _ _ j _ => 8 - (intOf j).toNat)
      case atStart => exact ⟨0, by omega, rfl, by rw [List.take_zero, List.append_nil], by simp, HB⟩
      case round =>
        obtain ⟨q, hq, rfl, rfl, rfl, HB2⟩ := hrel
        by_cases hlt2 : q < 8
        · obtain ⟨S, hS⟩ : ∃ S, S = strOfNums (form (l.take k) ++ (lb 8 x0).take q) := ⟨_, rfl⟩
          rw [← hS]
          have HS := Lib.hid hS
          clear hS
          obtain ⟨y, hy⟩ : ∃ y, y = x0 / 256 ^ q := ⟨_, rfl⟩
          rw [← hy]
          have hy0 : 0 ≤ y := by rw [hy]; exact Int.ediv_nonneg HX0 (Int.le_of_lt (Int.pow_pos (by decide)))
          have hy1 : y < 18446744073709551616 := by rw [hy]; exact Int.lt_of_le_of_lt (Int.ediv_le_self _ HX0) HX1
          have HY := Lib.hid hy
          clear hy
          have hcv := run_byte_string (P := Tryd.prog) wr 23 5 9 Tryd.underlying23 Tryd.underlying5 Tryd.underlying9 (y % 256)
          have hsz : S.size + (strOfNums [y % 256]).size ≤ 9223372036854775807 := by
            rw [HS.out, strOfNums_size, strOfNums_size, List.length_append, List.length_take, lb_length]
            have := form_length (l.take k)
            rw [List.length_take] at this
            simp only [List.length_singleton]; omega
          have had := fun w => run_string_add_sum (P := Tryd.prog) w S (strOfNums [y % 256]) hsz
          clear hsz
          have HN : Hid (S ++ strOfNums [y % 256] = strOfNums (form (l.take k) ++ (lb 8 x0).take (q + 1))) := by
            show _ = _
            rw [HS.out, strOfNums_append, List.append_assoc, lb_take 8 x0 q hlt2, ← pow_two_eight, HY.out]
          have HY' : Hid (y / 256 = x0 / 256 ^ (q + 1)) := by
            show _ = _
            rw [HY.out, Int.ediv_ediv_of_nonneg (Int.le_of_lt (Int.pow_pos (by decide))), Int.pow_succ]
          go_wp2
          go_roundw
          case rel => exact ⟨q + 1, by omega, by go_num, congrArg Value.string HN.out, congrArg (Value.int .u64) HY'.out, HB2.out.alloc HB2.out.size _⟩
          case measure => simp [intOf]; omega
        · obtain rfl : q = 8 := by omega
          go_wp2
          go_roundw
          case rel => exact ⟨k + 1, by omega, by go_num, by rw [form_take_succ hlt, ← HX.out, List.take_of_length_le (l := lb 8 x0) (by rw [lb_length]; omega)], HB2⟩
          case measure => simp [intOf]; omega
    · obtain rfl : k = l.length := by omega
      go_wp2
      go_ret
      exact ⟨by rw [List.take_length]; rfl, HB.out⟩
end Go.Proofs.YtcdehndodgefnaaDoor
