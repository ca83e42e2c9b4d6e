/- Walks: the reference's words of a text, and its row of a text. -/
import Derived.Test.YtcdehndodgefnaaDoorProg
import Derived.Test.YtcdehndodgefnaaDoorWd
import Derived.OwnWalk
import Derived.Laws.AppendOwn
set_option linter.unusedVariables false
namespace Go.Proofs.YtcdehndodgefnaaDoor
open Go.RowKit Ab

/-- A text's bytes as numbers. -/
def nm (s : ByteArray) : List Int := s.data.toList.map fun b => (b.toNat : Int)
theorem nm_length (s : ByteArray) : (nm s).length = s.size := by rw [nm, List.length_map, Array.length_toList]; rfl
theorem nm_bytes (s : ByteArray) : isBytes (nm s) := by
  intro x hx
  obtain ⟨b, _, rfl⟩ := List.mem_map.1 hx
  have := b.toNat_lt
  omega
theorem nm_at (s : ByteArray) (i : Nat) (h : i < s.size) : ((s[i]'h).toNat : Int) = (nm s).getD i 0 := by
  rw [getD_at 0 (by rw [nm_length]; exact h)]
  simp [nm]; rfl
theorem strOfNums_nm (s : ByteArray) : strOfNums (nm s) = s := by
  apply ByteArray.ext
  simp only [strOfNums, nm, List.map_map]
  rw [show ((fun n : Int => UInt8.ofNat n.toNat) ∘ fun b : UInt8 => (b.toNat : Int)) = id from funext fun b => by simp]
  simp
theorem nm_strOfNums {xs : List Int} (h : isBytes xs) : nm (strOfNums xs) = xs := by
  simp only [nm, strOfNums, List.map_map]
  conv => rhs; rw [← List.map_id xs]
  refine List.map_congr_left fun x hx => ?_
  have := h x hx
  simp; omega

set_option maxHeartbeats 400000 in
theorem refWord_any (s : ByteArray) (p : Nat) (w : World) (hp : p + 8 ≤ s.size) (hs : s.size ≤ 9223372036854775807) :
    Calls Tryd.prog 21 #[.string s, .int .i64 p] w fun e w' => e = .returned (.int .u64 (lw (((nm s).drop p).take 8))) ∧ w = w' := by
  go_enter Tryd.func21, Tryd.ntmps21
  go_wp2
  go_loop [5, 6] (fun v i => ∃ m : Nat, m ≤ 8 ∧ i = .int .i64 ((m : Int) - 1) ∧ v = .int .u64 (lw ((((nm s).drop p).take 8).drop m))) (fun _ i => (intOf i + 1).toNat)
  case atStart => exact ⟨8, Nat.le_refl _, rfl, by rw [List.drop_of_length_le (by rw [List.length_take]; omega)]; rfl⟩
  case round =>
    obtain ⟨m, hm, rfl, rfl⟩ := hrel
    cases m with
    | zero =>
      go_wp2
      go_ret
      exact ⟨rfl, rfl⟩
    | succ m =>
      obtain ⟨x, hx'⟩ : ∃ x, x = (((nm s).drop p).take 8).getD m 0 := ⟨_, rfl⟩
      have hL : (((nm s).drop p).take 8).length = 8 := by rw [List.length_take, List.length_drop, nm_length]; omega
      have hB : isBytes (((nm s).drop p).take 8) := fun z hz => nm_bytes s z (List.mem_of_mem_drop (List.mem_of_mem_take hz))
      have hcell : ∀ h : p + m < s.size, ((s[p + m]'h).toNat : Int) = x := fun h => by rw [nm_at s _ h, hx', getD_take _ 0 (by omega), getD_drop]
      have hx0 := (hB _ (getD_mem (j := m) (by omega))).1
      have hx1 := (hB _ (getD_mem (j := m) (by omega))).2
      rw [← hx'] at hx0 hx1
      obtain ⟨y, hy⟩ : ∃ y, y = lw ((((nm s).drop p).take 8).drop (m + 1)) := ⟨_, rfl⟩
      rw [← hy]
      obtain ⟨hy0, hy1⟩ := lw_drop_succ hB m hL
      rw [← hy] at hy0 hy1
      have HR : Hid (256 * y + x = lw ((((nm s).drop p).take 8).drop m)) := by
        show _ = _
        rw [lw_drop (xs := ((nm s).drop p).take 8) (m := m) (by omega), hx', hy, Int.add_comm]
      clear hx' hy hL hB
      go_wp2
      go_round
      case rel => exact ⟨m, by omega, rfl, congrArg (Value.int .u64) HR.out⟩
      case measure => simp [intOf]

theorem info35 : (Tryd.prog.info? 35).map (fun i => (i.zero, i.size, i.bytes)) = some (some (.int .u64 0), 1, 8) := by kernel_rfl

theorem refTake_short (s : ByteArray) (w : World) (hs : s.size ≤ 1000000) (h8 : s.size % 8 ≠ 0) :
    Calls Tryd.prog 8 #[.string s] w fun e w' => e = .returned (.tuple #[.slice none 0 0, .int .i64 ((8 * (s.size / 8) : Nat) : Int), .int .i64 15]) ∧ w = w' := by
  have hne : ((s.size : Int) != 8 * ((s.size : Int) / 8)) = true := by rw [bne_iff_ne]; omega
  clear h8
  go_enter Tryd.func8, Tryd.ntmps8
  go_wp2
  go_ret3
  exact ⟨rfl, rfl⟩

set_option maxRecDepth 100000 in
set_option maxHeartbeats 1000000 in
theorem refTake_whole (s : ByteArray) (w : World) (hs : s.size ≤ 1000000) (h8 : s.size % 8 = 0) :
    Calls Tryd.prog 8 #[.string s] w fun e w' => ∃ v, e = .returned (.tuple #[v, .int .i64 (takeL (nm s)).2.1, .int .i64 (takeL (nm s)).2.2]) ∧ Own w' w.heap.size 35 .u64 v (takeL (nm s)).1 ∧ Below w.heap.size w w' := by
  have hne : ((s.size : Int) != 8 * ((s.size : Int) / 8)) = false := by rw [bne_eq_false_iff_eq]; omega
  obtain ⟨n, hn⟩ : ∃ n, n = s.size / 8 := ⟨_, rfl⟩
  have hn8 : s.size = 8 * n := by omega
  have HT : Hid (takeL (nm s) = if badIdx (wordsOf (nm s) n) < 0 then (wordsOf (nm s) n, 0, 0) else ([], 8 * badIdx (wordsOf (nm s) n), 3)) := by
    show _ = _
    rw [takeL, nm_length, if_neg (by omega), hn]
  have HN := Lib.hid hn8
  obtain ⟨i0, hi, hz0, hz1, hz2⟩ := info_parts info35
  clear h8 hn hn8
  go_enter Tryd.func8, Tryd.ntmps8
  go_wp2
  go_loopw [6, 7, 8] (fun v i _ wr => ∃ k : Nat, (k : Int) ≤ (s.size : Int) / 8 ∧ i = .int .i64 k ∧ Hid (∀ j, j < k → (wordsOf (nm s) k).getD j 0 < 18446744069414584321) ∧ Hid (Own wr w.heap.size 35 .u64 v (wordsOf (nm s) k)) ∧ Hid (Below w.heap.size w wr)) (fun _ i _ _ => s.size - (intOf i).toNat)
  case atStart => exact ⟨0, by omega, rfl, fun j hj => by omega, Own.nil _ _ _ _, Below.refl _ _⟩
  case round =>
    obtain ⟨k, hk, rfl, HG, HO, HB⟩ := hrel
    by_cases hlt : (k : Int) < (s.size : Int) / 8
    · obtain ⟨x, hx⟩ : ∃ x, x = lw (((nm s).drop (8 * k)).take 8) := ⟨_, rfl⟩
      have hc := refWord_any s (8 * k) wr (by omega) (by omega)
      rw [← hx] at hc
      have HC := Lib.hid hc
      clear hc
      have HX := Lib.hid hx
      clear hx
      by_cases hg : 18446744069414584321 ≤ x
      · go_wp2_with (go_at_call 21; refine HC.out.mono ?_; rintro e w' ⟨rfl, rfl⟩)
        have HR : Hid (badIdx (wordsOf (nm s) n) = k) := by
          have hkn : k < n := by have := HN.out; omega
          refine badIdx_some (by rw [wordsOf_length]; exact hkn) (by rw [wordsOf_getD _ _ _ hkn, ← HX.out]; exact hg) fun j hj => ?_
          have := HG.out j hj
          rwa [wordsOf_getD _ _ _ hj, ← wordsOf_getD (nm s) n j (by omega)] at this
        have HT' : Hid (takeL (nm s) = ([], 8 * (k : Int), 3)) := by show _ = _; rw [HT.out, HR.out, if_neg (by omega)]
        go_ret3
        rw [HT'.out]
        exact ⟨_, rfl, Own.nil _ _ _ _, HB.out⟩
      · go_wp2_with (first
          | (go_at_call 21; refine HC.out.mono ?_; rintro e w' ⟨rfl, rfl⟩)
          | (at_builtin; refine wpList_append_own _ rfl _ _ 22 rfl w.heap.size 35 i0 (.int .u64 0) 1 8 Tryd.underlying22 hi hz0 hz1 hz2 rfl (by decide) _ _ _ rfl (HO.out.alloc _) ⟨wr.heap.size, 0, none⟩ 1 1 [.int .u64 x] rfl rfl ?c1 ?c2 ?c3 ?c4 ?c5 ?_))
        case c1 => exact cell_one _ _ _
        case c2 => intro u hu; simp at hu; subst hu; rfl
        case c3 => rw [wordsOf_length]; unfold maxLen; omega
        case c4 => rw [wordsOf_length]; omega
        case c5 => have := HB.out.size; simp; omega
        intro v' w1 hown hgrow _
        have HO' : Hid (Own w1 w.heap.size 35 .u64 v' (wordsOf (nm s) (k + 1))) := by
          show Own _ _ _ _ _ _
          rw [wordsOf_succ, ← HX.out]; exact Own.snoc hown
        have HB' : Hid (Below w.heap.size w w1) := (HB.out.alloc HB.out.size _).grown hgrow (by have := HB.out.size; simp; omega) (HO.out.base)
        have HG' : Hid (∀ j, j < k + 1 → (wordsOf (nm s) (k + 1)).getD j 0 < 18446744069414584321) := fun j hj => by
          rw [wordsOf_getD _ _ _ hj]
          by_cases e : j = k
          · subst e; rw [← HX.out]; omega
          · have := HG.out j (by omega)
            rwa [wordsOf_getD _ _ _ (by omega)] at this
        clear hown hgrow
        go_wp2
        go_roundw
        case rel => exact ⟨k + 1, by omega, by go_num, HG', HO', HB'⟩
        case measure => simp [intOf]; omega
    · obtain rfl : n = k := by have := HN.out; omega
      have HR : Hid (badIdx (wordsOf (nm s) n) = -1) := badIdx_none fun j hj => HG.out j (by rwa [wordsOf_length] at hj)
      have HT' : Hid (takeL (nm s) = (wordsOf (nm s) n, 0, 0)) := by show _ = _; rw [HT.out, if_pos (by rw [HR.out]; decide)]
      go_wp2
      go_ret3
      rw [HT'.out]
      exact ⟨_, rfl, HO.out, HB.out⟩
end Go.Proofs.YtcdehndodgefnaaDoor
