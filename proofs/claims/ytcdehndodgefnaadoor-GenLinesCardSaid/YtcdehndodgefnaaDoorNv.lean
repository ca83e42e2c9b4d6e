/- Walks: what is no numeral. -/
import Derived.Test.YtcdehndodgefnaaDoorNu
set_option linter.unusedVariables false
namespace Go.Proofs.YtcdehndodgefnaaDoor
open Go.RowKit Ab Go.Proofs

theorem toList_nil_of {s : ByteArray} (h : s.size = 0) : s.toList = [] := by
  have h2 : s.toList.length = s.size := by rw [ByteArray.toList_eq, Array.length_toList]; rfl
  exact List.length_eq_zero_iff.1 (h2.trans h)
theorem toList_ne_of {s : ByteArray} (h : 0 < s.size) : ¬ s.toList = [] := by
  intro e
  have h2 : s.toList.length = s.size := by rw [ByteArray.toList_eq, Array.length_toList]; rfl
  rw [e] at h2; simp at h2; omega

set_option maxRecDepth 100000 in
theorem numeral_empty (s : ByteArray) (w : World) (hs0 : s.size = 0) :
    Calls Tryd.prog 30 #[.string s] w fun e w' => e = .returned (.tuple #[.int .u64 0, .int .i64 17]) ∧ Below w.heap.size w w' := by
  have hne := toList_nil_of hs0
  have hne2 : s.toList.isEmpty = true := by rw [hne]; rfl
  clear hs0
  go_enter Tryd.func30, Tryd.ntmps30
  go_wp2
  go_ret2
  exact ⟨rfl, Below.refl _ _⟩

set_option maxRecDepth 100000 in
set_option maxHeartbeats 1000000 in
theorem numeral_signs (s : ByteArray) (w : World) (hs0 : 0 < s.size) (hs : s.size ≤ 1000000) (c : UInt8) (r : List UInt8) (ht : Lib.trimS s.data.toList [48, 49, 50, 51, 52, 53, 54, 55, 56, 57] = c :: r) :
    Calls Tryd.prog 30 #[.string s] w fun e w' => e = .returned (.tuple #[.int .u64 0, .int .i64 17]) ∧ Below w.heap.size w w' := by
  have HT := fun W => Lib.hid (trim_any s W hs)
  rw [ht] at HT
  have hne := toList_ne_of hs0
  have hne2 : s.toList.isEmpty = false := by rw [List.isEmpty_eq_false_iff]; exact hne
  clear ht
  go_enter Tryd.func30, Tryd.ntmps30
  go_wp2_with fail
  refine (HT _).out.mono ?_
  rintro e w1 ⟨rfl, hb1⟩
  have HB1 := Lib.hid hb1
  clear hb1 hs0
  go_wp2
  go_ret2
  exact ⟨rfl, HB1.out⟩

set_option maxRecDepth 100000 in
set_option maxHeartbeats 1000000 in
theorem numeral_nought (s : ByteArray) (w : World) (hs0 : 1 < s.size) (hs : s.size ≤ 1000000) (h48 : (nm s).getD 0 0 = 48) (ht : Lib.trimS s.data.toList [48, 49, 50, 51, 52, 53, 54, 55, 56, 57] = []) :
    Calls Tryd.prog 30 #[.string s] w fun e w' => e = .returned (.tuple #[.int .u64 0, .int .i64 17]) ∧ Below w.heap.size w w' := by
  have HT := fun W => Lib.hid (trim_any s W hs)
  rw [ht] at HT
  have hne := toList_ne_of (s := s) (by omega)
  have hne2 : s.toList.isEmpty = false := by rw [List.isEmpty_eq_false_iff]; exact hne
  have hs00 : ∀ h : 0 < s.size, ((s[0]'h).toNat : Int) = 48 := fun h => by rw [nm_at s 0 h, h48]
  have hs01 : 0 < s.size := by omega
  clear ht h48
  go_enter Tryd.func30, Tryd.ntmps30
  go_wp2_with fail
  refine (HT _).out.mono ?_
  rintro e w1 ⟨rfl, hb1⟩
  have HB1 := Lib.hid hb1
  clear hb1
  go_wp2
  go_ret2
  exact ⟨rfl, HB1.out⟩

set_option maxRecDepth 100000 in
set_option maxHeartbeats 1000000 in
theorem numeral_long (s : ByteArray) (w : World) (hs0 : 20 < s.size) (hs : s.size ≤ 1000000) (x0 : Int) (h48 : (nm s).getD 0 0 = x0) (hz : (x0 == 48) = false) (ht : Lib.trimS s.data.toList [48, 49, 50, 51, 52, 53, 54, 55, 56, 57] = []) :
    Calls Tryd.prog 30 #[.string s] w fun e w' => e = .returned (.tuple #[.int .u64 0, .int .i64 14]) ∧ Below w.heap.size w w' := by
  have HT := fun W => Lib.hid (trim_any s W hs)
  rw [ht] at HT
  have hne := toList_ne_of (s := s) (by omega)
  have hne2 : s.toList.isEmpty = false := by rw [List.isEmpty_eq_false_iff]; exact hne
  have hs00 : ∀ h : 0 < s.size, ((s[0]'h).toNat : Int) = x0 := fun h => by rw [nm_at s 0 h, h48]
  have hs01 : 0 < s.size := by omega
  clear ht h48
  go_enter Tryd.func30, Tryd.ntmps30
  go_wp2_with fail
  refine (HT _).out.mono ?_
  rintro e w1 ⟨rfl, hb1⟩
  have HB1 := Lib.hid hb1
  clear hb1
  go_wp2
  go_ret2
  exact ⟨rfl, HB1.out⟩
end Go.Proofs.YtcdehndodgefnaaDoor
