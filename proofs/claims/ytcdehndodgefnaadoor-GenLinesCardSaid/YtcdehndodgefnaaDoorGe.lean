/- Walks: law 38's awake. -/
import Derived.Test.YtcdehndodgefnaaDoorPa
import Derived.Test.YtcdehndodgefnaaDoorAw
import Derived.Test.YtcdehndodgefnaaDoorDg
set_option linter.unusedVariables false
set_option linter.unusedSimpArgs false
namespace Go.Proofs.YtcdehndodgefnaaDoor
open Go.RowKit Ab Go.Proofs

theorem rd4 (w : World) : Rd (w.alloc (.cells #[.int .u64 3, .int .u64 5, .int .u64 7, .int .u64 9] 35)) .u64 (some ⟨w.heap.size, 0, none⟩) 4 [3, 5, 7, 9] :=
  ⟨rfl, by omega, fun _ => ⟨_, rfl, fun j hj => by
    rw [add_plain, (Blk.new w 35 [.int .u64 3, .int .u64 5, .int .u64 7, .int .u64 9]).cell]
    rcases (show j = 0 ∨ j = 1 ∨ j = 2 ∨ j = 3 by omega) with rfl | rfl | rfl | rfl <;> rfl⟩⟩
theorem line37 : lineL 3 1 7 0 = ⟨#[112, 111, 119, 101, 114, 32, 49, 32, 55]⟩ := by
  have h1 : Lib.decDigits (1 : Int).toNat = [49] := Lib.decDigits_one (by decide)
  have h7 : Lib.decDigits (7 : Int).toNat = [55] := Lib.decDigits_one (by decide)
  have e : [(1 : Int), 7, 0].take (kNum 3) = [1, 7] := rfl
  unfold lineL textL
  rw [e, List.map_cons, List.map_cons, List.map_nil, h1, h7]
  rfl
theorem words170 : isWords [1, 7, 0] := by intro x hx; simp at hx; omega

set_option maxRecDepth 100000 in
set_option maxHeartbeats 2000000 in
theorem awake38 (w : World) (hk : KindsAt w) (htab : Lib.TabIs Tryd.prog w "internal/strconv.uint64pow10" .u64 Lib.pow10Tab) :
    Calls Tryd.prog 12 #[] w fun e w' => e = .returned (.bool true) ∧ Below w.heap.size w w' := by
  have HK := Lib.hid hk
  have HTab := Lib.hid htab
  clear hk htab
  go_enter Tryd.func12, Tryd.ntmps12
  go_wp2_with fail
  refine (genRow_any _).mono ?_
  rintro e w1 ⟨v, rfl, ho, hb1⟩
  obtain ⟨av, cv, rfl, hrv, _⟩ := ho.rd
  have HV := Lib.hid hrv
  have HB1 := Lib.hid hb1
  have FL : Hid (∀ w', Below w1.heap.size w1 w' → Calls Tryd.prog 13 #[.agg #[.int .i64 3, .int .u64 1, .int .u64 7, .int .u64 0]] w' fun e w'' => e = .returned (.string ⟨#[112, 111, 119, 101, 114, 32, 49, 32, 55]⟩) ∧ Below w'.heap.size w' w'') := fun w' hb => by
    have hB : Below w.heap.size w w' := hb1.trans (hb.mono hb1.size)
    have h := genLine_3 1 7 0 w' (by decide) words170 (HK.out.below hB) (tabIs_below HTab.out hB)
    rwa [line37] at h
  clear ho hrv hb1
  have hd0 := (Below.refl w1.heap.size w1).drew
  go_wp2_with fail
  have hS := refSame_any av (some ⟨w1.heap.size, 0, none⟩) 4 4 cv 4 [3, 5, 7, 9] [3, 5, 7, 9] (w1.alloc (.cells #[.int .u64 3, .int .u64 5, .int .u64 7, .int .u64 9] 35)) (((Upd.refl (fun _ => False) _).alloc _).rd (fun _ _ q => q) HV.out) (rd4 w1)
  rw [beq_self_eq_true] at hS
  refine hS.mono ?_
  rintro e w2 ⟨rfl, m2, rfl⟩
  have hB2 : Below w1.heap.size w1 ((w1.alloc (.cells #[.int .u64 3, .int .u64 5, .int .u64 7, .int .u64 9] 35)).drewN m2) := below_drewN ((Below.refl _ _).alloc (Nat.le_refl _) _) m2
  have hL := FL.out _ hB2
  have HB2 := Lib.hid (HB1.out.trans (hB2.mono HB1.out.size))
  clear hS hd0
  have HL := Lib.hid hL
  clear hL hB2
  go_wp2_with fail
  refine HL.out.mono ?_
  rintro e w3 ⟨rfl, hb3⟩
  have HB3 := Lib.hid (HB2.out.trans (hb3.mono HB2.out.size))
  clear hb3
  go_wp2
  go_ret
  exact ⟨rfl, HB3.out⟩
end Go.Proofs.YtcdehndodgefnaaDoor
