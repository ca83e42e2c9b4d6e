/- Walks: words of a rule; law 38's awake. -/
import Derived.Test.YtcdehndodgefnaaDoorGo2
set_option linter.unusedVariables false
set_option linter.unusedSimpArgs false
namespace Go.Proofs.YtcdehndodgefnaaDoor
open Go.RowKit Ab Go.Proofs

theorem genAt2 (a b c i : Int) (w : World) (ha : 0 ≤ a) (ha1 : a < 18446744069414584321) (hb : 0 ≤ b) (hb1 : b < 18446744069414584321) (hi : 0 ≤ i) (hi1 : i < 4294967296) :
    Calls Tryd.prog 43 #[.agg #[.int .i64 2, .int .u64 a, .int .u64 b, .int .u64 c], .int .i64 i] w fun e w' => e = .returned (.int .u64 ((a + b * i % 18446744069414584321) % 18446744069414584321)) ∧ Below w.heap.size w w' := by
  have hM := fun W => goldMul_any b i W hb (by omega) hi (by omega)
  obtain ⟨p, hp⟩ : ∃ p, p = b * i % 18446744069414584321 := ⟨_, rfl⟩
  rw [← hp] at hM ⊢
  have hA := fun W => goldAdd_any a p W ha (by omega) (by omega) (by omega)
  have HM := Lib.hid hM
  have HA := Lib.hid hA
  clear hM hA hp
  obtain ⟨W, hW⟩ : ∃ W, W = w.alloc (.cells #[.int .i64 2, .int .u64 a, .int .u64 b, .int .u64 c] 38) := ⟨_, rfl⟩
  have hbk : Blk W w.heap.size 38 [.int .i64 2, .int .u64 a, .int .u64 b, .int .u64 c] := by rw [hW]; exact Blk.new w _ _
  have hBW : Below w.heap.size w W := by rw [hW]; exact (Below.refl _ _).alloc (Nat.le_refl _) _
  have r0 : W.cell? ⟨w.heap.size, 0, none⟩ = some (.int .i64 2) := hbk.cell 0
  have LD1 : ∀ w', Below W.heap.size W w' → w'.cell? ⟨w.heap.size, 1, none⟩ = some (.int .u64 a) := fun w' h => (h.cell (p := ⟨w.heap.size, 1, none⟩) hbk.lt).trans (hbk.cell 1)
  have LD2 : ∀ w', Below W.heap.size W w' → w'.cell? ⟨w.heap.size, 2, none⟩ = some (.int .u64 b) := fun w' h => (h.cell (p := ⟨w.heap.size, 2, none⟩) hbk.lt).trans (hbk.cell 2)
  have MQ := fun w' (h : Below W.heap.size W w') => (HM.out w').mono fun e w'' k => (⟨k.1, h.trans (k.2.mono h.size)⟩ : e = .returned (.int .u64 p) ∧ Below W.heap.size W w'')
  have AQ := fun w' (h : Below W.heap.size W w') => (HA.out w').mono fun e w'' k => (⟨k.1, h.trans (k.2.mono h.size)⟩ : e = .returned (.int .u64 ((a + p) % 18446744069414584321)) ∧ Below W.heap.size W w'')
  have L1 := Lib.hid LD1
  have L2 := Lib.hid LD2
  have M := Lib.hid MQ
  have Ad := Lib.hid AQ
  have HBW := Lib.hid hBW
  have HW := Lib.hid hW
  clear LD1 LD2 MQ AQ hbk hBW hW HM HA
  go_enter Tryd.func43, Tryd.ntmps43
  go_wp2_with fail
  rw [← HW.out]
  refine wp_region_cls (fun w' => Below W.heap.size W w') (by kernel_rfl) (by kernel_rfl) (Below.refl _ _).drew ?_
  repeat (go_big_quiet_step ((intro hq; first | exact rfl | with_reducible exact M.out _ hq | with_reducible exact Ad.out _ hq | (simp only [L1.out _ hq]; exact ⟨rfl, rfl⟩)  | (simp only [L2.out _ hq]; exact ⟨rfl, rfl⟩))))
  refine wpQuiet_nil ?_
  intro w5 hb5
  go_wp2
  go_ret
  exact ⟨rfl, HBW.out.trans (hb5.mono HBW.out.size)⟩
theorem genNext2 (a b c x i : Int) (w : World) (hb : 0 ≤ b) (hb1 : b < 18446744069414584321) (hx : 0 ≤ x) (hx1 : x < 18446744069414584321) :
    Calls Tryd.prog 44 #[.agg #[.int .i64 2, .int .u64 a, .int .u64 b, .int .u64 c], .int .u64 x, .int .i64 i] w fun e w' => e = .returned (.int .u64 ((x + b) % 18446744069414584321)) ∧ Below w.heap.size w w' := by
  have hA := fun W => goldAdd_any x b W hx (by omega) hb (by omega)
  have HA := Lib.hid hA
  clear hA
  go_enter Tryd.func44, Tryd.ntmps44
  go_wp2_with fail
  refine (HA.out _).mono ?_
  rintro e w1 ⟨rfl, hb1⟩
  have HB1 : Hid (Below w.heap.size w w1) := ((Below.refl _ _).alloc (Nat.le_refl _) _).trans (hb1.mono (by simp))
  clear hb1
  go_wp2
  go_ret
  exact ⟨rfl, HB1.out⟩
def lin4 : List Int := [3, 5, 7, 9]
set_option maxRecDepth 100000 in
set_option maxHeartbeats 1000000 in
theorem genRow_lin (w : World) :
    Calls Tryd.prog 33 #[.agg #[.int .i64 2, .int .u64 3, .int .u64 2, .int .u64 0], .int .i64 0, .int .i64 4] w fun e w' => ∃ v, e = .returned (.tuple #[v, .int .i64 0]) ∧ Own w' w.heap.size 35 .u64 v [3, 5, 7, 9] ∧ Below w.heap.size w w' := by
  have hG := genGood_any 2 3 2 0 (w.alloc (.cells #[.int .i64 2, .int .u64 3, .int .u64 2, .int .u64 0] 38))
  rw [show goodB 2 3 2 0 = true by decide] at hG
  have HG := Lib.hid hG
  obtain ⟨i0, hi, hz0, hz1, hz2⟩ := info_parts info35
  clear hG
  go_enter Tryd.func33, Tryd.ntmps33
  go_wp2_with fail
  refine HG.out.mono ?_
  rintro e w1 ⟨rfl, hb1⟩
  have hbk := (Upd.of_below (S := fun _ => False) hb1).blk (fun q => q) (Blk.new w 38 [.int .i64 2, .int .u64 3, .int .u64 2, .int .u64 0])
  have HB1 : Hid (Below w.heap.size w w1) := ((Below.refl _ _).alloc (Nat.le_refl _) _).trans (hb1.mono (by simp))
  have r0 : w1.cell? ⟨w.heap.size, 0, none⟩ = some (.int .i64 2) := hbk.cell 0
  have r1 : w1.cell? ⟨w.heap.size, 1, none⟩ = some (.int .u64 3) := hbk.cell 1
  have r2 : w1.cell? ⟨w.heap.size, 2, none⟩ = some (.int .u64 2) := hbk.cell 2
  have r3 : w1.cell? ⟨w.heap.size, 3, none⟩ = some (.int .u64 0) := hbk.cell 3
  have HK1 := Lib.hid hbk
  clear hb1 hbk
  have hAt := fun W => genAt2 3 2 0 0 W (by omega) (by omega) (by omega) (by omega) (by omega) (by omega)
  simp only [show ((3 : Int) + 2 * 0 % 18446744069414584321) % 18446744069414584321 = 3 by decide] at hAt
  have HAt := Lib.hid hAt
  clear hAt
  go_wp2_with ((with_reducible refine wpList_make_full _ rfl _ _ 22 rfl w.heap.size 35 i0 (.int .u64 0) 1 Tryd.underlying22 hi hz0 hz1 .i64 .i64 4 4 4 rfl rfl rfl rfl (by rw [hz2]; omega) (by unfold maxLen; omega) HB1.out.size ?_); intro w2 hown2 hgrow2; have hu2 : Upd (fun _ => False) w1 w2 := ⟨hgrow2.os, hgrow2.tape, hgrow2.output, hgrow2.size, fun k hk _ => hgrow2.block k hk (by simp)⟩; have hr2 := hu2.blk (fun q => q) HK1.out; have r0 : w2.cell? ⟨w.heap.size, 0, none⟩ = some (.int .i64 2) := hr2.cell 0; have r1 : w2.cell? ⟨w.heap.size, 1, none⟩ = some (.int .u64 3) := hr2.cell 1; have r2 : w2.cell? ⟨w.heap.size, 2, none⟩ = some (.int .u64 2) := hr2.cell 2; have r3 : w2.cell? ⟨w.heap.size, 3, none⟩ = some (.int .u64 0) := hr2.cell 3)
  have HA2 : Hid (Blk w2 w1.heap.size 35 (List.replicate 4 (.int .u64 0))) := Blk.made hown2
  have HR2 := Lib.hid hr2
  have HB2 : Hid (Below w.heap.size w w2) := HB1.out.trans (hu2.below.mono HB1.out.size)
  clear hown2 hgrow2 hu2 hr2
  refine (HAt.out _).mono ?_
  rintro e w3 ⟨rfl, hb3⟩
  have HA3 : Hid (Blk w3 w1.heap.size 35 ((lin4.take 0).map (Value.int .u64) ++ List.replicate (4 - 0) (.int .u64 0))) := (Upd.of_below (S := fun _ => False) hb3).blk (fun q => q) HA2.out
  have HR3 : Hid (Blk w3 w.heap.size 38 [.int .i64 2, .int .u64 3, .int .u64 2, .int .u64 0]) := (Upd.of_below (S := fun _ => False) hb3).blk (fun q => q) HR2.out
  have HB3 : Hid (Below w.heap.size w w3) := HB2.out.trans (hb3.mono HB2.out.size)
  clear hb3 r0 r1 r2 r3
  go_wp2
  go_loopw [9, 42] (fun x i wr => ∃ k : Nat, k ≤ 4 ∧ i = .int .i64 k ∧ x = .int .u64 (3 + 2 * k) ∧ Hid (Blk wr w1.heap.size 35 ((lin4.take k).map (Value.int .u64) ++ List.replicate (4 - k) (.int .u64 0))) ∧ Hid (Blk wr w.heap.size 38 [.int .i64 2, .int .u64 3, .int .u64 2, .int .u64 0]) ∧ Hid (Below w.heap.size w wr)) (fun _ i _ => 4 - (intOf i).toNat)
  case atStart => exact ⟨0, by omega, rfl, rfl, HA3, HR3, HB3⟩
  case round =>
    obtain ⟨k, hk, rfl, rfl, HA, HR, HB⟩ := hrel
    by_cases hlt : k < 4
    · obtain ⟨v, hcell⟩ : ∃ v, wr.cell? ⟨w1.heap.size, k, none⟩ = some v := ⟨_, (HA.out.cell k).trans (List.getElem?_eq_getElem (by simp [lin4]; omega))⟩
      have hfr : wr.frozen? ⟨w1.heap.size, k, none⟩ = false := HA.out.frozen _
      have hne : w.heap.size ≠ w1.heap.size := by have := HK1.out.lt; omega
      have hA2 := HA.out.setCell k (.int .u64 (3 + 2 * k))
      have hR2 : Blk (wr.setCell ⟨w1.heap.size, k, none⟩ (.int .u64 (3 + 2 * k))) w.heap.size 38 [.int .i64 2, .int .u64 3, .int .u64 2, .int .u64 0] := HR.out.setCell_ne hne _
      have hB2 : Below w.heap.size w (wr.setCell ⟨w1.heap.size, k, none⟩ (.int .u64 (3 + 2 * k))) := Below.setCell HB.out HB1.out.size _
      have e : ((lin4.take k).map (Value.int .u64) ++ List.replicate (4 - k) (Value.int .u64 0)).set k (Value.int .u64 (3 + 2 * k)) = (lin4.take (k + 1)).map (Value.int .u64) ++ List.replicate (4 - (k + 1)) (Value.int .u64 0) := by
        rcases (show k = 0 ∨ k = 1 ∨ k = 2 ∨ k = 3 by omega) with rfl | rfl | rfl | rfl <;> rfl
      rw [e] at hA2
      have r0 : (wr.setCell ⟨w1.heap.size, k, none⟩ (.int .u64 (3 + 2 * k))).cell? ⟨w.heap.size, 0, none⟩ = some (.int .i64 2) := hR2.cell 0
      have r1 : (wr.setCell ⟨w1.heap.size, k, none⟩ (.int .u64 (3 + 2 * k))).cell? ⟨w.heap.size, 1, none⟩ = some (.int .u64 3) := hR2.cell 1
      have r2 : (wr.setCell ⟨w1.heap.size, k, none⟩ (.int .u64 (3 + 2 * k))).cell? ⟨w.heap.size, 2, none⟩ = some (.int .u64 2) := hR2.cell 2
      have r3 : (wr.setCell ⟨w1.heap.size, k, none⟩ (.int .u64 (3 + 2 * k))).cell? ⟨w.heap.size, 3, none⟩ = some (.int .u64 0) := hR2.cell 3
      have hNx := fun j W => genNext2 3 2 0 (3 + 2 * (k : Int)) j W (by omega) (by omega) (by omega) (by omega)
      have HNx := Lib.hid hNx
      have HA4 := Lib.hid hA2
      have HR4 := Lib.hid hR2
      have HB4 := Lib.hid hB2
      clear hA2 hR2 hB2 e hNx hne
      go_wp2_with fail
      refine (HNx.out _ _).mono ?_
      rintro e w5 ⟨rfl, hb5⟩
      have HA5 : Hid (Blk w5 w1.heap.size 35 ((lin4.take (k + 1)).map (Value.int .u64) ++ List.replicate (4 - (k + 1)) (.int .u64 0))) := (Upd.of_below (S := fun _ => False) hb5).blk (fun q => q) HA4.out
      have HR5 : Hid (Blk w5 w.heap.size 38 [.int .i64 2, .int .u64 3, .int .u64 2, .int .u64 0]) := (Upd.of_below (S := fun _ => False) hb5).blk (fun q => q) HR4.out
      have HB5 : Hid (Below w.heap.size w w5) := HB4.out.trans (hb5.mono HB4.out.size)
      clear hb5 r0 r1 r2 r3 hcell hfr
      rw [show (3 + 2 * (k : Int) + 2) % 18446744069414584321 = 3 + 2 * ((k + 1 : Nat) : Int) by omega]
      go_wp2
      go_roundw
      case rel => exact ⟨k + 1, by omega, by go_num, by go_num, HA5, HR5, HB5⟩
      case measure => simp [intOf]; omega
    · obtain rfl : k = 4 := by omega
      have HO : Hid (Own wr w.heap.size 35 .u64 (.slice (some ⟨w1.heap.size, 0, none⟩) 4 4) [3, 5, 7, 9]) :=
        HA.out.own HB1.out.size rfl (Nat.le_refl _) (by omega) rfl rfl
      go_wp2
      go_ret2
      exact ⟨_, rfl, HO.out, HB.out⟩
theorem genRow_any (w : World) :
    Calls Tryd.prog 25 #[.agg #[.int .i64 2, .int .u64 3, .int .u64 2, .int .u64 0], .int .i64 4] w fun e w' => ∃ v, e = .returned (.tuple #[v, .int .i64 0]) ∧ Own w' w.heap.size 35 .u64 v [3, 5, 7, 9] ∧ Below w.heap.size w w' := by
  have HP := Lib.hid genRow_lin
  go_enter Tryd.func25, Tryd.ntmps25
  go_wp2_with fail
  refine (HP.out _).mono ?_
  rintro e w2 ⟨v, rfl, ho, hb⟩
  have HO := Lib.hid (ho.lower (base' := w.heap.size) (by simp))
  have HB : Hid (Below w.heap.size w w2) := ((Below.refl _ _).alloc (Nat.le_refl _) _).trans (hb.mono (by simp))
  clear ho hb
  go_wp2
  go_ret2
  exact ⟨_, rfl, HO.out, HB.out⟩
end Go.Proofs.YtcdehndodgefnaaDoor
