/- Walks: wide numbers. -/
import Derived.Test.YtcdehndodgefnaaDoorProg
import Derived.Test.YtcdehndodgefnaaDoorWd
import Derived.Laws.Externs
set_option linter.unusedVariables false
namespace Go.Proofs.YtcdehndodgefnaaDoor
open Go.RowKit Ab

theorem add64_run (x y c : Int) (hx : 0 ≤ x) (hy : 0 ≤ y) (hc0 : 0 ≤ c) (hc : c ≤ 1) (w : World) :
    (callFunc 78 #[.int .u64 x, .int .u64 y, .int .u64 c]).run Tryd.prog w = .ok (.value (.tuple #[.int .u64 ((x + y + c) % 18446744073709551616), .int .u64 ((x + y + c) / 18446744073709551616)])) w := by
  have h := run_callFunc_extern (P := Tryd.prog) (e := add64Entry) Tryd.func78 (by kernel_rfl) (by kernel_rfl) (by kernel_rfl) (by kernel_rfl) #[.int .u64 x, .int .u64 y, .int .u64 c] w
  rw [h, run_add64 x y c hx hy hc0 hc w]; rfl

set_option maxHeartbeats 400000 in
theorem wideAdd_any (ah al bh bl : Int) (w : World) (h1 : 0 ≤ ah) (h2 : 0 ≤ al) (h3 : 0 ≤ bh) (h4 : 0 ≤ bl) (k1 : ah < 18446744073709551616) (k2 : al < 18446744073709551616) (k3 : bh < 18446744073709551616) (k4 : bl < 18446744073709551616) :
    Calls Tryd.prog 56 #[.agg #[.int .u64 ah, .int .u64 al], .agg #[.int .u64 bh, .int .u64 bl]] w fun e w' =>
      e = .returned (.tuple #[.agg #[.int .u64 ((ah + bh + (al + bl) / 18446744073709551616) % 18446744073709551616), .int .u64 ((al + bl) % 18446744073709551616)], .int .u64 ((ah + bh + (al + bl) / 18446744073709551616) / 18446744073709551616)]) ∧ Below w.heap.size w w' := by
  have q0 : 0 ≤ (al + bl) / 18446744073709551616 := by omega
  have q1 : (al + bl) / 18446744073709551616 ≤ 1 := by omega
  have r1 := fun w => add64_run al bl 0 h2 h4 (by omega) (by omega) w
  have r2 := fun w => add64_run ah bh _ h1 h3 q0 q1 w
  simp only [Int.add_zero] at r1
  go_enter Tryd.func56, Tryd.ntmps56
  go_wp2
  refine bodyPost_ret (v := .tuple #[.agg #[.int .u64 ((ah + bh + (al + bl) / 18446744073709551616) % 18446744073709551616), .int .u64 ((al + bl) % 18446744073709551616)], .int .u64 ((ah + bh + (al + bl) / 18446744073709551616) / 18446744073709551616)]) (by simp [results, Tryd.results56, go_sem]) rfl ⟨rfl, ?_⟩
  exact ((((Upd.refl _ _).alloc _).alloc _).alloc _).below

/-- A wide number times 2 to the power of n, n from 1 to 63. -/
theorem wideShl_any (n : Nat) (ah al : Int) (w : World) (hn1 : 1 ≤ n) (hn2 : n < 64) (h1 : 0 ≤ ah) (h2 : 0 ≤ al) (k1 : ah < 18446744073709551616) (k2 : al < 18446744073709551616) :
    Calls Tryd.prog 38 #[.agg #[.int .u64 ah, .int .u64 al], .int .i64 n] w fun e w' =>
      e = .returned (.agg #[.int .u64 (bits .or .u64 (IntKind.u64.wrap (ah * 2 ^ n)) (al / 2 ^ (64 - n))), .int .u64 (IntKind.u64.wrap (al * 2 ^ n))]) ∧ Below w.heap.size w w' := by
  go_enter Tryd.func38, Tryd.ntmps38
  go_wp2
  refine bodyPost_ret (v := .agg #[.int .u64 (bits .or .u64 (IntKind.u64.wrap (ah * 2 ^ n)) (al / 2 ^ (64 - n))), .int .u64 (IntKind.u64.wrap (al * 2 ^ n))]) (by simp [results, Tryd.results38, go_sem]) rfl ⟨rfl, ?_⟩
  exact (((Upd.refl _ _).alloc _).alloc _).below

def addW (a b : Int × Int) : Int × Int := ((a.1 + b.1 + (a.2 + b.2) / 18446744073709551616) % 18446744073709551616, (a.2 + b.2) % 18446744073709551616)
def sumW (l : List (Int × Int)) : Int × Int := l.foldl addW (0, 0)
def isWides (l : List (Int × Int)) : Prop := ∀ p ∈ l, 0 ≤ p.1 ∧ p.1 < 18446744073709551616 ∧ 0 ≤ p.2 ∧ p.2 < 18446744073709551616
theorem addW_range (a b : Int × Int) : 0 ≤ (addW a b).1 ∧ (addW a b).1 < 18446744073709551616 ∧ 0 ≤ (addW a b).2 ∧ (addW a b).2 < 18446744073709551616 := by
  unfold addW; dsimp only; omega
theorem sumW_snoc (l : List (Int × Int)) (a : Int × Int) : sumW (l ++ [a]) = addW (sumW l) a := by simp [sumW]
theorem sumW_range (l : List (Int × Int)) : 0 ≤ (sumW l).1 ∧ (sumW l).1 < 18446744073709551616 ∧ 0 ≤ (sumW l).2 ∧ (sumW l).2 < 18446744073709551616 := by
  rcases List.eq_nil_or_concat l with rfl | ⟨l', a, rfl⟩
  · simp [sumW]
  · rw [List.concat_eq_append, sumW_snoc]; exact addW_range _ _

theorem wideAdd_pair (a b : Int × Int) (w : World) (ha : 0 ≤ a.1 ∧ a.1 < 18446744073709551616 ∧ 0 ≤ a.2 ∧ a.2 < 18446744073709551616) (hb : 0 ≤ b.1 ∧ b.1 < 18446744073709551616 ∧ 0 ≤ b.2 ∧ b.2 < 18446744073709551616) :
    Calls Tryd.prog 56 #[.agg #[.int .u64 a.1, .int .u64 a.2], .agg #[.int .u64 b.1, .int .u64 b.2]] w fun e w' =>
      (∃ q, e = .returned (.tuple #[.agg #[.int .u64 (addW a b).1, .int .u64 (addW a b).2], .int .u64 q])) ∧ Below w.heap.size w w' :=
  (wideAdd_any a.1 a.2 b.1 b.2 w ha.1 ha.2.2.1 hb.1 hb.2.2.1 ha.2.1 ha.2.2.2 hb.2.1 hb.2.2.2).mono fun _ _ ⟨he, hw⟩ => ⟨⟨_, he⟩, hw⟩

set_option maxHeartbeats 1000000 in
theorem wideSum_any (b n c : Nat) (l : List (Int × Int)) (w : World) (hl : l.length = n) (hn : n ≤ 1000000) (hw : isWides l) (hc : ∀ j, j < n → w.cell? ⟨b, j * 2, none⟩ = some (.int .u64 (l.getD j (0, 0)).1) ∧ w.cell? ⟨b, j * 2 + 1, none⟩ = some (.int .u64 (l.getD j (0, 0)).2)) :
    Calls Tryd.prog 37 #[.slice (some ⟨b, 0, none⟩) n c] w fun e w' => e = .returned (.agg #[.int .u64 (sumW l).1, .int .u64 (sumW l).2]) ∧ Below w.heap.size w w' := by
  have HC := Lib.hid hc
  have HW := Lib.hid hw
  have HL := Lib.hid hl
  clear hc hw hl
  go_enter Tryd.func37, Tryd.ntmps37
  go_wp2
  go_loopw [4, 7] (fun _ i wr => ∃ k : Nat, k ≤ n ∧ i = .int .i64 k ∧ Hid (Blk wr w.heap.size 73 [.int .u64 (sumW (l.take k)).1, .int .u64 (sumW (l.take k)).2]) ∧ Hid (Below w.heap.size w wr)) (fun _ i _ => n - (intOf i).toNat)
  case atStart => exact ⟨0, by omega, rfl, Blk.new w _ _, (Below.refl _ _).alloc (Nat.le_refl _) _⟩
  case round =>
    obtain ⟨k, hk, rfl, HB, HU⟩ := hrel
    by_cases hlt : k < n
    · obtain ⟨x, hx⟩ : ∃ x, x = l.getD k (0, 0) := ⟨_, rfl⟩
      obtain ⟨y, hy⟩ : ∃ y, y = sumW (l.take k) := ⟨_, rfl⟩
      have hc0 : wr.cell? ⟨b, k * 2, none⟩ = some (.int .u64 x.1) := by rw [hx]; have := (HC.out k hlt).1; exact (HU.out.cell (World.block_lt_of_cell? w _ this)).trans this
      have hc1 : wr.cell? ⟨b, k * 2 + 1, none⟩ = some (.int .u64 x.2) := by rw [hx]; have := (HC.out k hlt).2; exact (HU.out.cell (World.block_lt_of_cell? w _ this)).trans this
      have hb := HB.out
      rw [← hy] at hb
      have hs0 : wr.cell? ⟨w.heap.size, 0, none⟩ = some (.int .u64 y.1) := hb.cell 0
      have hs1 : wr.cell? ⟨w.heap.size, 1, none⟩ = some (.int .u64 y.2) := hb.cell 1
      have hlt2 : w.heap.size < wr.heap.size := hb.lt
      have HB2 := Lib.hid hb
      clear hb
      have HX := Lib.hid hx
      have HY := Lib.hid hy
      have hyr := sumW_range (l.take k)
      rw [← hy] at hyr
      have hxr := HW.out x (by rw [hx, getD_at _ (by rw [HL.out]; exact hlt)]; exact List.getElem_mem _)
      have HA := fun W => Lib.hid (wideAdd_pair y x W hyr hxr)
      clear hx hy hyr hxr
      go_wp2_with fail
      refine (HA _).out.mono ?_
      rintro e w2 ⟨⟨q, rfl⟩, hb2⟩
      have hB3 := (Upd.of_below hb2 (S := fun _ => False)).blk (fun q => q) (HB2.out.alloc _)
      have hs2 : w2.cell? ⟨w.heap.size, 0, none⟩ = some (.int .u64 y.1) := hB3.cell 0
      have hs3 : w2.cell? ⟨w.heap.size, 1, none⟩ = some (.int .u64 y.2) := hB3.cell 1
      have hf2 : w2.frozen? ⟨w.heap.size, 0, none⟩ = false := hB3.frozen 0
      have hf3 : w2.frozen? ⟨w.heap.size, 1, none⟩ = false := hB3.frozen 1
      have HB4 : Hid (Blk ((w2.setCell ⟨w.heap.size, 0, none⟩ (.int .u64 (addW y x).1)).setCell ⟨w.heap.size, 1, none⟩ (.int .u64 (addW y x).2)) w.heap.size 73 [.int .u64 (sumW (l.take (k + 1))).1, .int .u64 (sumW (l.take (k + 1))).2]) := by
        show Blk _ _ _ _
        rw [take_succ_getD (0, 0) (by rw [HL.out]; exact hlt), sumW_snoc, ← HX.out, ← HY.out]
        exact (hB3.setCell 0 _).setCell 1 _
      have HU4 : Hid (Below w.heap.size w ((w2.setCell ⟨w.heap.size, 0, none⟩ (.int .u64 (addW y x).1)).setCell ⟨w.heap.size, 1, none⟩ (.int .u64 (addW y x).2))) :=
        Below.setCell (Below.setCell (((HU.out.alloc HU.out.size _).trans (hb2.mono (by have := HU.out.size; simp; omega)))) (Nat.le_refl _) _) (Nat.le_refl _) _
      clear hb2 hB3
      go_wp2
      go_roundw
      case rel => exact ⟨k + 1, by omega, by go_num, HB4, HU4⟩
      case measure => simp [intOf]; omega
    · obtain rfl : k = n := by omega
      have hb := HB.out
      rw [List.take_of_length_le (by rw [HL.out]; omega)] at hb
      have hs0 : wr.cell? ⟨w.heap.size, 0, none⟩ = some (.int .u64 (sumW l).1) := hb.cell 0
      have hs1 : wr.cell? ⟨w.heap.size, 1, none⟩ = some (.int .u64 (sumW l).2) := hb.cell 1
      have hf0 : wr.frozen? ⟨w.heap.size, 0, none⟩ = false := hb.frozen 0
      have hf1 : wr.frozen? ⟨w.heap.size, 1, none⟩ = false := hb.frozen 1
      have hq0 : (wr.setCell ⟨w.heap.size, 0, none⟩ (.int .u64 (sumW l).1)).cell? ⟨w.heap.size, 0, none⟩ = some (.int .u64 (sumW l).1) := (hb.setCell 0 _).cell 0
      have hq1 : ((wr.setCell ⟨w.heap.size, 0, none⟩ (.int .u64 (sumW l).1)).setCell ⟨w.heap.size, 1, none⟩ (.int .u64 (sumW l).2)).cell? ⟨w.heap.size, 1, none⟩ = some (.int .u64 (sumW l).2) := ((hb.setCell 0 _).setCell 1 _).cell 1
      clear hb
      go_wp2
      refine bodyPost_ret (v := .agg #[.int .u64 (sumW l).1, .int .u64 (sumW l).2]) (by simp [results, Tryd.results37, go_sem, hq0, hq1]) rfl ⟨rfl, ?_⟩
      exact Below.setCell (Below.setCell HU.out (Nat.le_refl _) _) (Nat.le_refl _) _
end Go.Proofs.YtcdehndodgefnaaDoor
