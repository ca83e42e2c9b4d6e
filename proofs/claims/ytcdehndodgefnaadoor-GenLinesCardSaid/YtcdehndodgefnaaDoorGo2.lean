/- Walks: the line of a rule. -/
import Derived.Test.YtcdehndodgefnaaDoorGn
import Derived.Test.YtcdehndodgefnaaDoorCb
import Derived.Deep.RegionHeld3
set_option linter.unusedVariables false
set_option linter.unusedSimpArgs false
namespace Go.Proofs.YtcdehndodgefnaaDoor
open Go.RowKit Ab Go.Proofs

theorem genLine_no (k a b c : Int) (w : World) (h : goodB k a b c = false) :
    Calls Tryd.prog 13 #[.agg #[.int .i64 k, .int .u64 a, .int .u64 b, .int .u64 c]] w fun e w' => e = .returned (.string ⟨#[]⟩) ∧ Below w.heap.size w w' := by
  have hG := genGood_any k a b c (w.alloc (.cells #[.int .i64 k, .int .u64 a, .int .u64 b, .int .u64 c] 38))
  rw [h] at hG
  have HG := Lib.hid hG
  clear hG h
  go_enter Tryd.func13, Tryd.ntmps13
  go_wp2_with fail
  refine HG.out.mono ?_
  rintro e w1 ⟨rfl, hb1⟩
  have HB : Hid (Below w.heap.size w w1) := ((Below.refl _ _).alloc (Nat.le_refl _) _).trans (hb1.mono (by simp))
  clear hb1
  go_wp2
  go_ret
  exact ⟨rfl, HB.out⟩

/-- The kinds' words and numbers, as the variable holds them. -/
def kindCells : List Value := [.string ⟨#[]⟩, .int .i64 0, .string ⟨#[99, 111, 110, 115, 116]⟩, .int .i64 1, .string ⟨#[108, 105, 110, 101]⟩, .int .i64 2, .string ⟨#[112, 111, 119, 101, 114]⟩, .int .i64 2, .string ⟨#[99, 104, 97, 105, 110]⟩, .int .i64 3, .string ⟨#[112, 117, 108, 115, 101]⟩, .int .i64 3]
def KindsAt (w : World) : Prop := ∀ j v, kindCells[j]? = some v → w.cell? ⟨0, j, none⟩ = some v
def kWord (k : Int) : List UInt8 := if k = 1 then [99, 111, 110, 115, 116] else if k = 2 then [108, 105, 110, 101] else if k = 3 then [112, 111, 119, 101, 114] else if k = 4 then [99, 104, 97, 105, 110] else [112, 117, 108, 115, 101]
def kNum (k : Int) : Nat := if k = 1 then 1 else if k ≤ 3 then 2 else 3
def textL (l : List Int) : List UInt8 := Lib.join (l.map fun x => Lib.decDigits x.toNat) [32]
/-- The line of a good rule. -/
def lineL (k a b c : Int) : ByteArray := ⟨(kWord k ++ 32 :: textL ([a, b, c].take (kNum k))).toArray⟩
theorem KindsAt.below {w w' : World} (h : KindsAt w) (hb : Below w.heap.size w w') : KindsAt w' := fun j v hj =>
  (hb.cell (World.block_lt_of_cell? w ⟨0, j, none⟩ (h j v hj))).trans (h j v hj)
theorem rdTake (w : World) (a b c : Int) (n : Nat) (hn : n ≤ 3) : Rd (w.alloc (.cells #[.int .u64 a, .int .u64 b, .int .u64 c] 35)) .u64 (some ⟨w.heap.size, 0, none⟩) n ([a, b, c].take n) :=
  ⟨by simp; omega, by omega, fun _ => ⟨_, rfl, fun j hj => by
    rw [getD_take _ 0 hj, add_plain, (Blk.new w 35 [.int .u64 a, .int .u64 b, .int .u64 c]).cell]
    rcases (show j = 0 ∨ j = 1 ∨ j = 2 by omega) with rfl | rfl | rfl <;> rfl⟩⟩

theorem keep_cell {W w3 : World} {o : Obj} (hb : Below (W.drew.alloc o).heap.size (W.drew.alloc o) w3) {a : Addr} {v : Value} (h : W.cell? a = some v) : w3.cell? a = some v := by
  have hu : Upd (fun _ => False) W w3 := (((Upd.refl _ _).drew).alloc o).trans (.of_below hb)
  exact hu.cell (fun q => q) h
theorem drew_size (w : World) : w.drew.heap.size = w.heap.size := rfl
set_option maxRecDepth 100000 in
set_option maxHeartbeats 2000000 in
theorem genLine_1 (a b c : Int) (w : World) (h : goodB 1 a b c = true) (hw : isWords [a, b, c]) (hk : KindsAt w) (htab : Lib.TabIs Tryd.prog w "internal/strconv.uint64pow10" .u64 Lib.pow10Tab) :
    Calls Tryd.prog 13 #[.agg #[.int .i64 1, .int .u64 a, .int .u64 b, .int .u64 c]] w fun e w' => e = .returned (.string (lineL 1 a b c)) ∧ Below w.heap.size w w' := by
  have hG := genGood_any 1 a b c (w.alloc (.cells #[.int .i64 1, .int .u64 a, .int .u64 b, .int .u64 c] 38))
  rw [h] at hG
  have HG := Lib.hid hG
  have HTab := Lib.hid htab
  have HK := Lib.hid hk
  have HW := Lib.hid hw
  clear hG h htab hk hw
  go_enter Tryd.func13, Tryd.ntmps13
  go_wp2_with fail
  refine HG.out.mono ?_
  rintro e w1 ⟨rfl, hb1⟩
  have HB : Hid (Below w.heap.size w w1) := ((Below.refl _ _).alloc (Nat.le_refl _) _).trans (hb1.mono (by simp))
  have hbk := (Upd.of_below (S := fun _ => False) hb1).blk (fun q => q) (Blk.new w 38 [.int .i64 1, .int .u64 a, .int .u64 b, .int .u64 c])
  have r0 : w1.cell? ⟨w.heap.size, 0, none⟩ = some (.int .i64 1) := hbk.cell 0
  have r1 : w1.cell? ⟨w.heap.size, 1, none⟩ = some (.int .u64 a) := hbk.cell 1
  have r2 : w1.cell? ⟨w.heap.size, 2, none⟩ = some (.int .u64 b) := hbk.cell 2
  have r3 : w1.cell? ⟨w.heap.size, 3, none⟩ = some (.int .u64 c) := hbk.cell 3
  have hK1 := HK.out.below HB.out
  have k0 : w1.cell? ⟨0, 2 * 1, none⟩ = some (.string ⟨#[99, 111, 110, 115, 116]⟩) := hK1 (2 * 1) _ rfl
  have k1 : w1.cell? ⟨0, 2 * 1 + 1, none⟩ = some (.int .i64 1) := hK1 (2 * 1 + 1) _ rfl
  clear hb1 hbk hK1
  go_wp2
  have HB2 : Hid (Below w.heap.size w (w1.alloc (Obj.cells #[.string ⟨#[99, 111, 110, 115, 116]⟩, .int .i64 1] 56))) := HB.out.alloc HB.out.size _
  have q0 : (w1.alloc (Obj.cells #[.string ⟨#[99, 111, 110, 115, 116]⟩, .int .i64 1] 56)).cell? ⟨w1.heap.size, 0, none⟩ = some (.string ⟨#[99, 111, 110, 115, 116]⟩) := (Blk.new w1 56 [.string ⟨#[99, 111, 110, 115, 116]⟩, .int .i64 1]).cell 0
  have q1 : (w1.alloc (Obj.cells #[.string ⟨#[99, 111, 110, 115, 116]⟩, .int .i64 1] 56)).cell? ⟨w1.heap.size, 1, none⟩ = some (.int .i64 1) := (Blk.new w1 56 [.string ⟨#[99, 111, 110, 115, 116]⟩, .int .i64 1]).cell 1
  have s1 : (w1.alloc (Obj.cells #[.string ⟨#[99, 111, 110, 115, 116]⟩, .int .i64 1] 56)).cell? ⟨w.heap.size, 1, none⟩ = some (.int .u64 a) := by rw [World.cell?_alloc_past _ _ _ (World.block_lt_of_cell? w1 _ r1)]; exact r1
  have s2 : (w1.alloc (Obj.cells #[.string ⟨#[99, 111, 110, 115, 116]⟩, .int .i64 1] 56)).cell? ⟨w.heap.size, 2, none⟩ = some (.int .u64 b) := by rw [World.cell?_alloc_past _ _ _ (World.block_lt_of_cell? w1 _ r1)]; exact r2
  have s3 : (w1.alloc (Obj.cells #[.string ⟨#[99, 111, 110, 115, 116]⟩, .int .i64 1] 56)).cell? ⟨w.heap.size, 3, none⟩ = some (.int .u64 c) := by rw [World.cell?_alloc_past _ _ _ (World.block_lt_of_cell? w1 _ r1)]; exact r3
  clear r0 r1 r2 r3 k0 k1 HG HK HB
  generalize w1.alloc (Obj.cells #[.string ⟨#[99, 111, 110, 115, 116]⟩, .int .i64 1] 56) = w2 at *
  obtain ⟨T, hT⟩ : ∃ T : ByteArray, T = ⟨(Lib.join (([a, b, c].take 1).map fun x => Lib.decDigits x.toNat) [32]).toArray⟩ := ⟨_, rfl⟩
  have hTx := text_any (some ⟨w2.heap.size, 0, none⟩) 1 3 ([a, b, c].take 1) _ (rdTake w2.drew a b c 1 (by omega)) (by omega) (by omega) (fun x hx => HW.out x (List.mem_of_mem_take hx)) (tabIs_below HTab.out ((HB2.out.drew).alloc (by rw [drew_size]; exact HB2.out.size) _))
  rw [← hT] at hTx
  have HTx := Lib.hid hTx
  have hTs : T.size ≤ 140737488355328 := by rw [hT]; exact join_len ([a, b, c].take 1) (by simp <;> omega) (fun x hx => HW.out x (List.mem_of_mem_take hx))
  have HT := Lib.hid hT
  clear hTx hT
  have hadd1 := fun W => run_string_add_sum (P := Tryd.prog) W ⟨#[99, 111, 110, 115, 116]⟩ ⟨#[32]⟩ (by decide)
  have hadd2 := fun W => run_string_add_sum (P := Tryd.prog) W (⟨#[99, 111, 110, 115, 116]⟩ ++ ⟨#[32]⟩) T (by rw [ByteArray.size_append]; show 5 + 1 + T.size ≤ _; omega)
  have hadd3 := fun W => run_string_add_sum (P := Tryd.prog) W ⟨#[99, 111, 110, 115, 116, 32]⟩ T (by show 5 + 1 + T.size ≤ _; omega)
  go_region_held3 (fun w' => w'.cell? ⟨w1.heap.size, 0, none⟩ = some (.string ⟨#[99, 111, 110, 115, 116]⟩) ∧ w'.cell? ⟨w1.heap.size, 1, none⟩ = some (.int .i64 1) ∧ w'.cell? ⟨w.heap.size, 1, none⟩ = some (.int .u64 a) ∧ w'.cell? ⟨w.heap.size, 2, none⟩ = some (.int .u64 b) ∧ w'.cell? ⟨w.heap.size, 3, none⟩ = some (.int .u64 c)) (first | exact ⟨keep_cell hb3 q0, keep_cell hb3 q1, keep_cell hb3 s1, keep_cell hb3 s2, keep_cell hb3 s3⟩ | go_keep)
    ((go_at_call 18; refine HTx.out.mono ?_; rintro e w3 ⟨rfl, hb3⟩))
  have HE : Hid ((⟨#[99, 111, 110, 115, 116]⟩ : ByteArray) ++ ⟨#[32]⟩ ++ T = lineL 1 a b c) := by
    show _ = _
    rw [HT.out]; apply ByteArray.ext; rw [ByteArray.data_append, ByteArray.data_append]; simp [lineL, kWord, kNum, textL]
  have HB4 : Hid (Below w.heap.size w w3) := ((HB2.out.drew).alloc (by rw [drew_size]; exact HB2.out.size) _).trans (hb3.mono (by have := HB2.out.size; simp [drew_size]; omega))
  clear hb3 hTs hadd1 hadd2 hadd3 q0 q1 s1 s2 s3
  rw [HE.out]
  go_wp2
  go_ret
  exact ⟨rfl, HB4.out⟩
set_option maxRecDepth 100000 in
set_option maxHeartbeats 2000000 in
theorem genLine_2 (a b c : Int) (w : World) (h : goodB 2 a b c = true) (hw : isWords [a, b, c]) (hk : KindsAt w) (htab : Lib.TabIs Tryd.prog w "internal/strconv.uint64pow10" .u64 Lib.pow10Tab) :
    Calls Tryd.prog 13 #[.agg #[.int .i64 2, .int .u64 a, .int .u64 b, .int .u64 c]] w fun e w' => e = .returned (.string (lineL 2 a b c)) ∧ Below w.heap.size w w' := by
  have hG := genGood_any 2 a b c (w.alloc (.cells #[.int .i64 2, .int .u64 a, .int .u64 b, .int .u64 c] 38))
  rw [h] at hG
  have HG := Lib.hid hG
  have HTab := Lib.hid htab
  have HK := Lib.hid hk
  have HW := Lib.hid hw
  clear hG h htab hk hw
  go_enter Tryd.func13, Tryd.ntmps13
  go_wp2_with fail
  refine HG.out.mono ?_
  rintro e w1 ⟨rfl, hb1⟩
  have HB : Hid (Below w.heap.size w w1) := ((Below.refl _ _).alloc (Nat.le_refl _) _).trans (hb1.mono (by simp))
  have hbk := (Upd.of_below (S := fun _ => False) hb1).blk (fun q => q) (Blk.new w 38 [.int .i64 2, .int .u64 a, .int .u64 b, .int .u64 c])
  have r0 : w1.cell? ⟨w.heap.size, 0, none⟩ = some (.int .i64 2) := hbk.cell 0
  have r1 : w1.cell? ⟨w.heap.size, 1, none⟩ = some (.int .u64 a) := hbk.cell 1
  have r2 : w1.cell? ⟨w.heap.size, 2, none⟩ = some (.int .u64 b) := hbk.cell 2
  have r3 : w1.cell? ⟨w.heap.size, 3, none⟩ = some (.int .u64 c) := hbk.cell 3
  have hK1 := HK.out.below HB.out
  have k0 : w1.cell? ⟨0, 2 * 2, none⟩ = some (.string ⟨#[108, 105, 110, 101]⟩) := hK1 (2 * 2) _ rfl
  have k1 : w1.cell? ⟨0, 2 * 2 + 1, none⟩ = some (.int .i64 2) := hK1 (2 * 2 + 1) _ rfl
  clear hb1 hbk hK1
  go_wp2
  have HB2 : Hid (Below w.heap.size w (w1.alloc (Obj.cells #[.string ⟨#[108, 105, 110, 101]⟩, .int .i64 2] 56))) := HB.out.alloc HB.out.size _
  have q0 : (w1.alloc (Obj.cells #[.string ⟨#[108, 105, 110, 101]⟩, .int .i64 2] 56)).cell? ⟨w1.heap.size, 0, none⟩ = some (.string ⟨#[108, 105, 110, 101]⟩) := (Blk.new w1 56 [.string ⟨#[108, 105, 110, 101]⟩, .int .i64 2]).cell 0
  have q1 : (w1.alloc (Obj.cells #[.string ⟨#[108, 105, 110, 101]⟩, .int .i64 2] 56)).cell? ⟨w1.heap.size, 1, none⟩ = some (.int .i64 2) := (Blk.new w1 56 [.string ⟨#[108, 105, 110, 101]⟩, .int .i64 2]).cell 1
  have s1 : (w1.alloc (Obj.cells #[.string ⟨#[108, 105, 110, 101]⟩, .int .i64 2] 56)).cell? ⟨w.heap.size, 1, none⟩ = some (.int .u64 a) := by rw [World.cell?_alloc_past _ _ _ (World.block_lt_of_cell? w1 _ r1)]; exact r1
  have s2 : (w1.alloc (Obj.cells #[.string ⟨#[108, 105, 110, 101]⟩, .int .i64 2] 56)).cell? ⟨w.heap.size, 2, none⟩ = some (.int .u64 b) := by rw [World.cell?_alloc_past _ _ _ (World.block_lt_of_cell? w1 _ r1)]; exact r2
  have s3 : (w1.alloc (Obj.cells #[.string ⟨#[108, 105, 110, 101]⟩, .int .i64 2] 56)).cell? ⟨w.heap.size, 3, none⟩ = some (.int .u64 c) := by rw [World.cell?_alloc_past _ _ _ (World.block_lt_of_cell? w1 _ r1)]; exact r3
  clear r0 r1 r2 r3 k0 k1 HG HK HB
  generalize w1.alloc (Obj.cells #[.string ⟨#[108, 105, 110, 101]⟩, .int .i64 2] 56) = w2 at *
  obtain ⟨T, hT⟩ : ∃ T : ByteArray, T = ⟨(Lib.join (([a, b, c].take 2).map fun x => Lib.decDigits x.toNat) [32]).toArray⟩ := ⟨_, rfl⟩
  have hTx := text_any (some ⟨w2.heap.size, 0, none⟩) 2 3 ([a, b, c].take 2) _ (rdTake w2.drew a b c 2 (by omega)) (by omega) (by omega) (fun x hx => HW.out x (List.mem_of_mem_take hx)) (tabIs_below HTab.out ((HB2.out.drew).alloc (by rw [drew_size]; exact HB2.out.size) _))
  rw [← hT] at hTx
  have HTx := Lib.hid hTx
  have hTs : T.size ≤ 140737488355328 := by rw [hT]; exact join_len ([a, b, c].take 2) (by simp <;> omega) (fun x hx => HW.out x (List.mem_of_mem_take hx))
  have HT := Lib.hid hT
  clear hTx hT
  have hadd1 := fun W => run_string_add_sum (P := Tryd.prog) W ⟨#[108, 105, 110, 101]⟩ ⟨#[32]⟩ (by decide)
  have hadd2 := fun W => run_string_add_sum (P := Tryd.prog) W (⟨#[108, 105, 110, 101]⟩ ++ ⟨#[32]⟩) T (by rw [ByteArray.size_append]; show 4 + 1 + T.size ≤ _; omega)
  have hadd3 := fun W => run_string_add_sum (P := Tryd.prog) W ⟨#[108, 105, 110, 101, 32]⟩ T (by show 4 + 1 + T.size ≤ _; omega)
  go_region_held3 (fun w' => w'.cell? ⟨w1.heap.size, 0, none⟩ = some (.string ⟨#[108, 105, 110, 101]⟩) ∧ w'.cell? ⟨w1.heap.size, 1, none⟩ = some (.int .i64 2) ∧ w'.cell? ⟨w.heap.size, 1, none⟩ = some (.int .u64 a) ∧ w'.cell? ⟨w.heap.size, 2, none⟩ = some (.int .u64 b) ∧ w'.cell? ⟨w.heap.size, 3, none⟩ = some (.int .u64 c)) (first | exact ⟨keep_cell hb3 q0, keep_cell hb3 q1, keep_cell hb3 s1, keep_cell hb3 s2, keep_cell hb3 s3⟩ | go_keep)
    ((go_at_call 18; refine HTx.out.mono ?_; rintro e w3 ⟨rfl, hb3⟩))
  have HE : Hid ((⟨#[108, 105, 110, 101]⟩ : ByteArray) ++ ⟨#[32]⟩ ++ T = lineL 2 a b c) := by
    show _ = _
    rw [HT.out]; apply ByteArray.ext; rw [ByteArray.data_append, ByteArray.data_append]; simp [lineL, kWord, kNum, textL]
  have HB4 : Hid (Below w.heap.size w w3) := ((HB2.out.drew).alloc (by rw [drew_size]; exact HB2.out.size) _).trans (hb3.mono (by have := HB2.out.size; simp [drew_size]; omega))
  clear hb3 hTs hadd1 hadd2 hadd3 q0 q1 s1 s2 s3
  rw [HE.out]
  go_wp2
  go_ret
  exact ⟨rfl, HB4.out⟩
set_option maxRecDepth 100000 in
set_option maxHeartbeats 2000000 in
theorem genLine_3 (a b c : Int) (w : World) (h : goodB 3 a b c = true) (hw : isWords [a, b, c]) (hk : KindsAt w) (htab : Lib.TabIs Tryd.prog w "internal/strconv.uint64pow10" .u64 Lib.pow10Tab) :
    Calls Tryd.prog 13 #[.agg #[.int .i64 3, .int .u64 a, .int .u64 b, .int .u64 c]] w fun e w' => e = .returned (.string (lineL 3 a b c)) ∧ Below w.heap.size w w' := by
  have hG := genGood_any 3 a b c (w.alloc (.cells #[.int .i64 3, .int .u64 a, .int .u64 b, .int .u64 c] 38))
  rw [h] at hG
  have HG := Lib.hid hG
  have HTab := Lib.hid htab
  have HK := Lib.hid hk
  have HW := Lib.hid hw
  clear hG h htab hk hw
  go_enter Tryd.func13, Tryd.ntmps13
  go_wp2_with fail
  refine HG.out.mono ?_
  rintro e w1 ⟨rfl, hb1⟩
  have HB : Hid (Below w.heap.size w w1) := ((Below.refl _ _).alloc (Nat.le_refl _) _).trans (hb1.mono (by simp))
  have hbk := (Upd.of_below (S := fun _ => False) hb1).blk (fun q => q) (Blk.new w 38 [.int .i64 3, .int .u64 a, .int .u64 b, .int .u64 c])
  have r0 : w1.cell? ⟨w.heap.size, 0, none⟩ = some (.int .i64 3) := hbk.cell 0
  have r1 : w1.cell? ⟨w.heap.size, 1, none⟩ = some (.int .u64 a) := hbk.cell 1
  have r2 : w1.cell? ⟨w.heap.size, 2, none⟩ = some (.int .u64 b) := hbk.cell 2
  have r3 : w1.cell? ⟨w.heap.size, 3, none⟩ = some (.int .u64 c) := hbk.cell 3
  have hK1 := HK.out.below HB.out
  have k0 : w1.cell? ⟨0, 2 * 3, none⟩ = some (.string ⟨#[112, 111, 119, 101, 114]⟩) := hK1 (2 * 3) _ rfl
  have k1 : w1.cell? ⟨0, 2 * 3 + 1, none⟩ = some (.int .i64 2) := hK1 (2 * 3 + 1) _ rfl
  clear hb1 hbk hK1
  go_wp2
  have HB2 : Hid (Below w.heap.size w (w1.alloc (Obj.cells #[.string ⟨#[112, 111, 119, 101, 114]⟩, .int .i64 2] 56))) := HB.out.alloc HB.out.size _
  have q0 : (w1.alloc (Obj.cells #[.string ⟨#[112, 111, 119, 101, 114]⟩, .int .i64 2] 56)).cell? ⟨w1.heap.size, 0, none⟩ = some (.string ⟨#[112, 111, 119, 101, 114]⟩) := (Blk.new w1 56 [.string ⟨#[112, 111, 119, 101, 114]⟩, .int .i64 2]).cell 0
  have q1 : (w1.alloc (Obj.cells #[.string ⟨#[112, 111, 119, 101, 114]⟩, .int .i64 2] 56)).cell? ⟨w1.heap.size, 1, none⟩ = some (.int .i64 2) := (Blk.new w1 56 [.string ⟨#[112, 111, 119, 101, 114]⟩, .int .i64 2]).cell 1
  have s1 : (w1.alloc (Obj.cells #[.string ⟨#[112, 111, 119, 101, 114]⟩, .int .i64 2] 56)).cell? ⟨w.heap.size, 1, none⟩ = some (.int .u64 a) := by rw [World.cell?_alloc_past _ _ _ (World.block_lt_of_cell? w1 _ r1)]; exact r1
  have s2 : (w1.alloc (Obj.cells #[.string ⟨#[112, 111, 119, 101, 114]⟩, .int .i64 2] 56)).cell? ⟨w.heap.size, 2, none⟩ = some (.int .u64 b) := by rw [World.cell?_alloc_past _ _ _ (World.block_lt_of_cell? w1 _ r1)]; exact r2
  have s3 : (w1.alloc (Obj.cells #[.string ⟨#[112, 111, 119, 101, 114]⟩, .int .i64 2] 56)).cell? ⟨w.heap.size, 3, none⟩ = some (.int .u64 c) := by rw [World.cell?_alloc_past _ _ _ (World.block_lt_of_cell? w1 _ r1)]; exact r3
  clear r0 r1 r2 r3 k0 k1 HG HK HB
  generalize w1.alloc (Obj.cells #[.string ⟨#[112, 111, 119, 101, 114]⟩, .int .i64 2] 56) = w2 at *
  obtain ⟨T, hT⟩ : ∃ T : ByteArray, T = ⟨(Lib.join (([a, b, c].take 2).map fun x => Lib.decDigits x.toNat) [32]).toArray⟩ := ⟨_, rfl⟩
  have hTx := text_any (some ⟨w2.heap.size, 0, none⟩) 2 3 ([a, b, c].take 2) _ (rdTake w2.drew a b c 2 (by omega)) (by omega) (by omega) (fun x hx => HW.out x (List.mem_of_mem_take hx)) (tabIs_below HTab.out ((HB2.out.drew).alloc (by rw [drew_size]; exact HB2.out.size) _))
  rw [← hT] at hTx
  have HTx := Lib.hid hTx
  have hTs : T.size ≤ 140737488355328 := by rw [hT]; exact join_len ([a, b, c].take 2) (by simp <;> omega) (fun x hx => HW.out x (List.mem_of_mem_take hx))
  have HT := Lib.hid hT
  clear hTx hT
  have hadd1 := fun W => run_string_add_sum (P := Tryd.prog) W ⟨#[112, 111, 119, 101, 114]⟩ ⟨#[32]⟩ (by decide)
  have hadd2 := fun W => run_string_add_sum (P := Tryd.prog) W (⟨#[112, 111, 119, 101, 114]⟩ ++ ⟨#[32]⟩) T (by rw [ByteArray.size_append]; show 5 + 1 + T.size ≤ _; omega)
  have hadd3 := fun W => run_string_add_sum (P := Tryd.prog) W ⟨#[112, 111, 119, 101, 114, 32]⟩ T (by show 5 + 1 + T.size ≤ _; omega)
  go_region_held3 (fun w' => w'.cell? ⟨w1.heap.size, 0, none⟩ = some (.string ⟨#[112, 111, 119, 101, 114]⟩) ∧ w'.cell? ⟨w1.heap.size, 1, none⟩ = some (.int .i64 2) ∧ w'.cell? ⟨w.heap.size, 1, none⟩ = some (.int .u64 a) ∧ w'.cell? ⟨w.heap.size, 2, none⟩ = some (.int .u64 b) ∧ w'.cell? ⟨w.heap.size, 3, none⟩ = some (.int .u64 c)) (first | exact ⟨keep_cell hb3 q0, keep_cell hb3 q1, keep_cell hb3 s1, keep_cell hb3 s2, keep_cell hb3 s3⟩ | go_keep)
    ((go_at_call 18; refine HTx.out.mono ?_; rintro e w3 ⟨rfl, hb3⟩))
  have HE : Hid ((⟨#[112, 111, 119, 101, 114]⟩ : ByteArray) ++ ⟨#[32]⟩ ++ T = lineL 3 a b c) := by
    show _ = _
    rw [HT.out]; apply ByteArray.ext; rw [ByteArray.data_append, ByteArray.data_append]; simp [lineL, kWord, kNum, textL]
  have HB4 : Hid (Below w.heap.size w w3) := ((HB2.out.drew).alloc (by rw [drew_size]; exact HB2.out.size) _).trans (hb3.mono (by have := HB2.out.size; simp [drew_size]; omega))
  clear hb3 hTs hadd1 hadd2 hadd3 q0 q1 s1 s2 s3
  rw [HE.out]
  go_wp2
  go_ret
  exact ⟨rfl, HB4.out⟩
set_option maxRecDepth 100000 in
set_option maxHeartbeats 2000000 in
theorem genLine_4 (a b c : Int) (w : World) (h : goodB 4 a b c = true) (hw : isWords [a, b, c]) (hk : KindsAt w) (htab : Lib.TabIs Tryd.prog w "internal/strconv.uint64pow10" .u64 Lib.pow10Tab) :
    Calls Tryd.prog 13 #[.agg #[.int .i64 4, .int .u64 a, .int .u64 b, .int .u64 c]] w fun e w' => e = .returned (.string (lineL 4 a b c)) ∧ Below w.heap.size w w' := by
  have hG := genGood_any 4 a b c (w.alloc (.cells #[.int .i64 4, .int .u64 a, .int .u64 b, .int .u64 c] 38))
  rw [h] at hG
  have HG := Lib.hid hG
  have HTab := Lib.hid htab
  have HK := Lib.hid hk
  have HW := Lib.hid hw
  clear hG h htab hk hw
  go_enter Tryd.func13, Tryd.ntmps13
  go_wp2_with fail
  refine HG.out.mono ?_
  rintro e w1 ⟨rfl, hb1⟩
  have HB : Hid (Below w.heap.size w w1) := ((Below.refl _ _).alloc (Nat.le_refl _) _).trans (hb1.mono (by simp))
  have hbk := (Upd.of_below (S := fun _ => False) hb1).blk (fun q => q) (Blk.new w 38 [.int .i64 4, .int .u64 a, .int .u64 b, .int .u64 c])
  have r0 : w1.cell? ⟨w.heap.size, 0, none⟩ = some (.int .i64 4) := hbk.cell 0
  have r1 : w1.cell? ⟨w.heap.size, 1, none⟩ = some (.int .u64 a) := hbk.cell 1
  have r2 : w1.cell? ⟨w.heap.size, 2, none⟩ = some (.int .u64 b) := hbk.cell 2
  have r3 : w1.cell? ⟨w.heap.size, 3, none⟩ = some (.int .u64 c) := hbk.cell 3
  have hK1 := HK.out.below HB.out
  have k0 : w1.cell? ⟨0, 2 * 4, none⟩ = some (.string ⟨#[99, 104, 97, 105, 110]⟩) := hK1 (2 * 4) _ rfl
  have k1 : w1.cell? ⟨0, 2 * 4 + 1, none⟩ = some (.int .i64 3) := hK1 (2 * 4 + 1) _ rfl
  clear hb1 hbk hK1
  go_wp2
  have HB2 : Hid (Below w.heap.size w (w1.alloc (Obj.cells #[.string ⟨#[99, 104, 97, 105, 110]⟩, .int .i64 3] 56))) := HB.out.alloc HB.out.size _
  have q0 : (w1.alloc (Obj.cells #[.string ⟨#[99, 104, 97, 105, 110]⟩, .int .i64 3] 56)).cell? ⟨w1.heap.size, 0, none⟩ = some (.string ⟨#[99, 104, 97, 105, 110]⟩) := (Blk.new w1 56 [.string ⟨#[99, 104, 97, 105, 110]⟩, .int .i64 3]).cell 0
  have q1 : (w1.alloc (Obj.cells #[.string ⟨#[99, 104, 97, 105, 110]⟩, .int .i64 3] 56)).cell? ⟨w1.heap.size, 1, none⟩ = some (.int .i64 3) := (Blk.new w1 56 [.string ⟨#[99, 104, 97, 105, 110]⟩, .int .i64 3]).cell 1
  have s1 : (w1.alloc (Obj.cells #[.string ⟨#[99, 104, 97, 105, 110]⟩, .int .i64 3] 56)).cell? ⟨w.heap.size, 1, none⟩ = some (.int .u64 a) := by rw [World.cell?_alloc_past _ _ _ (World.block_lt_of_cell? w1 _ r1)]; exact r1
  have s2 : (w1.alloc (Obj.cells #[.string ⟨#[99, 104, 97, 105, 110]⟩, .int .i64 3] 56)).cell? ⟨w.heap.size, 2, none⟩ = some (.int .u64 b) := by rw [World.cell?_alloc_past _ _ _ (World.block_lt_of_cell? w1 _ r1)]; exact r2
  have s3 : (w1.alloc (Obj.cells #[.string ⟨#[99, 104, 97, 105, 110]⟩, .int .i64 3] 56)).cell? ⟨w.heap.size, 3, none⟩ = some (.int .u64 c) := by rw [World.cell?_alloc_past _ _ _ (World.block_lt_of_cell? w1 _ r1)]; exact r3
  clear r0 r1 r2 r3 k0 k1 HG HK HB
  generalize w1.alloc (Obj.cells #[.string ⟨#[99, 104, 97, 105, 110]⟩, .int .i64 3] 56) = w2 at *
  obtain ⟨T, hT⟩ : ∃ T : ByteArray, T = ⟨(Lib.join (([a, b, c].take 3).map fun x => Lib.decDigits x.toNat) [32]).toArray⟩ := ⟨_, rfl⟩
  have hTx := text_any (some ⟨w2.heap.size, 0, none⟩) 3 3 ([a, b, c].take 3) _ (rdTake w2.drew a b c 3 (by omega)) (by omega) (by omega) (fun x hx => HW.out x (List.mem_of_mem_take hx)) (tabIs_below HTab.out ((HB2.out.drew).alloc (by rw [drew_size]; exact HB2.out.size) _))
  rw [← hT] at hTx
  have HTx := Lib.hid hTx
  have hTs : T.size ≤ 140737488355328 := by rw [hT]; exact join_len ([a, b, c].take 3) (by simp <;> omega) (fun x hx => HW.out x (List.mem_of_mem_take hx))
  have HT := Lib.hid hT
  clear hTx hT
  have hadd1 := fun W => run_string_add_sum (P := Tryd.prog) W ⟨#[99, 104, 97, 105, 110]⟩ ⟨#[32]⟩ (by decide)
  have hadd2 := fun W => run_string_add_sum (P := Tryd.prog) W (⟨#[99, 104, 97, 105, 110]⟩ ++ ⟨#[32]⟩) T (by rw [ByteArray.size_append]; show 5 + 1 + T.size ≤ _; omega)
  have hadd3 := fun W => run_string_add_sum (P := Tryd.prog) W ⟨#[99, 104, 97, 105, 110, 32]⟩ T (by show 5 + 1 + T.size ≤ _; omega)
  go_region_held3 (fun w' => w'.cell? ⟨w1.heap.size, 0, none⟩ = some (.string ⟨#[99, 104, 97, 105, 110]⟩) ∧ w'.cell? ⟨w1.heap.size, 1, none⟩ = some (.int .i64 3) ∧ w'.cell? ⟨w.heap.size, 1, none⟩ = some (.int .u64 a) ∧ w'.cell? ⟨w.heap.size, 2, none⟩ = some (.int .u64 b) ∧ w'.cell? ⟨w.heap.size, 3, none⟩ = some (.int .u64 c)) (first | exact ⟨keep_cell hb3 q0, keep_cell hb3 q1, keep_cell hb3 s1, keep_cell hb3 s2, keep_cell hb3 s3⟩ | go_keep)
    ((go_at_call 18; refine HTx.out.mono ?_; rintro e w3 ⟨rfl, hb3⟩))
  have HE : Hid ((⟨#[99, 104, 97, 105, 110]⟩ : ByteArray) ++ ⟨#[32]⟩ ++ T = lineL 4 a b c) := by
    show _ = _
    rw [HT.out]; apply ByteArray.ext; rw [ByteArray.data_append, ByteArray.data_append]; simp [lineL, kWord, kNum, textL]
  have HB4 : Hid (Below w.heap.size w w3) := ((HB2.out.drew).alloc (by rw [drew_size]; exact HB2.out.size) _).trans (hb3.mono (by have := HB2.out.size; simp [drew_size]; omega))
  clear hb3 hTs hadd1 hadd2 hadd3 q0 q1 s1 s2 s3
  rw [HE.out]
  go_wp2
  go_ret
  exact ⟨rfl, HB4.out⟩
set_option maxRecDepth 100000 in
set_option maxHeartbeats 2000000 in
theorem genLine_5 (a b c : Int) (w : World) (h : goodB 5 a b c = true) (hw : isWords [a, b, c]) (hk : KindsAt w) (htab : Lib.TabIs Tryd.prog w "internal/strconv.uint64pow10" .u64 Lib.pow10Tab) :
    Calls Tryd.prog 13 #[.agg #[.int .i64 5, .int .u64 a, .int .u64 b, .int .u64 c]] w fun e w' => e = .returned (.string (lineL 5 a b c)) ∧ Below w.heap.size w w' := by
  have hG := genGood_any 5 a b c (w.alloc (.cells #[.int .i64 5, .int .u64 a, .int .u64 b, .int .u64 c] 38))
  rw [h] at hG
  have HG := Lib.hid hG
  have HTab := Lib.hid htab
  have HK := Lib.hid hk
  have HW := Lib.hid hw
  clear hG h htab hk hw
  go_enter Tryd.func13, Tryd.ntmps13
  go_wp2_with fail
  refine HG.out.mono ?_
  rintro e w1 ⟨rfl, hb1⟩
  have HB : Hid (Below w.heap.size w w1) := ((Below.refl _ _).alloc (Nat.le_refl _) _).trans (hb1.mono (by simp))
  have hbk := (Upd.of_below (S := fun _ => False) hb1).blk (fun q => q) (Blk.new w 38 [.int .i64 5, .int .u64 a, .int .u64 b, .int .u64 c])
  have r0 : w1.cell? ⟨w.heap.size, 0, none⟩ = some (.int .i64 5) := hbk.cell 0
  have r1 : w1.cell? ⟨w.heap.size, 1, none⟩ = some (.int .u64 a) := hbk.cell 1
  have r2 : w1.cell? ⟨w.heap.size, 2, none⟩ = some (.int .u64 b) := hbk.cell 2
  have r3 : w1.cell? ⟨w.heap.size, 3, none⟩ = some (.int .u64 c) := hbk.cell 3
  have hK1 := HK.out.below HB.out
  have k0 : w1.cell? ⟨0, 2 * 5, none⟩ = some (.string ⟨#[112, 117, 108, 115, 101]⟩) := hK1 (2 * 5) _ rfl
  have k1 : w1.cell? ⟨0, 2 * 5 + 1, none⟩ = some (.int .i64 3) := hK1 (2 * 5 + 1) _ rfl
  clear hb1 hbk hK1
  go_wp2
  have HB2 : Hid (Below w.heap.size w (w1.alloc (Obj.cells #[.string ⟨#[112, 117, 108, 115, 101]⟩, .int .i64 3] 56))) := HB.out.alloc HB.out.size _
  have q0 : (w1.alloc (Obj.cells #[.string ⟨#[112, 117, 108, 115, 101]⟩, .int .i64 3] 56)).cell? ⟨w1.heap.size, 0, none⟩ = some (.string ⟨#[112, 117, 108, 115, 101]⟩) := (Blk.new w1 56 [.string ⟨#[112, 117, 108, 115, 101]⟩, .int .i64 3]).cell 0
  have q1 : (w1.alloc (Obj.cells #[.string ⟨#[112, 117, 108, 115, 101]⟩, .int .i64 3] 56)).cell? ⟨w1.heap.size, 1, none⟩ = some (.int .i64 3) := (Blk.new w1 56 [.string ⟨#[112, 117, 108, 115, 101]⟩, .int .i64 3]).cell 1
  have s1 : (w1.alloc (Obj.cells #[.string ⟨#[112, 117, 108, 115, 101]⟩, .int .i64 3] 56)).cell? ⟨w.heap.size, 1, none⟩ = some (.int .u64 a) := by rw [World.cell?_alloc_past _ _ _ (World.block_lt_of_cell? w1 _ r1)]; exact r1
  have s2 : (w1.alloc (Obj.cells #[.string ⟨#[112, 117, 108, 115, 101]⟩, .int .i64 3] 56)).cell? ⟨w.heap.size, 2, none⟩ = some (.int .u64 b) := by rw [World.cell?_alloc_past _ _ _ (World.block_lt_of_cell? w1 _ r1)]; exact r2
  have s3 : (w1.alloc (Obj.cells #[.string ⟨#[112, 117, 108, 115, 101]⟩, .int .i64 3] 56)).cell? ⟨w.heap.size, 3, none⟩ = some (.int .u64 c) := by rw [World.cell?_alloc_past _ _ _ (World.block_lt_of_cell? w1 _ r1)]; exact r3
  clear r0 r1 r2 r3 k0 k1 HG HK HB
  generalize w1.alloc (Obj.cells #[.string ⟨#[112, 117, 108, 115, 101]⟩, .int .i64 3] 56) = w2 at *
  obtain ⟨T, hT⟩ : ∃ T : ByteArray, T = ⟨(Lib.join (([a, b, c].take 3).map fun x => Lib.decDigits x.toNat) [32]).toArray⟩ := ⟨_, rfl⟩
  have hTx := text_any (some ⟨w2.heap.size, 0, none⟩) 3 3 ([a, b, c].take 3) _ (rdTake w2.drew a b c 3 (by omega)) (by omega) (by omega) (fun x hx => HW.out x (List.mem_of_mem_take hx)) (tabIs_below HTab.out ((HB2.out.drew).alloc (by rw [drew_size]; exact HB2.out.size) _))
  rw [← hT] at hTx
  have HTx := Lib.hid hTx
  have hTs : T.size ≤ 140737488355328 := by rw [hT]; exact join_len ([a, b, c].take 3) (by simp <;> omega) (fun x hx => HW.out x (List.mem_of_mem_take hx))
  have HT := Lib.hid hT
  clear hTx hT
  have hadd1 := fun W => run_string_add_sum (P := Tryd.prog) W ⟨#[112, 117, 108, 115, 101]⟩ ⟨#[32]⟩ (by decide)
  have hadd2 := fun W => run_string_add_sum (P := Tryd.prog) W (⟨#[112, 117, 108, 115, 101]⟩ ++ ⟨#[32]⟩) T (by rw [ByteArray.size_append]; show 5 + 1 + T.size ≤ _; omega)
  have hadd3 := fun W => run_string_add_sum (P := Tryd.prog) W ⟨#[112, 117, 108, 115, 101, 32]⟩ T (by show 5 + 1 + T.size ≤ _; omega)
  go_region_held3 (fun w' => w'.cell? ⟨w1.heap.size, 0, none⟩ = some (.string ⟨#[112, 117, 108, 115, 101]⟩) ∧ w'.cell? ⟨w1.heap.size, 1, none⟩ = some (.int .i64 3) ∧ w'.cell? ⟨w.heap.size, 1, none⟩ = some (.int .u64 a) ∧ w'.cell? ⟨w.heap.size, 2, none⟩ = some (.int .u64 b) ∧ w'.cell? ⟨w.heap.size, 3, none⟩ = some (.int .u64 c)) (first | exact ⟨keep_cell hb3 q0, keep_cell hb3 q1, keep_cell hb3 s1, keep_cell hb3 s2, keep_cell hb3 s3⟩ | go_keep)
    ((go_at_call 18; refine HTx.out.mono ?_; rintro e w3 ⟨rfl, hb3⟩))
  have HE : Hid ((⟨#[112, 117, 108, 115, 101]⟩ : ByteArray) ++ ⟨#[32]⟩ ++ T = lineL 5 a b c) := by
    show _ = _
    rw [HT.out]; apply ByteArray.ext; rw [ByteArray.data_append, ByteArray.data_append]; simp [lineL, kWord, kNum, textL]
  have HB4 : Hid (Below w.heap.size w w3) := ((HB2.out.drew).alloc (by rw [drew_size]; exact HB2.out.size) _).trans (hb3.mono (by have := HB2.out.size; simp [drew_size]; omega))
  clear hb3 hTs hadd1 hadd2 hadd3 q0 q1 s1 s2 s3
  rw [HE.out]
  go_wp2
  go_ret
  exact ⟨rfl, HB4.out⟩

theorem genLine_any (k a b c : Int) (w : World) (hw : isWords [a, b, c]) (hk : KindsAt w) (htab : Lib.TabIs Tryd.prog w "internal/strconv.uint64pow10" .u64 Lib.pow10Tab) :
    Calls Tryd.prog 13 #[.agg #[.int .i64 k, .int .u64 a, .int .u64 b, .int .u64 c]] w fun e w' => e = .returned (.string (if goodB k a b c = true then lineL k a b c else ⟨#[]⟩)) ∧ Below w.heap.size w w' := by
  by_cases h : goodB k a b c = true
  · rw [if_pos h]
    have h1 : 1 ≤ k ∧ k ≤ 5 := by unfold goodB at h; simp at h; exact h.1
    rcases (show k = 1 ∨ k = 2 ∨ k = 3 ∨ k = 4 ∨ k = 5 by omega) with rfl | rfl | rfl | rfl | rfl
    · exact genLine_1 a b c w h hw hk htab
    · exact genLine_2 a b c w h hw hk htab
    · exact genLine_3 a b c w h hw hk htab
    · exact genLine_4 a b c w h hw hk htab
    · exact genLine_5 a b c w h hw hk htab
  · rw [if_neg h]
    exact genLine_no k a b c w (by simpa using h)
end Go.Proofs.YtcdehndodgefnaaDoor
