/- Walks: the rule of a line. -/
import Derived.Test.YtcdehndodgefnaaDoorGo2
import Derived.Test.YtcdehndodgefnaaDoorCp
set_option linter.unusedVariables false
set_option linter.unusedSimpArgs false
namespace Go.Proofs.YtcdehndodgefnaaDoor
open Go.RowKit Ab Go.Proofs

theorem read_any (s : ByteArray) (m : Int) (w : World) (hs : s.size ≤ 1000000) (hm : w.cell? ⟨1, 0, none⟩ = some (.int .i64 m)) :
    Calls Tryd.prog 17 #[.string s] w fun e w' => ∃ v, e = .returned (.tuple #[v, .int .i64 (readL s).2.1, .int .i64 (readL s).2.2]) ∧ Own w' w.heap.size 35 .u64 v (readL s).1 ∧ Below w.heap.size w w' := by
  by_cases h0 : s.size = 0
  · refine (read_empty s w h0).mono fun e w' ⟨he, hw⟩ => ?_
    have e2 : readL s = ([], 0, 0) := by unfold readL; rw [if_pos h0]
    subst hw
    rw [e2]
    exact ⟨_, he, Own.nil _ _ _ _, Below.refl _ _⟩
  · exact read_some s m w (by omega) hs hm

def kWordB (j : Nat) : ByteArray := ⟨(kWord j).toArray⟩
def kindOf (b : ByteArray) : Int := if b = kWordB 1 then 1 else if b = kWordB 2 then 2 else if b = kWordB 3 then 3 else if b = kWordB 4 then 4 else if b = kWordB 5 then 5 else 0
def ruleOf (k : Int) (L : List Int) (E : Int) : (Int × Int × Int × Int) × Int :=
  if E ≠ 0 then ((0, 0, 0, 0), E) else if L.length ≠ kNum k then ((0, 0, 0, 0), 17) else if goodB k (L.getD 0 0) (L.getD 1 0) (L.getD 2 0) = true then ((k, L.getD 0 0, L.getD 1 0, L.getD 2 0), 0) else ((0, 0, 0, 0), 18)
/-- The rule of a line, and an error's number. -/
def readRule (s : ByteArray) : (Int × Int × Int × Int) × Int :=
  if kindOf ⟨(Lib.cut s.data.toList [32]).1.toArray⟩ = 0 then ((0, 0, 0, 0), 17)
  else ruleOf (kindOf ⟨(Lib.cut s.data.toList [32]).1.toArray⟩) (readL ⟨(Lib.cut s.data.toList [32]).2.1.toArray⟩).1 (readL ⟨(Lib.cut s.data.toList [32]).2.1.toArray⟩).2.2
theorem kindOf_none {b : ByteArray} (h : ∀ j : Nat, 1 ≤ j → j < 6 → b ≠ kWordB j) : kindOf b = 0 := by
  unfold kindOf
  rw [if_neg (h 1 (by omega) (by omega)), if_neg (h 2 (by omega) (by omega)), if_neg (h 3 (by omega) (by omega)), if_neg (h 4 (by omega) (by omega)), if_neg (h 5 (by omega) (by omega))]
theorem bne_word {b : ByteArray} {l : List UInt8} (h : b ≠ ⟨l.toArray⟩) : (!l == b.toList) = true := by
  rw [ByteArray.toList_eq]
  simp only [Bool.not_eq_true', beq_eq_false_iff_ne, ne_eq]
  intro e
  apply h
  apply ByteArray.ext
  rw [e]
theorem len2 {L : List Int} (h : L.length = 2) : ∃ x y, L = [x, y] := by
  match L, h with
  | [x, y], _ => exact ⟨x, y, rfl⟩
theorem len3 {L : List Int} (h : L.length = 3) : ∃ x y z, L = [x, y, z] := by
  match L, h with
  | [x, y, z], _ => exact ⟨x, y, z, rfl⟩
theorem cut_size (l sep : List UInt8) : (Lib.cut l sep).2.1.length ≤ l.length := by
  unfold Lib.cut
  split
  · simp
  · simp
theorem info_u64_size : (Tryd.prog.info? 35).map (·.size) = some 1 := by kernel_rfl
/-- What came out: a rule and a number. -/
def OutRule (r : (Int × Int × Int × Int) × Int) (w : World) (e : Ending) (w' : World) : Prop :=
  e = .returned (.tuple #[.agg #[.int .i64 r.1.1, .int .u64 r.1.2.1, .int .u64 r.1.2.2.1, .int .u64 r.1.2.2.2], .int .i64 r.2]) ∧ Below w.heap.size w w'

set_option maxRecDepth 100000 in
set_option maxHeartbeats 4000000 in
theorem genRead_any (s : ByteArray) (m : Int) (w : World) (hs : s.size ≤ 1000000) (hk : KindsAt w) (hm : w.cell? ⟨1, 0, none⟩ = some (.int .i64 m)) :
    Calls Tryd.prog 14 #[.string s] w (OutRule (readRule s) w) := by
  obtain ⟨B, hB⟩ : ∃ B : ByteArray, B = ⟨(Lib.cut s.data.toList [32]).1.toArray⟩ := ⟨_, rfl⟩
  obtain ⟨R, hR⟩ : ∃ R : ByteArray, R = ⟨(Lib.cut s.data.toList [32]).2.1.toArray⟩ := ⟨_, rfl⟩
  obtain ⟨L, hL⟩ : ∃ L, L = (readL R).1 := ⟨_, rfl⟩
  obtain ⟨At, hAt⟩ : ∃ At, At = (readL R).2.1 := ⟨_, rfl⟩
  obtain ⟨E, hE⟩ : ∃ E, E = (readL R).2.2 := ⟨_, rfl⟩
  have HRR : Hid (readRule s = if kindOf B = 0 then ((0, 0, 0, 0), 17) else ruleOf (kindOf B) L E) := by show _ = _; rw [hL, hE, hR, hB]; rfl
  have HL := Lib.hid hL
  have HAt := Lib.hid hAt
  have HE := Lib.hid hE
  have hRs : R.size ≤ 1000000 := by
    rw [hR]
    show (Lib.cut s.data.toList [32]).2.1.toArray.size ≤ _
    rw [List.size_toArray]
    have h1 := cut_size s.data.toList [32]
    have h2 : s.data.toList.length = s.size := Array.length_toList
    omega
  clear hL hAt hE
  obtain ⟨q, hq⟩ : ∃ q : Bool, q = (Lib.cut s.data.toList [32]).2.2 := ⟨_, rfl⟩
  have HB0 : Hid (Below w.heap.size w (w.alloc (Obj.cells #[.int .i64 0, .int .u64 0, .int .u64 0, .int .u64 0] 38))) := (Below.refl _ _).alloc (Nat.le_refl _) _
  have hZ := Blk.new w 38 [.int .i64 0, .int .u64 0, .int .u64 0, .int .u64 0]
  have hk0 := hk.below HB0.out
  have hm0 := HB0.out.cell (World.block_lt_of_cell? w ⟨1, 0, none⟩ hm)
  rw [hm] at hm0
  obtain ⟨W0, hW0⟩ : ∃ W0, W0 = w.alloc (Obj.cells #[.int .i64 0, .int .u64 0, .int .u64 0, .int .u64 0] 38) := ⟨_, rfl⟩
  have hZ0 : Blk W0 w.heap.size 38 [.int .i64 0, .int .u64 0, .int .u64 0, .int .u64 0] := by rw [hW0]; exact hZ
  rw [← hW0] at HB0 hk0 hm0
  have hC := Tryd.strings_Cut s ⟨#[32]⟩ m W0 (by omega) hm0
  rw [show (⟨#[32]⟩ : ByteArray).data.toList = [32] from rfl, ← hB, ← hR, ← hq] at hC
  have HC := Lib.hid hC
  have k0 : W0.cell? ⟨0, 0, none⟩ = some (.string ⟨#[]⟩) := hk0 0 _ rfl
  have k1 : W0.cell? ⟨0, 1, none⟩ = some (.int .i64 0) := hk0 1 _ rfl
  have k2 : W0.cell? ⟨0, 2, none⟩ = some (.string ⟨#[99, 111, 110, 115, 116]⟩) := hk0 2 _ rfl
  have k3 : W0.cell? ⟨0, 3, none⟩ = some (.int .i64 1) := hk0 3 _ rfl
  have k4 : W0.cell? ⟨0, 4, none⟩ = some (.string ⟨#[108, 105, 110, 101]⟩) := hk0 4 _ rfl
  have k5 : W0.cell? ⟨0, 5, none⟩ = some (.int .i64 2) := hk0 5 _ rfl
  have k6 : W0.cell? ⟨0, 6, none⟩ = some (.string ⟨#[112, 111, 119, 101, 114]⟩) := hk0 6 _ rfl
  have k7 : W0.cell? ⟨0, 7, none⟩ = some (.int .i64 2) := hk0 7 _ rfl
  have k8 : W0.cell? ⟨0, 8, none⟩ = some (.string ⟨#[99, 104, 97, 105, 110]⟩) := hk0 8 _ rfl
  have k9 : W0.cell? ⟨0, 9, none⟩ = some (.int .i64 3) := hk0 9 _ rfl
  have k10 : W0.cell? ⟨0, 10, none⟩ = some (.string ⟨#[112, 117, 108, 115, 101]⟩) := hk0 10 _ rfl
  have k11 : W0.cell? ⟨0, 11, none⟩ = some (.int .i64 3) := hk0 11 _ rfl
  have z0 : W0.cell? ⟨w.heap.size, 0, none⟩ = some (.int .i64 0) := hZ0.cell 0
  have z1 : W0.cell? ⟨w.heap.size, 1, none⟩ = some (.int .u64 0) := hZ0.cell 1
  have z2 : W0.cell? ⟨w.heap.size, 2, none⟩ = some (.int .u64 0) := hZ0.cell 2
  have z3 : W0.cell? ⟨w.heap.size, 3, none⟩ = some (.int .u64 0) := hZ0.cell 3
  have HZ := Lib.hid hZ0
  have HK0 := Lib.hid hk0
  have HM0 := Lib.hid hm0
  have HW0 := Lib.hid hW0
  clear hC hB hR hq hZ hZ0 hk hk0 hm hm0 hW0
  go_enter Tryd.func14, Tryd.ntmps14
  go_wp2_with fail
  rw [← HW0.out]
  refine HC.out.mono ?_
  rintro e w1 ⟨rfl, n1, rfl⟩
  go_wp2
  go_loopw [21] (fun i wr => ∃ k : Nat, k ≤ 6 ∧ i = .int .i64 k ∧ Hid (∀ j : Nat, 1 ≤ j → j < k → B ≠ kWordB j) ∧ Hid (Upd (fun _ => False) W0 wr)) (fun i _ => 6 - (intOf i).toNat)
  case atStart => exact ⟨0, by omega, rfl, fun j h1 h2 => by omega, (Upd.refl _ _).drewN _⟩
  case round =>
    obtain ⟨k, hk, rfl, HN, HU⟩ := hrel
    rcases (show k = 0 ∨ k = 1 ∨ k = 2 ∨ k = 3 ∨ k = 4 ∨ k = 5 ∨ k = 6 by omega) with rfl | rfl | rfl | rfl | rfl | rfl | rfl
    · have hi : ∀ w, (Instr.index 57 (.agg #[.string ⟨#[]⟩, .int .i64 0, .string ⟨#[99, 111, 110, 115, 116]⟩, .int .i64 1, .string ⟨#[108, 105, 110, 101]⟩, .int .i64 2, .string ⟨#[112, 111, 119, 101, 114]⟩, .int .i64 2, .string ⟨#[99, 104, 97, 105, 110]⟩, .int .i64 3, .string ⟨#[112, 117, 108, 115, 101]⟩, .int .i64 3]) (.int .i64 0)).run Tryd.prog w = .ok (.agg #[.string ⟨#[]⟩, .int .i64 0]) w := fun _ => by kernel_rfl
      have HU2 : Hid (Upd (fun _ => False) W0 (wr.alloc (.cells #[.string ⟨#[]⟩, .int .i64 0] 56))) := HU.out.alloc _
      go_wp2
      go_roundw
      case rel => exact ⟨1, by omega, by go_num, fun j h1 h2 => by omega, HU2⟩
      case measure => simp [intOf]
    · have hi : ∀ w, (Instr.index 57 (.agg #[.string ⟨#[]⟩, .int .i64 0, .string ⟨#[99, 111, 110, 115, 116]⟩, .int .i64 1, .string ⟨#[108, 105, 110, 101]⟩, .int .i64 2, .string ⟨#[112, 111, 119, 101, 114]⟩, .int .i64 2, .string ⟨#[99, 104, 97, 105, 110]⟩, .int .i64 3, .string ⟨#[112, 117, 108, 115, 101]⟩, .int .i64 3]) (.int .i64 1)).run Tryd.prog w = .ok (.agg #[.string ⟨#[99, 111, 110, 115, 116]⟩, .int .i64 1]) w := fun _ => by kernel_rfl
      by_cases hBw : B = ⟨#[99, 111, 110, 115, 116]⟩
      · subst hBw
        have hu4 := HU.out.alloc (.cells #[.string ⟨#[99, 111, 110, 115, 116]⟩, .int .i64 1] 56)
        have hR := read_any R m (wr.alloc (.cells #[.string ⟨#[99, 111, 110, 115, 116]⟩, .int .i64 1] 56)) hRs (hu4.cell (fun q => q) HM0.out)
        have hz4 := hu4.blk (fun q => q) HZ.out
        have hk4 := Blk.new wr 56 [.string ⟨#[99, 111, 110, 115, 116]⟩, .int .i64 1]
        rw [← HL.out, ← HE.out, ← HAt.out] at hR
        have HR := Lib.hid hR
        have HU4 := Lib.hid hu4
        have HZ4 := Lib.hid hz4
        have HK4 := Lib.hid hk4
        clear hu4 hR hz4 hk4
        go_wp2_with fail
        refine HR.out.mono ?_
        rintro e w2 ⟨v, rfl, ho2, hb2⟩
        obtain ⟨av, cv, rfl, hrv, hbv⟩ := ho2.rd
        have hu2 : Upd (fun _ => False) W0 w2 := HU4.out.trans (.of_below hb2)
        have hz2 : Blk w2 w.heap.size 38 [.int .i64 0, .int .u64 0, .int .u64 0, .int .u64 0] := (Upd.of_below (S := fun _ => False) hb2).blk (fun q => q) HZ4.out
        have hk2 : Blk w2 wr.heap.size 56 [.string ⟨#[99, 111, 110, 115, 116]⟩, .int .i64 1] := (Upd.of_below (S := fun _ => False) hb2).blk (fun q => q) HK4.out
        have y0 : w2.cell? ⟨w.heap.size, 0, none⟩ = some (.int .i64 0) := hz2.cell 0
        have y1 : w2.cell? ⟨w.heap.size, 1, none⟩ = some (.int .u64 0) := hz2.cell 1
        have y2 : w2.cell? ⟨w.heap.size, 2, none⟩ = some (.int .u64 0) := hz2.cell 2
        have y3 : w2.cell? ⟨w.heap.size, 3, none⟩ = some (.int .u64 0) := hz2.cell 3
        have f0 : w2.frozen? ⟨w.heap.size, 0, none⟩ = false := hz2.frozen 0
        have f1 : w2.frozen? ⟨w.heap.size, 1, none⟩ = false := hz2.frozen 1
        have f2 : w2.frozen? ⟨w.heap.size, 2, none⟩ = false := hz2.frozen 2
        have f3 : w2.frozen? ⟨w.heap.size, 3, none⟩ = false := hz2.frozen 3
        have kb1 : w2.cell? ⟨wr.heap.size, 1, none⟩ = some (.int .i64 1) := hk2.cell 1
        clear z0 z1 z2 z3 k0 k1 k2 k3 k4 k5 k6 k7 k8 k9 k10 k11 hi
        have HZ2 := Lib.hid hz2
        have HU2 := Lib.hid hu2
        have HV := Lib.hid hrv
        have HB5 : Hid (Below w.heap.size w w2) := HB0.out.trans (hu2.below.mono HB0.out.size)
        clear hz2 hk2 hu2 hrv ho2 hb2
        by_cases hE : E = 0
        · subst hE
          by_cases hLn : L.length = 1
          · obtain ⟨x, rfl⟩ : ∃ x, L = [x] := List.length_eq_one_iff.1 hLn
            have HFr : Hid (readRule s = ruleOf 1 [x] 0) := by show _ = _; rw [HRR.out, if_neg (by decide)]; rfl
            have hg5 := Blk.new w2 60 [.int .u64 0, .int .u64 0, .int .u64 0]
            have HB5 : Hid (Below w.heap.size w w2) := HB0.out.trans (HU2.out.below.mono HB0.out.size)
            obtain ⟨adv, eav, hcv⟩ := HV.out.2.2 (by simp)
            subst eav
            have hcell5 : ∀ j v, ([x].map (Value.int .u64))[j]? = some v → (w2.alloc (.cells #[.int .u64 0, .int .u64 0, .int .u64 0] 60)).cell? (adv.add j) = some v := by
              intro j v hj
              have hjl : j < [x].length := by
                rcases Nat.lt_or_ge j [x].length with h | h
                · exact h
                · rw [List.getElem?_eq_none (by rw [List.length_map]; exact h)] at hj; cases hj
              have := hcv j hjl
              have h2 := ((Upd.refl (fun _ => False) w2).alloc (.cells #[.int .u64 0, .int .u64 0, .int .u64 0] 60)).cell (fun q => q) this
              rw [h2, ← hj, List.getElem?_map, List.getElem?_eq_getElem hjl, getD_at 0 hjl]; rfl
            have HC5 := Lib.hid hcell5
            have HG5 := Lib.hid hg5
            clear hcv hcell5 hg5
            have hn5 : ([x].map (Value.int .u64)).length = Nat.min 1 3 := rfl
            have hf5 : 0 + ([x].map (Value.int .u64)).length ≤ [Value.int .u64 0, .int .u64 0, .int .u64 0].length := by simp
            have ho5 : ∀ v ∈ [x].map (Value.int .u64), v.oneCell' = true := by
              intro v hv
              obtain ⟨y, _, rfl⟩ := List.mem_map.1 hv
              rfl
            have HO5 := Lib.hid ho5
            have HN5 := Lib.hid hn5
            clear ho5 hn5
            go_wp2_with ((with_reducible refine wpList_copy_blk rfl _ _ 22 22 rfl 35 Tryd.underlying22 info_u64_size w2.heap.size 0 adv 3 3 1 cv rfl rfl [.int .u64 0, .int .u64 0, .int .u64 0] 60 HG5.out ([x].map (Value.int .u64)) HN5.out HC5.out hf5 HO5.out ?_); intro w6 hk6 hu6; have a0 : w6.cell? ⟨w2.heap.size, 0, none⟩ = some (.int .u64 (x)) := hk6.cell 0; have a1 : w6.cell? ⟨w2.heap.size, 1, none⟩ = some (.int .u64 (0)) := hk6.cell 1; have a2 : w6.cell? ⟨w2.heap.size, 2, none⟩ = some (.int .u64 (0)) := hk6.cell 2)
            have hu6' : Upd (fun _ => False) w2 w6 := ((Upd.refl (fun q => q = w2.heap.size) w2).alloc (.cells #[.int .u64 0, .int .u64 0, .int .u64 0] 60)).trans hu6 |>.mono (fun q hq e => by omega)
            have hz6 := hu6'.blk (fun q => q) HZ2.out
            have HB6 : Hid (Below w.heap.size w w6) := HB5.out.trans (hu6'.below.mono HB5.out.size)
            have HZ6 := Lib.hid hz6
            have hG := genGood_any 1 (x) (0) (0) (w6.alloc (.cells #[.int .i64 1, .int .u64 (x), .int .u64 (0), .int .u64 (0)] 38))
            have HG := Lib.hid hG
            have hsz6 : w.heap.size < w6.heap.size := hz6.lt
            clear y0 y1 y2 y3 f0 f1 f2 f3 kb1 hk6 hu6 hu6' hz6 hG HG5 HC5 HV HZ2 HU2
            refine HG.out.mono ?_
            rintro e w7 ⟨rfl, hb7⟩
            have hu7 : Upd (fun _ => False) w6 w7 := ((Upd.refl _ _).alloc _).trans (.of_below hb7)
            have hz7 := hu7.blk (fun q => q) HZ6.out
            have hr7 := (Upd.of_below (S := fun _ => False) hb7).blk (fun q => q) (Blk.new w6 38 [.int .i64 1, .int .u64 (x), .int .u64 (0), .int .u64 (0)])
            have y0 : w7.cell? ⟨w.heap.size, 0, none⟩ = some (.int .i64 0) := hz7.cell 0
            have y1 : w7.cell? ⟨w.heap.size, 1, none⟩ = some (.int .u64 0) := hz7.cell 1
            have y2 : w7.cell? ⟨w.heap.size, 2, none⟩ = some (.int .u64 0) := hz7.cell 2
            have y3 : w7.cell? ⟨w.heap.size, 3, none⟩ = some (.int .u64 0) := hz7.cell 3
            have f0 : w7.frozen? ⟨w.heap.size, 0, none⟩ = false := hz7.frozen 0
            have f1 : w7.frozen? ⟨w.heap.size, 1, none⟩ = false := hz7.frozen 1
            have f2 : w7.frozen? ⟨w.heap.size, 2, none⟩ = false := hz7.frozen 2
            have f3 : w7.frozen? ⟨w.heap.size, 3, none⟩ = false := hz7.frozen 3
            have r0 : w7.cell? ⟨w6.heap.size, 0, none⟩ = some (.int .i64 1) := hr7.cell 0
            have r1 : w7.cell? ⟨w6.heap.size, 1, none⟩ = some (.int .u64 (x)) := hr7.cell 1
            have r2 : w7.cell? ⟨w6.heap.size, 2, none⟩ = some (.int .u64 (0)) := hr7.cell 2
            have r3 : w7.cell? ⟨w6.heap.size, 3, none⟩ = some (.int .u64 (0)) := hr7.cell 3
            have HB7 : Hid (Below w.heap.size w w7) := HB6.out.trans (hu7.below.mono HB6.out.size)
            have HZ7 := Lib.hid hz7
            clear hu7 hb7 hz7 hr7 HG a0 a1 a2
            by_cases hgd : goodB 1 (x) (0) (0) = true
            · have HF2 : Hid (readRule s = ((1, x, 0, 0), 0)) := by show _ = _; rw [HFr.out]; unfold ruleOf; rw [if_neg (fun h => h rfl), if_neg (fun h => h rfl), if_pos (by exact hgd)]; rfl
              rw [hgd]
              have h0 := HZ7.out.setCell 0 (.int .i64 1)
              have h1 := h0.setCell 1 (.int .u64 (x))
              have h2 := h1.setCell 2 (.int .u64 (0))
              have h3 := h2.setCell 3 (.int .u64 (0))
              have q0 := h3.cell 0
              have q1 := h3.cell 1
              have q2 := h3.cell 2
              have q3 := h3.cell 3
              clear h0 h1 h2 h3 hgd
              go_wp2
              refine bodyPost_ret (v := .tuple #[.agg #[.int .i64 1, .int .u64 (x), .int .u64 (0), .int .u64 (0)], .int .i64 0]) (by simp [results, Tryd.results14, go_sem, *]) rfl ?_
              rw [HF2.out]
              exact ⟨rfl, Below.setCell (Below.setCell (Below.setCell (Below.setCell HB7.out (Nat.le_refl _) _) (Nat.le_refl _) _) (Nat.le_refl _) _) (Nat.le_refl _) _⟩
            · have HF2 : Hid (readRule s = ((0, 0, 0, 0), 18)) := by show _ = _; rw [HFr.out]; unfold ruleOf; rw [if_neg (fun h => h rfl), if_neg (fun h => h rfl), if_neg (by exact hgd)]
              have hgf : goodB 1 (x) (0) (0) = false := by simpa using hgd
              rw [hgf]
              clear hgd hgf
              go_wp2
              refine bodyPost_ret (v := .tuple #[.agg #[.int .i64 0, .int .u64 0, .int .u64 0, .int .u64 0], .int .i64 18]) (by simp [results, Tryd.results14, go_sem, *]) rfl ?_
              rw [HF2.out]
              exact ⟨rfl, Below.setCell (Below.setCell (Below.setCell (Below.setCell HB7.out (Nat.le_refl _) _) (Nat.le_refl _) _) (Nat.le_refl _) _) (Nat.le_refl _) _⟩
          · have HFr : Hid (readRule s = ((0, 0, 0, 0), 17)) := by show _ = _; rw [HRR.out, if_neg (by decide)]; unfold ruleOf; rw [if_neg (by decide), if_pos (by exact hLn)]
            have hb1 : ((L.length : Int) != 1) = true := by rw [bne_iff_ne]; omega
            clear hLn
            go_wp2
            refine bodyPost_ret (v := .tuple #[.agg #[.int .i64 0, .int .u64 0, .int .u64 0, .int .u64 0], .int .i64 17]) (by simp [results, Tryd.results14, go_sem, *]) rfl ?_
            rw [HFr.out]
            exact ⟨rfl, Below.setCell (Below.setCell (Below.setCell (Below.setCell HB5.out (Nat.le_refl _) _) (Nat.le_refl _) _) (Nat.le_refl _) _) (Nat.le_refl _) _⟩
        · have HFr : Hid (readRule s = ((0, 0, 0, 0), E)) := by show _ = _; rw [HRR.out, if_neg (by decide)]; unfold ruleOf; rw [if_pos hE]
          have hb1 : (E != 0) = true := by rw [bne_iff_ne]; exact hE
          clear hE
          go_wp2
          refine bodyPost_ret (v := .tuple #[.agg #[.int .i64 0, .int .u64 0, .int .u64 0, .int .u64 0], .int .i64 E]) (by simp [results, Tryd.results14, go_sem, *]) rfl ?_
          rw [HFr.out]
          exact ⟨rfl, Below.setCell (Below.setCell (Below.setCell (Below.setCell HB5.out (Nat.le_refl _) _) (Nat.le_refl _) _) (Nat.le_refl _) _) (Nat.le_refl _) _⟩
      · have hsc := bne_word (l := [99, 111, 110, 115, 116]) (by exact hBw)
        have HN2 : Hid (∀ j : Nat, 1 ≤ j → j < 1 + 1 → B ≠ kWordB j) := fun j h1 h2 => by
          by_cases e : j = 1
          · subst e; exact hBw
          · exact HN.out j h1 (by omega)
        have HU2 : Hid (Upd (fun _ => False) W0 (wr.alloc (.cells #[.string ⟨#[99, 111, 110, 115, 116]⟩, .int .i64 1] 56))) := HU.out.alloc _
        clear hBw
        go_wp2
        go_roundw
        case rel => exact ⟨1 + 1, by omega, by go_num, HN2, HU2⟩
        case measure => simp [intOf]
    · have hi : ∀ w, (Instr.index 57 (.agg #[.string ⟨#[]⟩, .int .i64 0, .string ⟨#[99, 111, 110, 115, 116]⟩, .int .i64 1, .string ⟨#[108, 105, 110, 101]⟩, .int .i64 2, .string ⟨#[112, 111, 119, 101, 114]⟩, .int .i64 2, .string ⟨#[99, 104, 97, 105, 110]⟩, .int .i64 3, .string ⟨#[112, 117, 108, 115, 101]⟩, .int .i64 3]) (.int .i64 2)).run Tryd.prog w = .ok (.agg #[.string ⟨#[108, 105, 110, 101]⟩, .int .i64 2]) w := fun _ => by kernel_rfl
      by_cases hBw : B = ⟨#[108, 105, 110, 101]⟩
      · subst hBw
        have hu4 := HU.out.alloc (.cells #[.string ⟨#[108, 105, 110, 101]⟩, .int .i64 2] 56)
        have hR := read_any R m (wr.alloc (.cells #[.string ⟨#[108, 105, 110, 101]⟩, .int .i64 2] 56)) hRs (hu4.cell (fun q => q) HM0.out)
        have hz4 := hu4.blk (fun q => q) HZ.out
        have hk4 := Blk.new wr 56 [.string ⟨#[108, 105, 110, 101]⟩, .int .i64 2]
        rw [← HL.out, ← HE.out, ← HAt.out] at hR
        have HR := Lib.hid hR
        have HU4 := Lib.hid hu4
        have HZ4 := Lib.hid hz4
        have HK4 := Lib.hid hk4
        clear hu4 hR hz4 hk4
        go_wp2_with fail
        refine HR.out.mono ?_
        rintro e w2 ⟨v, rfl, ho2, hb2⟩
        obtain ⟨av, cv, rfl, hrv, hbv⟩ := ho2.rd
        have hu2 : Upd (fun _ => False) W0 w2 := HU4.out.trans (.of_below hb2)
        have hz2 : Blk w2 w.heap.size 38 [.int .i64 0, .int .u64 0, .int .u64 0, .int .u64 0] := (Upd.of_below (S := fun _ => False) hb2).blk (fun q => q) HZ4.out
        have hk2 : Blk w2 wr.heap.size 56 [.string ⟨#[108, 105, 110, 101]⟩, .int .i64 2] := (Upd.of_below (S := fun _ => False) hb2).blk (fun q => q) HK4.out
        have y0 : w2.cell? ⟨w.heap.size, 0, none⟩ = some (.int .i64 0) := hz2.cell 0
        have y1 : w2.cell? ⟨w.heap.size, 1, none⟩ = some (.int .u64 0) := hz2.cell 1
        have y2 : w2.cell? ⟨w.heap.size, 2, none⟩ = some (.int .u64 0) := hz2.cell 2
        have y3 : w2.cell? ⟨w.heap.size, 3, none⟩ = some (.int .u64 0) := hz2.cell 3
        have f0 : w2.frozen? ⟨w.heap.size, 0, none⟩ = false := hz2.frozen 0
        have f1 : w2.frozen? ⟨w.heap.size, 1, none⟩ = false := hz2.frozen 1
        have f2 : w2.frozen? ⟨w.heap.size, 2, none⟩ = false := hz2.frozen 2
        have f3 : w2.frozen? ⟨w.heap.size, 3, none⟩ = false := hz2.frozen 3
        have kb1 : w2.cell? ⟨wr.heap.size, 1, none⟩ = some (.int .i64 2) := hk2.cell 1
        clear z0 z1 z2 z3 k0 k1 k2 k3 k4 k5 k6 k7 k8 k9 k10 k11 hi
        have HZ2 := Lib.hid hz2
        have HU2 := Lib.hid hu2
        have HV := Lib.hid hrv
        have HB5 : Hid (Below w.heap.size w w2) := HB0.out.trans (hu2.below.mono HB0.out.size)
        clear hz2 hk2 hu2 hrv ho2 hb2
        by_cases hE : E = 0
        · subst hE
          by_cases hLn : L.length = 2
          · obtain ⟨x, y, rfl⟩ : ∃ x y, L = [x, y] := len2 hLn
            have HFr : Hid (readRule s = ruleOf 2 [x, y] 0) := by show _ = _; rw [HRR.out, if_neg (by decide)]; rfl
            have hg5 := Blk.new w2 60 [.int .u64 0, .int .u64 0, .int .u64 0]
            have HB5 : Hid (Below w.heap.size w w2) := HB0.out.trans (HU2.out.below.mono HB0.out.size)
            obtain ⟨adv, eav, hcv⟩ := HV.out.2.2 (by simp)
            subst eav
            have hcell5 : ∀ j v, ([x, y].map (Value.int .u64))[j]? = some v → (w2.alloc (.cells #[.int .u64 0, .int .u64 0, .int .u64 0] 60)).cell? (adv.add j) = some v := by
              intro j v hj
              have hjl : j < [x, y].length := by
                rcases Nat.lt_or_ge j [x, y].length with h | h
                · exact h
                · rw [List.getElem?_eq_none (by rw [List.length_map]; exact h)] at hj; cases hj
              have := hcv j hjl
              have h2 := ((Upd.refl (fun _ => False) w2).alloc (.cells #[.int .u64 0, .int .u64 0, .int .u64 0] 60)).cell (fun q => q) this
              rw [h2, ← hj, List.getElem?_map, List.getElem?_eq_getElem hjl, getD_at 0 hjl]; rfl
            have HC5 := Lib.hid hcell5
            have HG5 := Lib.hid hg5
            clear hcv hcell5 hg5
            have hn5 : ([x, y].map (Value.int .u64)).length = Nat.min 2 3 := rfl
            have hf5 : 0 + ([x, y].map (Value.int .u64)).length ≤ [Value.int .u64 0, .int .u64 0, .int .u64 0].length := by simp
            have ho5 : ∀ v ∈ [x, y].map (Value.int .u64), v.oneCell' = true := by
              intro v hv
              obtain ⟨y, _, rfl⟩ := List.mem_map.1 hv
              rfl
            have HO5 := Lib.hid ho5
            have HN5 := Lib.hid hn5
            clear ho5 hn5
            go_wp2_with ((with_reducible refine wpList_copy_blk rfl _ _ 22 22 rfl 35 Tryd.underlying22 info_u64_size w2.heap.size 0 adv 3 3 2 cv rfl rfl [.int .u64 0, .int .u64 0, .int .u64 0] 60 HG5.out ([x, y].map (Value.int .u64)) HN5.out HC5.out hf5 HO5.out ?_); intro w6 hk6 hu6; have a0 : w6.cell? ⟨w2.heap.size, 0, none⟩ = some (.int .u64 (x)) := hk6.cell 0; have a1 : w6.cell? ⟨w2.heap.size, 1, none⟩ = some (.int .u64 (y)) := hk6.cell 1; have a2 : w6.cell? ⟨w2.heap.size, 2, none⟩ = some (.int .u64 (0)) := hk6.cell 2)
            have hu6' : Upd (fun _ => False) w2 w6 := ((Upd.refl (fun q => q = w2.heap.size) w2).alloc (.cells #[.int .u64 0, .int .u64 0, .int .u64 0] 60)).trans hu6 |>.mono (fun q hq e => by omega)
            have hz6 := hu6'.blk (fun q => q) HZ2.out
            have HB6 : Hid (Below w.heap.size w w6) := HB5.out.trans (hu6'.below.mono HB5.out.size)
            have HZ6 := Lib.hid hz6
            have hG := genGood_any 2 (x) (y) (0) (w6.alloc (.cells #[.int .i64 2, .int .u64 (x), .int .u64 (y), .int .u64 (0)] 38))
            have HG := Lib.hid hG
            have hsz6 : w.heap.size < w6.heap.size := hz6.lt
            clear y0 y1 y2 y3 f0 f1 f2 f3 kb1 hk6 hu6 hu6' hz6 hG HG5 HC5 HV HZ2 HU2
            refine HG.out.mono ?_
            rintro e w7 ⟨rfl, hb7⟩
            have hu7 : Upd (fun _ => False) w6 w7 := ((Upd.refl _ _).alloc _).trans (.of_below hb7)
            have hz7 := hu7.blk (fun q => q) HZ6.out
            have hr7 := (Upd.of_below (S := fun _ => False) hb7).blk (fun q => q) (Blk.new w6 38 [.int .i64 2, .int .u64 (x), .int .u64 (y), .int .u64 (0)])
            have y0 : w7.cell? ⟨w.heap.size, 0, none⟩ = some (.int .i64 0) := hz7.cell 0
            have y1 : w7.cell? ⟨w.heap.size, 1, none⟩ = some (.int .u64 0) := hz7.cell 1
            have y2 : w7.cell? ⟨w.heap.size, 2, none⟩ = some (.int .u64 0) := hz7.cell 2
            have y3 : w7.cell? ⟨w.heap.size, 3, none⟩ = some (.int .u64 0) := hz7.cell 3
            have f0 : w7.frozen? ⟨w.heap.size, 0, none⟩ = false := hz7.frozen 0
            have f1 : w7.frozen? ⟨w.heap.size, 1, none⟩ = false := hz7.frozen 1
            have f2 : w7.frozen? ⟨w.heap.size, 2, none⟩ = false := hz7.frozen 2
            have f3 : w7.frozen? ⟨w.heap.size, 3, none⟩ = false := hz7.frozen 3
            have r0 : w7.cell? ⟨w6.heap.size, 0, none⟩ = some (.int .i64 2) := hr7.cell 0
            have r1 : w7.cell? ⟨w6.heap.size, 1, none⟩ = some (.int .u64 (x)) := hr7.cell 1
            have r2 : w7.cell? ⟨w6.heap.size, 2, none⟩ = some (.int .u64 (y)) := hr7.cell 2
            have r3 : w7.cell? ⟨w6.heap.size, 3, none⟩ = some (.int .u64 (0)) := hr7.cell 3
            have HB7 : Hid (Below w.heap.size w w7) := HB6.out.trans (hu7.below.mono HB6.out.size)
            have HZ7 := Lib.hid hz7
            clear hu7 hb7 hz7 hr7 HG a0 a1 a2
            by_cases hgd : goodB 2 (x) (y) (0) = true
            · have HF2 : Hid (readRule s = ((2, x, y, 0), 0)) := by show _ = _; rw [HFr.out]; unfold ruleOf; rw [if_neg (fun h => h rfl), if_neg (fun h => h rfl), if_pos (by exact hgd)]; rfl
              rw [hgd]
              have h0 := HZ7.out.setCell 0 (.int .i64 2)
              have h1 := h0.setCell 1 (.int .u64 (x))
              have h2 := h1.setCell 2 (.int .u64 (y))
              have h3 := h2.setCell 3 (.int .u64 (0))
              have q0 := h3.cell 0
              have q1 := h3.cell 1
              have q2 := h3.cell 2
              have q3 := h3.cell 3
              clear h0 h1 h2 h3 hgd
              go_wp2
              refine bodyPost_ret (v := .tuple #[.agg #[.int .i64 2, .int .u64 (x), .int .u64 (y), .int .u64 (0)], .int .i64 0]) (by simp [results, Tryd.results14, go_sem, *]) rfl ?_
              rw [HF2.out]
              exact ⟨rfl, Below.setCell (Below.setCell (Below.setCell (Below.setCell HB7.out (Nat.le_refl _) _) (Nat.le_refl _) _) (Nat.le_refl _) _) (Nat.le_refl _) _⟩
            · have HF2 : Hid (readRule s = ((0, 0, 0, 0), 18)) := by show _ = _; rw [HFr.out]; unfold ruleOf; rw [if_neg (fun h => h rfl), if_neg (fun h => h rfl), if_neg (by exact hgd)]
              have hgf : goodB 2 (x) (y) (0) = false := by simpa using hgd
              rw [hgf]
              clear hgd hgf
              go_wp2
              refine bodyPost_ret (v := .tuple #[.agg #[.int .i64 0, .int .u64 0, .int .u64 0, .int .u64 0], .int .i64 18]) (by simp [results, Tryd.results14, go_sem, *]) rfl ?_
              rw [HF2.out]
              exact ⟨rfl, Below.setCell (Below.setCell (Below.setCell (Below.setCell HB7.out (Nat.le_refl _) _) (Nat.le_refl _) _) (Nat.le_refl _) _) (Nat.le_refl _) _⟩
          · have HFr : Hid (readRule s = ((0, 0, 0, 0), 17)) := by show _ = _; rw [HRR.out, if_neg (by decide)]; unfold ruleOf; rw [if_neg (by decide), if_pos (by exact hLn)]
            have hb1 : ((L.length : Int) != 2) = true := by rw [bne_iff_ne]; omega
            clear hLn
            go_wp2
            refine bodyPost_ret (v := .tuple #[.agg #[.int .i64 0, .int .u64 0, .int .u64 0, .int .u64 0], .int .i64 17]) (by simp [results, Tryd.results14, go_sem, *]) rfl ?_
            rw [HFr.out]
            exact ⟨rfl, Below.setCell (Below.setCell (Below.setCell (Below.setCell HB5.out (Nat.le_refl _) _) (Nat.le_refl _) _) (Nat.le_refl _) _) (Nat.le_refl _) _⟩
        · have HFr : Hid (readRule s = ((0, 0, 0, 0), E)) := by show _ = _; rw [HRR.out, if_neg (by decide)]; unfold ruleOf; rw [if_pos hE]
          have hb1 : (E != 0) = true := by rw [bne_iff_ne]; exact hE
          clear hE
          go_wp2
          refine bodyPost_ret (v := .tuple #[.agg #[.int .i64 0, .int .u64 0, .int .u64 0, .int .u64 0], .int .i64 E]) (by simp [results, Tryd.results14, go_sem, *]) rfl ?_
          rw [HFr.out]
          exact ⟨rfl, Below.setCell (Below.setCell (Below.setCell (Below.setCell HB5.out (Nat.le_refl _) _) (Nat.le_refl _) _) (Nat.le_refl _) _) (Nat.le_refl _) _⟩
      · have hsc := bne_word (l := [108, 105, 110, 101]) (by exact hBw)
        have HN2 : Hid (∀ j : Nat, 1 ≤ j → j < 2 + 1 → B ≠ kWordB j) := fun j h1 h2 => by
          by_cases e : j = 2
          · subst e; exact hBw
          · exact HN.out j h1 (by omega)
        have HU2 : Hid (Upd (fun _ => False) W0 (wr.alloc (.cells #[.string ⟨#[108, 105, 110, 101]⟩, .int .i64 2] 56))) := HU.out.alloc _
        clear hBw
        go_wp2
        go_roundw
        case rel => exact ⟨2 + 1, by omega, by go_num, HN2, HU2⟩
        case measure => simp [intOf]
    · have hi : ∀ w, (Instr.index 57 (.agg #[.string ⟨#[]⟩, .int .i64 0, .string ⟨#[99, 111, 110, 115, 116]⟩, .int .i64 1, .string ⟨#[108, 105, 110, 101]⟩, .int .i64 2, .string ⟨#[112, 111, 119, 101, 114]⟩, .int .i64 2, .string ⟨#[99, 104, 97, 105, 110]⟩, .int .i64 3, .string ⟨#[112, 117, 108, 115, 101]⟩, .int .i64 3]) (.int .i64 3)).run Tryd.prog w = .ok (.agg #[.string ⟨#[112, 111, 119, 101, 114]⟩, .int .i64 2]) w := fun _ => by kernel_rfl
      by_cases hBw : B = ⟨#[112, 111, 119, 101, 114]⟩
      · subst hBw
        have hu4 := HU.out.alloc (.cells #[.string ⟨#[112, 111, 119, 101, 114]⟩, .int .i64 2] 56)
        have hR := read_any R m (wr.alloc (.cells #[.string ⟨#[112, 111, 119, 101, 114]⟩, .int .i64 2] 56)) hRs (hu4.cell (fun q => q) HM0.out)
        have hz4 := hu4.blk (fun q => q) HZ.out
        have hk4 := Blk.new wr 56 [.string ⟨#[112, 111, 119, 101, 114]⟩, .int .i64 2]
        rw [← HL.out, ← HE.out, ← HAt.out] at hR
        have HR := Lib.hid hR
        have HU4 := Lib.hid hu4
        have HZ4 := Lib.hid hz4
        have HK4 := Lib.hid hk4
        clear hu4 hR hz4 hk4
        go_wp2_with fail
        refine HR.out.mono ?_
        rintro e w2 ⟨v, rfl, ho2, hb2⟩
        obtain ⟨av, cv, rfl, hrv, hbv⟩ := ho2.rd
        have hu2 : Upd (fun _ => False) W0 w2 := HU4.out.trans (.of_below hb2)
        have hz2 : Blk w2 w.heap.size 38 [.int .i64 0, .int .u64 0, .int .u64 0, .int .u64 0] := (Upd.of_below (S := fun _ => False) hb2).blk (fun q => q) HZ4.out
        have hk2 : Blk w2 wr.heap.size 56 [.string ⟨#[112, 111, 119, 101, 114]⟩, .int .i64 2] := (Upd.of_below (S := fun _ => False) hb2).blk (fun q => q) HK4.out
        have y0 : w2.cell? ⟨w.heap.size, 0, none⟩ = some (.int .i64 0) := hz2.cell 0
        have y1 : w2.cell? ⟨w.heap.size, 1, none⟩ = some (.int .u64 0) := hz2.cell 1
        have y2 : w2.cell? ⟨w.heap.size, 2, none⟩ = some (.int .u64 0) := hz2.cell 2
        have y3 : w2.cell? ⟨w.heap.size, 3, none⟩ = some (.int .u64 0) := hz2.cell 3
        have f0 : w2.frozen? ⟨w.heap.size, 0, none⟩ = false := hz2.frozen 0
        have f1 : w2.frozen? ⟨w.heap.size, 1, none⟩ = false := hz2.frozen 1
        have f2 : w2.frozen? ⟨w.heap.size, 2, none⟩ = false := hz2.frozen 2
        have f3 : w2.frozen? ⟨w.heap.size, 3, none⟩ = false := hz2.frozen 3
        have kb1 : w2.cell? ⟨wr.heap.size, 1, none⟩ = some (.int .i64 2) := hk2.cell 1
        clear z0 z1 z2 z3 k0 k1 k2 k3 k4 k5 k6 k7 k8 k9 k10 k11 hi
        have HZ2 := Lib.hid hz2
        have HU2 := Lib.hid hu2
        have HV := Lib.hid hrv
        have HB5 : Hid (Below w.heap.size w w2) := HB0.out.trans (hu2.below.mono HB0.out.size)
        clear hz2 hk2 hu2 hrv ho2 hb2
        by_cases hE : E = 0
        · subst hE
          by_cases hLn : L.length = 2
          · obtain ⟨x, y, rfl⟩ : ∃ x y, L = [x, y] := len2 hLn
            have HFr : Hid (readRule s = ruleOf 3 [x, y] 0) := by show _ = _; rw [HRR.out, if_neg (by decide)]; rfl
            have hg5 := Blk.new w2 60 [.int .u64 0, .int .u64 0, .int .u64 0]
            have HB5 : Hid (Below w.heap.size w w2) := HB0.out.trans (HU2.out.below.mono HB0.out.size)
            obtain ⟨adv, eav, hcv⟩ := HV.out.2.2 (by simp)
            subst eav
            have hcell5 : ∀ j v, ([x, y].map (Value.int .u64))[j]? = some v → (w2.alloc (.cells #[.int .u64 0, .int .u64 0, .int .u64 0] 60)).cell? (adv.add j) = some v := by
              intro j v hj
              have hjl : j < [x, y].length := by
                rcases Nat.lt_or_ge j [x, y].length with h | h
                · exact h
                · rw [List.getElem?_eq_none (by rw [List.length_map]; exact h)] at hj; cases hj
              have := hcv j hjl
              have h2 := ((Upd.refl (fun _ => False) w2).alloc (.cells #[.int .u64 0, .int .u64 0, .int .u64 0] 60)).cell (fun q => q) this
              rw [h2, ← hj, List.getElem?_map, List.getElem?_eq_getElem hjl, getD_at 0 hjl]; rfl
            have HC5 := Lib.hid hcell5
            have HG5 := Lib.hid hg5
            clear hcv hcell5 hg5
            have hn5 : ([x, y].map (Value.int .u64)).length = Nat.min 2 3 := rfl
            have hf5 : 0 + ([x, y].map (Value.int .u64)).length ≤ [Value.int .u64 0, .int .u64 0, .int .u64 0].length := by simp
            have ho5 : ∀ v ∈ [x, y].map (Value.int .u64), v.oneCell' = true := by
              intro v hv
              obtain ⟨y, _, rfl⟩ := List.mem_map.1 hv
              rfl
            have HO5 := Lib.hid ho5
            have HN5 := Lib.hid hn5
            clear ho5 hn5
            go_wp2_with ((with_reducible refine wpList_copy_blk rfl _ _ 22 22 rfl 35 Tryd.underlying22 info_u64_size w2.heap.size 0 adv 3 3 2 cv rfl rfl [.int .u64 0, .int .u64 0, .int .u64 0] 60 HG5.out ([x, y].map (Value.int .u64)) HN5.out HC5.out hf5 HO5.out ?_); intro w6 hk6 hu6; have a0 : w6.cell? ⟨w2.heap.size, 0, none⟩ = some (.int .u64 (x)) := hk6.cell 0; have a1 : w6.cell? ⟨w2.heap.size, 1, none⟩ = some (.int .u64 (y)) := hk6.cell 1; have a2 : w6.cell? ⟨w2.heap.size, 2, none⟩ = some (.int .u64 (0)) := hk6.cell 2)
            have hu6' : Upd (fun _ => False) w2 w6 := ((Upd.refl (fun q => q = w2.heap.size) w2).alloc (.cells #[.int .u64 0, .int .u64 0, .int .u64 0] 60)).trans hu6 |>.mono (fun q hq e => by omega)
            have hz6 := hu6'.blk (fun q => q) HZ2.out
            have HB6 : Hid (Below w.heap.size w w6) := HB5.out.trans (hu6'.below.mono HB5.out.size)
            have HZ6 := Lib.hid hz6
            have hG := genGood_any 3 (x) (y) (0) (w6.alloc (.cells #[.int .i64 3, .int .u64 (x), .int .u64 (y), .int .u64 (0)] 38))
            have HG := Lib.hid hG
            have hsz6 : w.heap.size < w6.heap.size := hz6.lt
            clear y0 y1 y2 y3 f0 f1 f2 f3 kb1 hk6 hu6 hu6' hz6 hG HG5 HC5 HV HZ2 HU2
            refine HG.out.mono ?_
            rintro e w7 ⟨rfl, hb7⟩
            have hu7 : Upd (fun _ => False) w6 w7 := ((Upd.refl _ _).alloc _).trans (.of_below hb7)
            have hz7 := hu7.blk (fun q => q) HZ6.out
            have hr7 := (Upd.of_below (S := fun _ => False) hb7).blk (fun q => q) (Blk.new w6 38 [.int .i64 3, .int .u64 (x), .int .u64 (y), .int .u64 (0)])
            have y0 : w7.cell? ⟨w.heap.size, 0, none⟩ = some (.int .i64 0) := hz7.cell 0
            have y1 : w7.cell? ⟨w.heap.size, 1, none⟩ = some (.int .u64 0) := hz7.cell 1
            have y2 : w7.cell? ⟨w.heap.size, 2, none⟩ = some (.int .u64 0) := hz7.cell 2
            have y3 : w7.cell? ⟨w.heap.size, 3, none⟩ = some (.int .u64 0) := hz7.cell 3
            have f0 : w7.frozen? ⟨w.heap.size, 0, none⟩ = false := hz7.frozen 0
            have f1 : w7.frozen? ⟨w.heap.size, 1, none⟩ = false := hz7.frozen 1
            have f2 : w7.frozen? ⟨w.heap.size, 2, none⟩ = false := hz7.frozen 2
            have f3 : w7.frozen? ⟨w.heap.size, 3, none⟩ = false := hz7.frozen 3
            have r0 : w7.cell? ⟨w6.heap.size, 0, none⟩ = some (.int .i64 3) := hr7.cell 0
            have r1 : w7.cell? ⟨w6.heap.size, 1, none⟩ = some (.int .u64 (x)) := hr7.cell 1
            have r2 : w7.cell? ⟨w6.heap.size, 2, none⟩ = some (.int .u64 (y)) := hr7.cell 2
            have r3 : w7.cell? ⟨w6.heap.size, 3, none⟩ = some (.int .u64 (0)) := hr7.cell 3
            have HB7 : Hid (Below w.heap.size w w7) := HB6.out.trans (hu7.below.mono HB6.out.size)
            have HZ7 := Lib.hid hz7
            clear hu7 hb7 hz7 hr7 HG a0 a1 a2
            by_cases hgd : goodB 3 (x) (y) (0) = true
            · have HF2 : Hid (readRule s = ((3, x, y, 0), 0)) := by show _ = _; rw [HFr.out]; unfold ruleOf; rw [if_neg (fun h => h rfl), if_neg (fun h => h rfl), if_pos (by exact hgd)]; rfl
              rw [hgd]
              have h0 := HZ7.out.setCell 0 (.int .i64 3)
              have h1 := h0.setCell 1 (.int .u64 (x))
              have h2 := h1.setCell 2 (.int .u64 (y))
              have h3 := h2.setCell 3 (.int .u64 (0))
              have q0 := h3.cell 0
              have q1 := h3.cell 1
              have q2 := h3.cell 2
              have q3 := h3.cell 3
              clear h0 h1 h2 h3 hgd
              go_wp2
              refine bodyPost_ret (v := .tuple #[.agg #[.int .i64 3, .int .u64 (x), .int .u64 (y), .int .u64 (0)], .int .i64 0]) (by simp [results, Tryd.results14, go_sem, *]) rfl ?_
              rw [HF2.out]
              exact ⟨rfl, Below.setCell (Below.setCell (Below.setCell (Below.setCell HB7.out (Nat.le_refl _) _) (Nat.le_refl _) _) (Nat.le_refl _) _) (Nat.le_refl _) _⟩
            · have HF2 : Hid (readRule s = ((0, 0, 0, 0), 18)) := by show _ = _; rw [HFr.out]; unfold ruleOf; rw [if_neg (fun h => h rfl), if_neg (fun h => h rfl), if_neg (by exact hgd)]
              have hgf : goodB 3 (x) (y) (0) = false := by simpa using hgd
              rw [hgf]
              clear hgd hgf
              go_wp2
              refine bodyPost_ret (v := .tuple #[.agg #[.int .i64 0, .int .u64 0, .int .u64 0, .int .u64 0], .int .i64 18]) (by simp [results, Tryd.results14, go_sem, *]) rfl ?_
              rw [HF2.out]
              exact ⟨rfl, Below.setCell (Below.setCell (Below.setCell (Below.setCell HB7.out (Nat.le_refl _) _) (Nat.le_refl _) _) (Nat.le_refl _) _) (Nat.le_refl _) _⟩
          · have HFr : Hid (readRule s = ((0, 0, 0, 0), 17)) := by show _ = _; rw [HRR.out, if_neg (by decide)]; unfold ruleOf; rw [if_neg (by decide), if_pos (by exact hLn)]
            have hb1 : ((L.length : Int) != 2) = true := by rw [bne_iff_ne]; omega
            clear hLn
            go_wp2
            refine bodyPost_ret (v := .tuple #[.agg #[.int .i64 0, .int .u64 0, .int .u64 0, .int .u64 0], .int .i64 17]) (by simp [results, Tryd.results14, go_sem, *]) rfl ?_
            rw [HFr.out]
            exact ⟨rfl, Below.setCell (Below.setCell (Below.setCell (Below.setCell HB5.out (Nat.le_refl _) _) (Nat.le_refl _) _) (Nat.le_refl _) _) (Nat.le_refl _) _⟩
        · have HFr : Hid (readRule s = ((0, 0, 0, 0), E)) := by show _ = _; rw [HRR.out, if_neg (by decide)]; unfold ruleOf; rw [if_pos hE]
          have hb1 : (E != 0) = true := by rw [bne_iff_ne]; exact hE
          clear hE
          go_wp2
          refine bodyPost_ret (v := .tuple #[.agg #[.int .i64 0, .int .u64 0, .int .u64 0, .int .u64 0], .int .i64 E]) (by simp [results, Tryd.results14, go_sem, *]) rfl ?_
          rw [HFr.out]
          exact ⟨rfl, Below.setCell (Below.setCell (Below.setCell (Below.setCell HB5.out (Nat.le_refl _) _) (Nat.le_refl _) _) (Nat.le_refl _) _) (Nat.le_refl _) _⟩
      · have hsc := bne_word (l := [112, 111, 119, 101, 114]) (by exact hBw)
        have HN2 : Hid (∀ j : Nat, 1 ≤ j → j < 3 + 1 → B ≠ kWordB j) := fun j h1 h2 => by
          by_cases e : j = 3
          · subst e; exact hBw
          · exact HN.out j h1 (by omega)
        have HU2 : Hid (Upd (fun _ => False) W0 (wr.alloc (.cells #[.string ⟨#[112, 111, 119, 101, 114]⟩, .int .i64 2] 56))) := HU.out.alloc _
        clear hBw
        go_wp2
        go_roundw
        case rel => exact ⟨3 + 1, by omega, by go_num, HN2, HU2⟩
        case measure => simp [intOf]
    · have hi : ∀ w, (Instr.index 57 (.agg #[.string ⟨#[]⟩, .int .i64 0, .string ⟨#[99, 111, 110, 115, 116]⟩, .int .i64 1, .string ⟨#[108, 105, 110, 101]⟩, .int .i64 2, .string ⟨#[112, 111, 119, 101, 114]⟩, .int .i64 2, .string ⟨#[99, 104, 97, 105, 110]⟩, .int .i64 3, .string ⟨#[112, 117, 108, 115, 101]⟩, .int .i64 3]) (.int .i64 4)).run Tryd.prog w = .ok (.agg #[.string ⟨#[99, 104, 97, 105, 110]⟩, .int .i64 3]) w := fun _ => by kernel_rfl
      by_cases hBw : B = ⟨#[99, 104, 97, 105, 110]⟩
      · subst hBw
        have hu4 := HU.out.alloc (.cells #[.string ⟨#[99, 104, 97, 105, 110]⟩, .int .i64 3] 56)
        have hR := read_any R m (wr.alloc (.cells #[.string ⟨#[99, 104, 97, 105, 110]⟩, .int .i64 3] 56)) hRs (hu4.cell (fun q => q) HM0.out)
        have hz4 := hu4.blk (fun q => q) HZ.out
        have hk4 := Blk.new wr 56 [.string ⟨#[99, 104, 97, 105, 110]⟩, .int .i64 3]
        rw [← HL.out, ← HE.out, ← HAt.out] at hR
        have HR := Lib.hid hR
        have HU4 := Lib.hid hu4
        have HZ4 := Lib.hid hz4
        have HK4 := Lib.hid hk4
        clear hu4 hR hz4 hk4
        go_wp2_with fail
        refine HR.out.mono ?_
        rintro e w2 ⟨v, rfl, ho2, hb2⟩
        obtain ⟨av, cv, rfl, hrv, hbv⟩ := ho2.rd
        have hu2 : Upd (fun _ => False) W0 w2 := HU4.out.trans (.of_below hb2)
        have hz2 : Blk w2 w.heap.size 38 [.int .i64 0, .int .u64 0, .int .u64 0, .int .u64 0] := (Upd.of_below (S := fun _ => False) hb2).blk (fun q => q) HZ4.out
        have hk2 : Blk w2 wr.heap.size 56 [.string ⟨#[99, 104, 97, 105, 110]⟩, .int .i64 3] := (Upd.of_below (S := fun _ => False) hb2).blk (fun q => q) HK4.out
        have y0 : w2.cell? ⟨w.heap.size, 0, none⟩ = some (.int .i64 0) := hz2.cell 0
        have y1 : w2.cell? ⟨w.heap.size, 1, none⟩ = some (.int .u64 0) := hz2.cell 1
        have y2 : w2.cell? ⟨w.heap.size, 2, none⟩ = some (.int .u64 0) := hz2.cell 2
        have y3 : w2.cell? ⟨w.heap.size, 3, none⟩ = some (.int .u64 0) := hz2.cell 3
        have f0 : w2.frozen? ⟨w.heap.size, 0, none⟩ = false := hz2.frozen 0
        have f1 : w2.frozen? ⟨w.heap.size, 1, none⟩ = false := hz2.frozen 1
        have f2 : w2.frozen? ⟨w.heap.size, 2, none⟩ = false := hz2.frozen 2
        have f3 : w2.frozen? ⟨w.heap.size, 3, none⟩ = false := hz2.frozen 3
        have kb1 : w2.cell? ⟨wr.heap.size, 1, none⟩ = some (.int .i64 3) := hk2.cell 1
        clear z0 z1 z2 z3 k0 k1 k2 k3 k4 k5 k6 k7 k8 k9 k10 k11 hi
        have HZ2 := Lib.hid hz2
        have HU2 := Lib.hid hu2
        have HV := Lib.hid hrv
        have HB5 : Hid (Below w.heap.size w w2) := HB0.out.trans (hu2.below.mono HB0.out.size)
        clear hz2 hk2 hu2 hrv ho2 hb2
        by_cases hE : E = 0
        · subst hE
          by_cases hLn : L.length = 3
          · obtain ⟨x, y, z, rfl⟩ : ∃ x y z, L = [x, y, z] := len3 hLn
            have HFr : Hid (readRule s = ruleOf 4 [x, y, z] 0) := by show _ = _; rw [HRR.out, if_neg (by decide)]; rfl
            have hg5 := Blk.new w2 60 [.int .u64 0, .int .u64 0, .int .u64 0]
            have HB5 : Hid (Below w.heap.size w w2) := HB0.out.trans (HU2.out.below.mono HB0.out.size)
            obtain ⟨adv, eav, hcv⟩ := HV.out.2.2 (by simp)
            subst eav
            have hcell5 : ∀ j v, ([x, y, z].map (Value.int .u64))[j]? = some v → (w2.alloc (.cells #[.int .u64 0, .int .u64 0, .int .u64 0] 60)).cell? (adv.add j) = some v := by
              intro j v hj
              have hjl : j < [x, y, z].length := by
                rcases Nat.lt_or_ge j [x, y, z].length with h | h
                · exact h
                · rw [List.getElem?_eq_none (by rw [List.length_map]; exact h)] at hj; cases hj
              have := hcv j hjl
              have h2 := ((Upd.refl (fun _ => False) w2).alloc (.cells #[.int .u64 0, .int .u64 0, .int .u64 0] 60)).cell (fun q => q) this
              rw [h2, ← hj, List.getElem?_map, List.getElem?_eq_getElem hjl, getD_at 0 hjl]; rfl
            have HC5 := Lib.hid hcell5
            have HG5 := Lib.hid hg5
            clear hcv hcell5 hg5
            have hn5 : ([x, y, z].map (Value.int .u64)).length = Nat.min 3 3 := rfl
            have hf5 : 0 + ([x, y, z].map (Value.int .u64)).length ≤ [Value.int .u64 0, .int .u64 0, .int .u64 0].length := by simp
            have ho5 : ∀ v ∈ [x, y, z].map (Value.int .u64), v.oneCell' = true := by
              intro v hv
              obtain ⟨y, _, rfl⟩ := List.mem_map.1 hv
              rfl
            have HO5 := Lib.hid ho5
            have HN5 := Lib.hid hn5
            clear ho5 hn5
            go_wp2_with ((with_reducible refine wpList_copy_blk rfl _ _ 22 22 rfl 35 Tryd.underlying22 info_u64_size w2.heap.size 0 adv 3 3 3 cv rfl rfl [.int .u64 0, .int .u64 0, .int .u64 0] 60 HG5.out ([x, y, z].map (Value.int .u64)) HN5.out HC5.out hf5 HO5.out ?_); intro w6 hk6 hu6; have a0 : w6.cell? ⟨w2.heap.size, 0, none⟩ = some (.int .u64 (x)) := hk6.cell 0; have a1 : w6.cell? ⟨w2.heap.size, 1, none⟩ = some (.int .u64 (y)) := hk6.cell 1; have a2 : w6.cell? ⟨w2.heap.size, 2, none⟩ = some (.int .u64 (z)) := hk6.cell 2)
            have hu6' : Upd (fun _ => False) w2 w6 := ((Upd.refl (fun q => q = w2.heap.size) w2).alloc (.cells #[.int .u64 0, .int .u64 0, .int .u64 0] 60)).trans hu6 |>.mono (fun q hq e => by omega)
            have hz6 := hu6'.blk (fun q => q) HZ2.out
            have HB6 : Hid (Below w.heap.size w w6) := HB5.out.trans (hu6'.below.mono HB5.out.size)
            have HZ6 := Lib.hid hz6
            have hG := genGood_any 4 (x) (y) (z) (w6.alloc (.cells #[.int .i64 4, .int .u64 (x), .int .u64 (y), .int .u64 (z)] 38))
            have HG := Lib.hid hG
            have hsz6 : w.heap.size < w6.heap.size := hz6.lt
            clear y0 y1 y2 y3 f0 f1 f2 f3 kb1 hk6 hu6 hu6' hz6 hG HG5 HC5 HV HZ2 HU2
            refine HG.out.mono ?_
            rintro e w7 ⟨rfl, hb7⟩
            have hu7 : Upd (fun _ => False) w6 w7 := ((Upd.refl _ _).alloc _).trans (.of_below hb7)
            have hz7 := hu7.blk (fun q => q) HZ6.out
            have hr7 := (Upd.of_below (S := fun _ => False) hb7).blk (fun q => q) (Blk.new w6 38 [.int .i64 4, .int .u64 (x), .int .u64 (y), .int .u64 (z)])
            have y0 : w7.cell? ⟨w.heap.size, 0, none⟩ = some (.int .i64 0) := hz7.cell 0
            have y1 : w7.cell? ⟨w.heap.size, 1, none⟩ = some (.int .u64 0) := hz7.cell 1
            have y2 : w7.cell? ⟨w.heap.size, 2, none⟩ = some (.int .u64 0) := hz7.cell 2
            have y3 : w7.cell? ⟨w.heap.size, 3, none⟩ = some (.int .u64 0) := hz7.cell 3
            have f0 : w7.frozen? ⟨w.heap.size, 0, none⟩ = false := hz7.frozen 0
            have f1 : w7.frozen? ⟨w.heap.size, 1, none⟩ = false := hz7.frozen 1
            have f2 : w7.frozen? ⟨w.heap.size, 2, none⟩ = false := hz7.frozen 2
            have f3 : w7.frozen? ⟨w.heap.size, 3, none⟩ = false := hz7.frozen 3
            have r0 : w7.cell? ⟨w6.heap.size, 0, none⟩ = some (.int .i64 4) := hr7.cell 0
            have r1 : w7.cell? ⟨w6.heap.size, 1, none⟩ = some (.int .u64 (x)) := hr7.cell 1
            have r2 : w7.cell? ⟨w6.heap.size, 2, none⟩ = some (.int .u64 (y)) := hr7.cell 2
            have r3 : w7.cell? ⟨w6.heap.size, 3, none⟩ = some (.int .u64 (z)) := hr7.cell 3
            have HB7 : Hid (Below w.heap.size w w7) := HB6.out.trans (hu7.below.mono HB6.out.size)
            have HZ7 := Lib.hid hz7
            clear hu7 hb7 hz7 hr7 HG a0 a1 a2
            by_cases hgd : goodB 4 (x) (y) (z) = true
            · have HF2 : Hid (readRule s = ((4, x, y, z), 0)) := by show _ = _; rw [HFr.out]; unfold ruleOf; rw [if_neg (fun h => h rfl), if_neg (fun h => h rfl), if_pos (by exact hgd)]; rfl
              rw [hgd]
              have h0 := HZ7.out.setCell 0 (.int .i64 4)
              have h1 := h0.setCell 1 (.int .u64 (x))
              have h2 := h1.setCell 2 (.int .u64 (y))
              have h3 := h2.setCell 3 (.int .u64 (z))
              have q0 := h3.cell 0
              have q1 := h3.cell 1
              have q2 := h3.cell 2
              have q3 := h3.cell 3
              clear h0 h1 h2 h3 hgd
              go_wp2
              refine bodyPost_ret (v := .tuple #[.agg #[.int .i64 4, .int .u64 (x), .int .u64 (y), .int .u64 (z)], .int .i64 0]) (by simp [results, Tryd.results14, go_sem, *]) rfl ?_
              rw [HF2.out]
              exact ⟨rfl, Below.setCell (Below.setCell (Below.setCell (Below.setCell HB7.out (Nat.le_refl _) _) (Nat.le_refl _) _) (Nat.le_refl _) _) (Nat.le_refl _) _⟩
            · have HF2 : Hid (readRule s = ((0, 0, 0, 0), 18)) := by show _ = _; rw [HFr.out]; unfold ruleOf; rw [if_neg (fun h => h rfl), if_neg (fun h => h rfl), if_neg (by exact hgd)]
              have hgf : goodB 4 (x) (y) (z) = false := by simpa using hgd
              rw [hgf]
              clear hgd hgf
              go_wp2
              refine bodyPost_ret (v := .tuple #[.agg #[.int .i64 0, .int .u64 0, .int .u64 0, .int .u64 0], .int .i64 18]) (by simp [results, Tryd.results14, go_sem, *]) rfl ?_
              rw [HF2.out]
              exact ⟨rfl, Below.setCell (Below.setCell (Below.setCell (Below.setCell HB7.out (Nat.le_refl _) _) (Nat.le_refl _) _) (Nat.le_refl _) _) (Nat.le_refl _) _⟩
          · have HFr : Hid (readRule s = ((0, 0, 0, 0), 17)) := by show _ = _; rw [HRR.out, if_neg (by decide)]; unfold ruleOf; rw [if_neg (by decide), if_pos (by exact hLn)]
            have hb1 : ((L.length : Int) != 3) = true := by rw [bne_iff_ne]; omega
            clear hLn
            go_wp2
            refine bodyPost_ret (v := .tuple #[.agg #[.int .i64 0, .int .u64 0, .int .u64 0, .int .u64 0], .int .i64 17]) (by simp [results, Tryd.results14, go_sem, *]) rfl ?_
            rw [HFr.out]
            exact ⟨rfl, Below.setCell (Below.setCell (Below.setCell (Below.setCell HB5.out (Nat.le_refl _) _) (Nat.le_refl _) _) (Nat.le_refl _) _) (Nat.le_refl _) _⟩
        · have HFr : Hid (readRule s = ((0, 0, 0, 0), E)) := by show _ = _; rw [HRR.out, if_neg (by decide)]; unfold ruleOf; rw [if_pos hE]
          have hb1 : (E != 0) = true := by rw [bne_iff_ne]; exact hE
          clear hE
          go_wp2
          refine bodyPost_ret (v := .tuple #[.agg #[.int .i64 0, .int .u64 0, .int .u64 0, .int .u64 0], .int .i64 E]) (by simp [results, Tryd.results14, go_sem, *]) rfl ?_
          rw [HFr.out]
          exact ⟨rfl, Below.setCell (Below.setCell (Below.setCell (Below.setCell HB5.out (Nat.le_refl _) _) (Nat.le_refl _) _) (Nat.le_refl _) _) (Nat.le_refl _) _⟩
      · have hsc := bne_word (l := [99, 104, 97, 105, 110]) (by exact hBw)
        have HN2 : Hid (∀ j : Nat, 1 ≤ j → j < 4 + 1 → B ≠ kWordB j) := fun j h1 h2 => by
          by_cases e : j = 4
          · subst e; exact hBw
          · exact HN.out j h1 (by omega)
        have HU2 : Hid (Upd (fun _ => False) W0 (wr.alloc (.cells #[.string ⟨#[99, 104, 97, 105, 110]⟩, .int .i64 3] 56))) := HU.out.alloc _
        clear hBw
        go_wp2
        go_roundw
        case rel => exact ⟨4 + 1, by omega, by go_num, HN2, HU2⟩
        case measure => simp [intOf]
    · have hi : ∀ w, (Instr.index 57 (.agg #[.string ⟨#[]⟩, .int .i64 0, .string ⟨#[99, 111, 110, 115, 116]⟩, .int .i64 1, .string ⟨#[108, 105, 110, 101]⟩, .int .i64 2, .string ⟨#[112, 111, 119, 101, 114]⟩, .int .i64 2, .string ⟨#[99, 104, 97, 105, 110]⟩, .int .i64 3, .string ⟨#[112, 117, 108, 115, 101]⟩, .int .i64 3]) (.int .i64 5)).run Tryd.prog w = .ok (.agg #[.string ⟨#[112, 117, 108, 115, 101]⟩, .int .i64 3]) w := fun _ => by kernel_rfl
      by_cases hBw : B = ⟨#[112, 117, 108, 115, 101]⟩
      · subst hBw
        have hu4 := HU.out.alloc (.cells #[.string ⟨#[112, 117, 108, 115, 101]⟩, .int .i64 3] 56)
        have hR := read_any R m (wr.alloc (.cells #[.string ⟨#[112, 117, 108, 115, 101]⟩, .int .i64 3] 56)) hRs (hu4.cell (fun q => q) HM0.out)
        have hz4 := hu4.blk (fun q => q) HZ.out
        have hk4 := Blk.new wr 56 [.string ⟨#[112, 117, 108, 115, 101]⟩, .int .i64 3]
        rw [← HL.out, ← HE.out, ← HAt.out] at hR
        have HR := Lib.hid hR
        have HU4 := Lib.hid hu4
        have HZ4 := Lib.hid hz4
        have HK4 := Lib.hid hk4
        clear hu4 hR hz4 hk4
        go_wp2_with fail
        refine HR.out.mono ?_
        rintro e w2 ⟨v, rfl, ho2, hb2⟩
        obtain ⟨av, cv, rfl, hrv, hbv⟩ := ho2.rd
        have hu2 : Upd (fun _ => False) W0 w2 := HU4.out.trans (.of_below hb2)
        have hz2 : Blk w2 w.heap.size 38 [.int .i64 0, .int .u64 0, .int .u64 0, .int .u64 0] := (Upd.of_below (S := fun _ => False) hb2).blk (fun q => q) HZ4.out
        have hk2 : Blk w2 wr.heap.size 56 [.string ⟨#[112, 117, 108, 115, 101]⟩, .int .i64 3] := (Upd.of_below (S := fun _ => False) hb2).blk (fun q => q) HK4.out
        have y0 : w2.cell? ⟨w.heap.size, 0, none⟩ = some (.int .i64 0) := hz2.cell 0
        have y1 : w2.cell? ⟨w.heap.size, 1, none⟩ = some (.int .u64 0) := hz2.cell 1
        have y2 : w2.cell? ⟨w.heap.size, 2, none⟩ = some (.int .u64 0) := hz2.cell 2
        have y3 : w2.cell? ⟨w.heap.size, 3, none⟩ = some (.int .u64 0) := hz2.cell 3
        have f0 : w2.frozen? ⟨w.heap.size, 0, none⟩ = false := hz2.frozen 0
        have f1 : w2.frozen? ⟨w.heap.size, 1, none⟩ = false := hz2.frozen 1
        have f2 : w2.frozen? ⟨w.heap.size, 2, none⟩ = false := hz2.frozen 2
        have f3 : w2.frozen? ⟨w.heap.size, 3, none⟩ = false := hz2.frozen 3
        have kb1 : w2.cell? ⟨wr.heap.size, 1, none⟩ = some (.int .i64 3) := hk2.cell 1
        clear z0 z1 z2 z3 k0 k1 k2 k3 k4 k5 k6 k7 k8 k9 k10 k11 hi
        have HZ2 := Lib.hid hz2
        have HU2 := Lib.hid hu2
        have HV := Lib.hid hrv
        have HB5 : Hid (Below w.heap.size w w2) := HB0.out.trans (hu2.below.mono HB0.out.size)
        clear hz2 hk2 hu2 hrv ho2 hb2
        by_cases hE : E = 0
        · subst hE
          by_cases hLn : L.length = 3
          · obtain ⟨x, y, z, rfl⟩ : ∃ x y z, L = [x, y, z] := len3 hLn
            have HFr : Hid (readRule s = ruleOf 5 [x, y, z] 0) := by show _ = _; rw [HRR.out, if_neg (by decide)]; rfl
            have hg5 := Blk.new w2 60 [.int .u64 0, .int .u64 0, .int .u64 0]
            have HB5 : Hid (Below w.heap.size w w2) := HB0.out.trans (HU2.out.below.mono HB0.out.size)
            obtain ⟨adv, eav, hcv⟩ := HV.out.2.2 (by simp)
            subst eav
            have hcell5 : ∀ j v, ([x, y, z].map (Value.int .u64))[j]? = some v → (w2.alloc (.cells #[.int .u64 0, .int .u64 0, .int .u64 0] 60)).cell? (adv.add j) = some v := by
              intro j v hj
              have hjl : j < [x, y, z].length := by
                rcases Nat.lt_or_ge j [x, y, z].length with h | h
                · exact h
                · rw [List.getElem?_eq_none (by rw [List.length_map]; exact h)] at hj; cases hj
              have := hcv j hjl
              have h2 := ((Upd.refl (fun _ => False) w2).alloc (.cells #[.int .u64 0, .int .u64 0, .int .u64 0] 60)).cell (fun q => q) this
              rw [h2, ← hj, List.getElem?_map, List.getElem?_eq_getElem hjl, getD_at 0 hjl]; rfl
            have HC5 := Lib.hid hcell5
            have HG5 := Lib.hid hg5
            clear hcv hcell5 hg5
            have hn5 : ([x, y, z].map (Value.int .u64)).length = Nat.min 3 3 := rfl
            have hf5 : 0 + ([x, y, z].map (Value.int .u64)).length ≤ [Value.int .u64 0, .int .u64 0, .int .u64 0].length := by simp
            have ho5 : ∀ v ∈ [x, y, z].map (Value.int .u64), v.oneCell' = true := by
              intro v hv
              obtain ⟨y, _, rfl⟩ := List.mem_map.1 hv
              rfl
            have HO5 := Lib.hid ho5
            have HN5 := Lib.hid hn5
            clear ho5 hn5
            go_wp2_with ((with_reducible refine wpList_copy_blk rfl _ _ 22 22 rfl 35 Tryd.underlying22 info_u64_size w2.heap.size 0 adv 3 3 3 cv rfl rfl [.int .u64 0, .int .u64 0, .int .u64 0] 60 HG5.out ([x, y, z].map (Value.int .u64)) HN5.out HC5.out hf5 HO5.out ?_); intro w6 hk6 hu6; have a0 : w6.cell? ⟨w2.heap.size, 0, none⟩ = some (.int .u64 (x)) := hk6.cell 0; have a1 : w6.cell? ⟨w2.heap.size, 1, none⟩ = some (.int .u64 (y)) := hk6.cell 1; have a2 : w6.cell? ⟨w2.heap.size, 2, none⟩ = some (.int .u64 (z)) := hk6.cell 2)
            have hu6' : Upd (fun _ => False) w2 w6 := ((Upd.refl (fun q => q = w2.heap.size) w2).alloc (.cells #[.int .u64 0, .int .u64 0, .int .u64 0] 60)).trans hu6 |>.mono (fun q hq e => by omega)
            have hz6 := hu6'.blk (fun q => q) HZ2.out
            have HB6 : Hid (Below w.heap.size w w6) := HB5.out.trans (hu6'.below.mono HB5.out.size)
            have HZ6 := Lib.hid hz6
            have hG := genGood_any 5 (x) (y) (z) (w6.alloc (.cells #[.int .i64 5, .int .u64 (x), .int .u64 (y), .int .u64 (z)] 38))
            have HG := Lib.hid hG
            have hsz6 : w.heap.size < w6.heap.size := hz6.lt
            clear y0 y1 y2 y3 f0 f1 f2 f3 kb1 hk6 hu6 hu6' hz6 hG HG5 HC5 HV HZ2 HU2
            refine HG.out.mono ?_
            rintro e w7 ⟨rfl, hb7⟩
            have hu7 : Upd (fun _ => False) w6 w7 := ((Upd.refl _ _).alloc _).trans (.of_below hb7)
            have hz7 := hu7.blk (fun q => q) HZ6.out
            have hr7 := (Upd.of_below (S := fun _ => False) hb7).blk (fun q => q) (Blk.new w6 38 [.int .i64 5, .int .u64 (x), .int .u64 (y), .int .u64 (z)])
            have y0 : w7.cell? ⟨w.heap.size, 0, none⟩ = some (.int .i64 0) := hz7.cell 0
            have y1 : w7.cell? ⟨w.heap.size, 1, none⟩ = some (.int .u64 0) := hz7.cell 1
            have y2 : w7.cell? ⟨w.heap.size, 2, none⟩ = some (.int .u64 0) := hz7.cell 2
            have y3 : w7.cell? ⟨w.heap.size, 3, none⟩ = some (.int .u64 0) := hz7.cell 3
            have f0 : w7.frozen? ⟨w.heap.size, 0, none⟩ = false := hz7.frozen 0
            have f1 : w7.frozen? ⟨w.heap.size, 1, none⟩ = false := hz7.frozen 1
            have f2 : w7.frozen? ⟨w.heap.size, 2, none⟩ = false := hz7.frozen 2
            have f3 : w7.frozen? ⟨w.heap.size, 3, none⟩ = false := hz7.frozen 3
            have r0 : w7.cell? ⟨w6.heap.size, 0, none⟩ = some (.int .i64 5) := hr7.cell 0
            have r1 : w7.cell? ⟨w6.heap.size, 1, none⟩ = some (.int .u64 (x)) := hr7.cell 1
            have r2 : w7.cell? ⟨w6.heap.size, 2, none⟩ = some (.int .u64 (y)) := hr7.cell 2
            have r3 : w7.cell? ⟨w6.heap.size, 3, none⟩ = some (.int .u64 (z)) := hr7.cell 3
            have HB7 : Hid (Below w.heap.size w w7) := HB6.out.trans (hu7.below.mono HB6.out.size)
            have HZ7 := Lib.hid hz7
            clear hu7 hb7 hz7 hr7 HG a0 a1 a2
            by_cases hgd : goodB 5 (x) (y) (z) = true
            · have HF2 : Hid (readRule s = ((5, x, y, z), 0)) := by show _ = _; rw [HFr.out]; unfold ruleOf; rw [if_neg (fun h => h rfl), if_neg (fun h => h rfl), if_pos (by exact hgd)]; rfl
              rw [hgd]
              have h0 := HZ7.out.setCell 0 (.int .i64 5)
              have h1 := h0.setCell 1 (.int .u64 (x))
              have h2 := h1.setCell 2 (.int .u64 (y))
              have h3 := h2.setCell 3 (.int .u64 (z))
              have q0 := h3.cell 0
              have q1 := h3.cell 1
              have q2 := h3.cell 2
              have q3 := h3.cell 3
              clear h0 h1 h2 h3 hgd
              go_wp2
              refine bodyPost_ret (v := .tuple #[.agg #[.int .i64 5, .int .u64 (x), .int .u64 (y), .int .u64 (z)], .int .i64 0]) (by simp [results, Tryd.results14, go_sem, *]) rfl ?_
              rw [HF2.out]
              exact ⟨rfl, Below.setCell (Below.setCell (Below.setCell (Below.setCell HB7.out (Nat.le_refl _) _) (Nat.le_refl _) _) (Nat.le_refl _) _) (Nat.le_refl _) _⟩
            · have HF2 : Hid (readRule s = ((0, 0, 0, 0), 18)) := by show _ = _; rw [HFr.out]; unfold ruleOf; rw [if_neg (fun h => h rfl), if_neg (fun h => h rfl), if_neg (by exact hgd)]
              have hgf : goodB 5 (x) (y) (z) = false := by simpa using hgd
              rw [hgf]
              clear hgd hgf
              go_wp2
              refine bodyPost_ret (v := .tuple #[.agg #[.int .i64 0, .int .u64 0, .int .u64 0, .int .u64 0], .int .i64 18]) (by simp [results, Tryd.results14, go_sem, *]) rfl ?_
              rw [HF2.out]
              exact ⟨rfl, Below.setCell (Below.setCell (Below.setCell (Below.setCell HB7.out (Nat.le_refl _) _) (Nat.le_refl _) _) (Nat.le_refl _) _) (Nat.le_refl _) _⟩
          · have HFr : Hid (readRule s = ((0, 0, 0, 0), 17)) := by show _ = _; rw [HRR.out, if_neg (by decide)]; unfold ruleOf; rw [if_neg (by decide), if_pos (by exact hLn)]
            have hb1 : ((L.length : Int) != 3) = true := by rw [bne_iff_ne]; omega
            clear hLn
            go_wp2
            refine bodyPost_ret (v := .tuple #[.agg #[.int .i64 0, .int .u64 0, .int .u64 0, .int .u64 0], .int .i64 17]) (by simp [results, Tryd.results14, go_sem, *]) rfl ?_
            rw [HFr.out]
            exact ⟨rfl, Below.setCell (Below.setCell (Below.setCell (Below.setCell HB5.out (Nat.le_refl _) _) (Nat.le_refl _) _) (Nat.le_refl _) _) (Nat.le_refl _) _⟩
        · have HFr : Hid (readRule s = ((0, 0, 0, 0), E)) := by show _ = _; rw [HRR.out, if_neg (by decide)]; unfold ruleOf; rw [if_pos hE]
          have hb1 : (E != 0) = true := by rw [bne_iff_ne]; exact hE
          clear hE
          go_wp2
          refine bodyPost_ret (v := .tuple #[.agg #[.int .i64 0, .int .u64 0, .int .u64 0, .int .u64 0], .int .i64 E]) (by simp [results, Tryd.results14, go_sem, *]) rfl ?_
          rw [HFr.out]
          exact ⟨rfl, Below.setCell (Below.setCell (Below.setCell (Below.setCell HB5.out (Nat.le_refl _) _) (Nat.le_refl _) _) (Nat.le_refl _) _) (Nat.le_refl _) _⟩
      · have hsc := bne_word (l := [112, 117, 108, 115, 101]) (by exact hBw)
        have HN2 : Hid (∀ j : Nat, 1 ≤ j → j < 5 + 1 → B ≠ kWordB j) := fun j h1 h2 => by
          by_cases e : j = 5
          · subst e; exact hBw
          · exact HN.out j h1 (by omega)
        have HU2 : Hid (Upd (fun _ => False) W0 (wr.alloc (.cells #[.string ⟨#[112, 117, 108, 115, 101]⟩, .int .i64 3] 56))) := HU.out.alloc _
        clear hBw
        go_wp2
        go_roundw
        case rel => exact ⟨5 + 1, by omega, by go_num, HN2, HU2⟩
        case measure => simp [intOf]
    · have HFr : Hid (readRule s = ((0, 0, 0, 0), 17)) := by show _ = _; rw [HRR.out, if_pos (kindOf_none HN.out)]
      have hu := HU.out
      have hz2 : Blk wr w.heap.size 38 [.int .i64 0, .int .u64 0, .int .u64 0, .int .u64 0] := hu.blk (fun q => q) HZ.out
      have y0 : wr.cell? ⟨w.heap.size, 0, none⟩ = some (.int .i64 0) := hz2.cell 0
      have y1 : wr.cell? ⟨w.heap.size, 1, none⟩ = some (.int .u64 0) := hz2.cell 1
      have y2 : wr.cell? ⟨w.heap.size, 2, none⟩ = some (.int .u64 0) := hz2.cell 2
      have y3 : wr.cell? ⟨w.heap.size, 3, none⟩ = some (.int .u64 0) := hz2.cell 3
      have f0 : wr.frozen? ⟨w.heap.size, 0, none⟩ = false := hz2.frozen 0
      have f1 : wr.frozen? ⟨w.heap.size, 1, none⟩ = false := hz2.frozen 1
      have f2 : wr.frozen? ⟨w.heap.size, 2, none⟩ = false := hz2.frozen 2
      have f3 : wr.frozen? ⟨w.heap.size, 3, none⟩ = false := hz2.frozen 3
      have HB5 : Hid (Below w.heap.size w wr) := HB0.out.trans (hu.below.mono HB0.out.size)
      clear hz2 hu
      go_wp2
      refine bodyPost_ret (v := .tuple #[.agg #[.int .i64 0, .int .u64 0, .int .u64 0, .int .u64 0], .int .i64 17]) (by simp [results, Tryd.results14, go_sem, *]) rfl ?_
      rw [HFr.out]
      exact ⟨rfl, Below.setCell (Below.setCell (Below.setCell (Below.setCell HB5.out (Nat.le_refl _) _) (Nat.le_refl _) _) (Nat.le_refl _) _) (Nat.le_refl _) _⟩
end Go.Proofs.YtcdehndodgefnaaDoor
