/- Law 38, GenLines: the walk. -/
import Derived.Test.YtcdehndodgefnaaDoorPh
import Derived.Test.YtcdehndodgefnaaDoorGe
set_option linter.unusedVariables false
set_option linter.unusedSimpArgs false
namespace Go.Proofs.YtcdehndodgefnaaDoor
open Go.RowKit Ab Go.Proofs

theorem textL_len : ∀ L : List Int, isWords L → (textL L).length ≤ 21 * L.length
  | [], _ => by decide
  | [x], h => by
    have := h x (by simp)
    have e : textL [x] = Lib.decDigits x.toNat := Lib.join_one _ _
    rw [e, Lib.decDigits_length]
    have := Lib.nDigits_le20 x.toNat (by omega)
    simp; omega
  | x :: y :: r, h => by
    have h1 := h x (by simp)
    have ih := textL_len (y :: r) (fun z hz => h z (by simp [hz]))
    have e : textL (x :: y :: r) = Lib.decDigits x.toNat ++ 32 :: textL (y :: r) := join_cons2 _ _ _
    have h2 := Lib.nDigits_le20 x.toNat (by omega)
    rw [e, List.length_append, List.length_cons, Lib.decDigits_length]
    simp only [List.length_cons] at ih ⊢
    omega
theorem lineL_size (k a b c : Int) (h : isWords [a, b, c]) (hk : (kWord k).length ≤ 5) : (lineL k a b c).size ≤ 1000000 := by
  have h1 := textL_len ([a, b, c].take (kNum k)) (fun x hx => h x (List.mem_of_mem_take hx))
  have h2 : ([a, b, c].take (kNum k)).length ≤ 3 := by rw [List.length_take]; simp; omega
  show (kWord k ++ 32 :: textL ([a, b, c].take (kNum k))).toArray.size ≤ _
  rw [List.size_toArray, List.length_append, List.length_cons]
  omega
theorem cellsOfBlk4 {w : World} {b E : Nat} {k a c d : Value} (h : Blk w b E [k, a, c, d]) : w.cell? ⟨b, 0, none⟩ = some k ∧ w.cell? ⟨b, 1, none⟩ = some a ∧ w.cell? ⟨b, 2, none⟩ = some c ∧ w.cell? ⟨b, 3, none⟩ = some d := ⟨h.cell 0, h.cell 1, h.cell 2, h.cell 3⟩
set_option maxRecDepth 100000 in
set_option maxHeartbeats 4000000 in
theorem genLines_any (k a b c : Int) (s : ByteArray) (m : Int) (w : World) (hw : isWords [a, b, c]) (hss : s.size ≤ 9223372036854775807) (hk : KindsAt w) (hm : w.cell? ⟨1, 0, none⟩ = some (.int .i64 m)) (htab : Lib.TabIs Tryd.prog w "internal/strconv.uint64pow10" .u64 Lib.pow10Tab) :
    Calls Tryd.prog 4 #[.agg #[.int .i64 k, .int .u64 a, .int .u64 b, .int .u64 c], .string s] w fun e w' => e = .returned (.bool true) ∧ Below w.heap.size w w' := by
  have FK : Hid (∀ w', Below w.heap.size w w' → KindsAt w') := fun w' hb => hk.below hb
  have FM : Hid (∀ w', Below w.heap.size w w' → w'.cell? ⟨1, 0, none⟩ = some (.int .i64 m)) := fun w' hb => (hb.cell (World.block_lt_of_cell? w ⟨1, 0, none⟩ hm)).trans hm
  have FT : Hid (∀ w', Below w.heap.size w w' → Lib.TabIs Tryd.prog w' "internal/strconv.uint64pow10" .u64 Lib.pow10Tab) := fun w' hb => tabIs_below htab hb
  have HB0 : Hid (Below w.heap.size w (w.alloc (.cells #[.int .i64 k, .int .u64 a, .int .u64 b, .int .u64 c] 38))) := (Below.refl _ _).alloc (Nat.le_refl _) _
  have HA := Lib.hid (awake38 (w.alloc (.cells #[.int .i64 k, .int .u64 a, .int .u64 b, .int .u64 c] 38)) (FK.out _ HB0.out) (FT.out _ HB0.out))
  have HW := Lib.hid hw
  clear hk hm htab hw
  go_enter Tryd.func4, Tryd.ntmps4
  go_wp2_with fail
  refine HA.out.mono ?_
  rintro e w1 ⟨rfl, hb1⟩
  have HB1 : Hid (Below w.heap.size w w1) := HB0.out.trans (hb1.mono HB0.out.size)
  have HR1 : Hid (Blk w1 w.heap.size 38 [.int .i64 k, .int .u64 a, .int .u64 b, .int .u64 c]) := (Upd.of_below (S := fun _ => False) hb1).blk (fun q => q) (Blk.new w _ _)
  clear hb1 HA
  by_cases h100 : s.size ≤ 100
  · obtain ⟨r0, r1, r2, r3⟩ := cellsOfBlk4 HR1.out
    go_wp2_with fail
    refine (genLine_any k a b c _ HW.out (FK.out _ HB1.out) (FT.out _ HB1.out)).mono ?_
    rintro e w2 ⟨rfl, hb2⟩
    obtain ⟨l, hl⟩ : ∃ l : ByteArray, l = if goodB k a b c = true then lineL k a b c else ⟨#[]⟩ := ⟨_, rfl⟩
    rw [← hl]
    have HL := Lib.hid hl
    have HB2 : Hid (Below w.heap.size w w2) := HB1.out.trans (hb2.mono HB1.out.size)
    have HR2 : Hid (Blk w2 w.heap.size 38 [.int .i64 k, .int .u64 a, .int .u64 b, .int .u64 c]) := (Upd.of_below (S := fun _ => False) hb2).blk (fun q => q) HR1.out
    clear hb2 hl r0 r1 r2 r3 HR1 HB1
    go_wp2_with fail
    refine (genRead_any s m _ (by omega) (FK.out _ HB2.out) (FM.out _ HB2.out)).mono ?_
    rintro e w3 ⟨rfl, hb3⟩
    obtain ⟨⟨⟨xk, xa, xb, xc⟩, E⟩, hx⟩ : ∃ x, x = readRule s := ⟨_, rfl⟩
    rw [← hx]
    have HX := Lib.hid hx
    have HB3 : Hid (Below w.heap.size w w3) := HB2.out.trans (hb3.mono HB2.out.size)
    have HR3 : Hid (Blk w3 w.heap.size 38 [.int .i64 k, .int .u64 a, .int .u64 b, .int .u64 c]) := (Upd.of_below (S := fun _ => False) hb3).blk (fun q => q) HR2.out
    clear hb3 hx HR2 HB2
    by_cases hE : E = 0
    · subst hE
      obtain ⟨hxg, hxl, hxw⟩ := readRule_ok s xk xa xb xc HX.out.symm
      have HXG := Lib.hid hxg
      have HXL := Lib.hid hxl
      have HXW := Lib.hid hxw
      clear hxg hxl hxw
      have hG := ref38Good_any xk xa xb xc (w3.alloc (.cells #[.int .i64 xk, .int .u64 xa, .int .u64 xb, .int .u64 xc] 38))
      rw [HXG.out] at hG
      have HB4 : Hid (Below w.heap.size w (w3.alloc (.cells #[.int .i64 xk, .int .u64 xa, .int .u64 xb, .int .u64 xc] 38))) := HB3.out.alloc HB3.out.size _
      have HR4 := Lib.hid (HR3.out.alloc (.cells #[.int .i64 xk, .int .u64 xa, .int .u64 xb, .int .u64 xc] 38))
      have HX4 := Lib.hid (Blk.new w3 38 [.int .i64 xk, .int .u64 xa, .int .u64 xb, .int .u64 xc])
      go_wp2_with fail
      refine hG.mono ?_
      rintro e w5 ⟨rfl, hb5⟩
      have HB5 : Hid (Below w.heap.size w w5) := HB4.out.trans (hb5.mono HB4.out.size)
      have HR5 := Lib.hid ((Upd.of_below (S := fun _ => False) hb5).blk (fun q => q) HR4.out)
      obtain ⟨y0, y1, y2, y3⟩ := cellsOfBlk4 ((Upd.of_below (S := fun _ => False) hb5).blk (fun q => q) HX4.out)
      have hLn := genLine_any xk xa xb xc w5 HXW.out (FK.out _ HB5.out) (FT.out _ HB5.out)
      rw [HXG.out, if_pos rfl, HXL.out] at hLn
      have HLn := Lib.hid hLn
      clear hG hb5 hLn HX4 HR4 HB4 HR3 HB3
      go_wp2_with fail
      refine HLn.out.mono ?_
      rintro e wq ⟨rfl, hbq⟩
      have HBq : Hid (Below w.heap.size w wq) := HB5.out.trans (hbq.mono HB5.out.size)
      have HRq := Lib.hid ((Upd.of_below (S := fun _ => False) hbq).blk (fun q => q) HR5.out)
      clear hbq HLn HR5 HB5 y0 y1 y2 y3
      obtain ⟨r0, r1, r2, r3⟩ := cellsOfBlk4 HRq.out
      by_cases hg : goodB k a b c = true
      · have HLL : Hid (l = lineL k a b c) := by show _ = _; rw [HL.out, if_pos hg]
        have hG := fun W => ref38Good_any k a b c W
        rw [hg] at hG
        have HG := Lib.hid hG
        have HGG := Lib.hid hg
        clear hg hG HL
        go_wp2_with fail
        refine (HG.out _).mono ?_
        rintro e w6 ⟨rfl, hb6⟩
        have HB6 : Hid (Below w.heap.size w w6) := HBq.out.trans (hb6.mono HBq.out.size)
        have HR6 : Hid (Blk w6 w.heap.size 38 [.int .i64 k, .int .u64 a, .int .u64 b, .int .u64 c]) := (Upd.of_below (S := fun _ => False) hb6).blk (fun q => q) HRq.out
        clear hb6 r0 r1 r2 r3 HG
        go_wp2_with fail
        rcases (show k = 1 ∨ k = 2 ∨ k = 3 ∨ k = 4 ∨ k = 5 by have := HGG.out; unfold goodB at this; simp at this; omega) with rfl | rfl | rfl | rfl | rfl
        · skip
          have hkw8 : Blk ((w6.alloc (.cells #[.string ⟨#[]⟩, .string ⟨#[99, 111, 110, 115, 116, 32]⟩, .string ⟨#[108, 105, 110, 101, 32]⟩, .string ⟨#[112, 111, 119, 101, 114, 32]⟩, .string ⟨#[99, 104, 97, 105, 110, 32]⟩, .string ⟨#[112, 117, 108, 115, 101, 32]⟩] 43)).alloc (.cells #[.int .i64 0, .int .i64 1, .int .i64 2, .int .i64 2, .int .i64 3, .int .i64 3] 44)) w6.heap.size 43 [.string ⟨#[]⟩, .string ⟨#[99, 111, 110, 115, 116, 32]⟩, .string ⟨#[108, 105, 110, 101, 32]⟩, .string ⟨#[112, 111, 119, 101, 114, 32]⟩, .string ⟨#[99, 104, 97, 105, 110, 32]⟩, .string ⟨#[112, 117, 108, 115, 101, 32]⟩] := (Blk.new w6 _ _).alloc _
          have hkn8 : Blk ((w6.alloc (.cells #[.string ⟨#[]⟩, .string ⟨#[99, 111, 110, 115, 116, 32]⟩, .string ⟨#[108, 105, 110, 101, 32]⟩, .string ⟨#[112, 111, 119, 101, 114, 32]⟩, .string ⟨#[99, 104, 97, 105, 110, 32]⟩, .string ⟨#[112, 117, 108, 115, 101, 32]⟩] 43)).alloc (.cells #[.int .i64 0, .int .i64 1, .int .i64 2, .int .i64 2, .int .i64 3, .int .i64 3] 44)) (w6.heap.size + 1) 44 [.int .i64 0, .int .i64 1, .int .i64 2, .int .i64 2, .int .i64 3, .int .i64 3] := by
            have := Blk.new (w6.alloc (.cells #[.string ⟨#[]⟩, .string ⟨#[99, 111, 110, 115, 116, 32]⟩, .string ⟨#[108, 105, 110, 101, 32]⟩, .string ⟨#[112, 111, 119, 101, 114, 32]⟩, .string ⟨#[99, 104, 97, 105, 110, 32]⟩, .string ⟨#[112, 117, 108, 115, 101, 32]⟩] 43)) 44 [.int .i64 0, .int .i64 1, .int .i64 2, .int .i64 2, .int .i64 3, .int .i64 3]
            rwa [show (w6.alloc (.cells #[.string ⟨#[]⟩, .string ⟨#[99, 111, 110, 115, 116, 32]⟩, .string ⟨#[108, 105, 110, 101, 32]⟩, .string ⟨#[112, 111, 119, 101, 114, 32]⟩, .string ⟨#[99, 104, 97, 105, 110, 32]⟩, .string ⟨#[112, 117, 108, 115, 101, 32]⟩] 43)).heap.size = w6.heap.size + 1 by simp] at this
          have hr8 := ((HR6.out.alloc (.cells #[.string ⟨#[]⟩, .string ⟨#[99, 111, 110, 115, 116, 32]⟩, .string ⟨#[108, 105, 110, 101, 32]⟩, .string ⟨#[112, 111, 119, 101, 114, 32]⟩, .string ⟨#[99, 104, 97, 105, 110, 32]⟩, .string ⟨#[112, 117, 108, 115, 101, 32]⟩] 43)).alloc (.cells #[.int .i64 0, .int .i64 1, .int .i64 2, .int .i64 2, .int .i64 3, .int .i64 3] 44))
          have hb8 := (HB6.out.alloc HB6.out.size (.cells #[.string ⟨#[]⟩, .string ⟨#[99, 111, 110, 115, 116, 32]⟩, .string ⟨#[108, 105, 110, 101, 32]⟩, .string ⟨#[112, 111, 119, 101, 114, 32]⟩, .string ⟨#[99, 104, 97, 105, 110, 32]⟩, .string ⟨#[112, 117, 108, 115, 101, 32]⟩] 43)).alloc (by have := HB6.out.size; simp; omega) (.cells #[.int .i64 0, .int .i64 1, .int .i64 2, .int .i64 2, .int .i64 3, .int .i64 3] 44)
          generalize (w6.alloc (.cells #[.string ⟨#[]⟩, .string ⟨#[99, 111, 110, 115, 116, 32]⟩, .string ⟨#[108, 105, 110, 101, 32]⟩, .string ⟨#[112, 111, 119, 101, 114, 32]⟩, .string ⟨#[99, 104, 97, 105, 110, 32]⟩, .string ⟨#[112, 117, 108, 115, 101, 32]⟩] 43)).alloc (.cells #[.int .i64 0, .int .i64 1, .int .i64 2, .int .i64 2, .int .i64 3, .int .i64 3] 44) = w8 at *
          obtain ⟨r0, r1, r2, r3⟩ := cellsOfBlk4 hr8
          have q0 : w8.cell? ⟨w6.heap.size, 1, none⟩ = some (.string ⟨#[99, 111, 110, 115, 116, 32]⟩) := hkw8.cell 1
          have q1 : w8.cell? ⟨w6.heap.size + 1, 1, none⟩ = some (.int .i64 1) := hkn8.cell 1
          have HB8 := Lib.hid hb8
          have HR8 := Lib.hid hr8
          have HN8 := Lib.hid hkn8
          clear hkw8 hkn8 hb8 hr8
          obtain ⟨T, hT⟩ : ∃ T : ByteArray, T = ⟨(Lib.join (([a, b, c].take 1).map fun x => Lib.decDigits x.toNat) [32]).toArray⟩ := ⟨_, rfl⟩
          have hTx := refText_any (some ⟨w8.heap.size, 0, none⟩) 1 3 ([a, b, c].take 1) _ (rdTake w8.drew a b c 1 (by omega)) (by omega) (fun x hx => HW.out x (List.mem_of_mem_take hx))
          rw [← hT] at hTx
          have HTx := Lib.hid hTx
          have hTs : T.size ≤ 140737488355328 := by rw [hT]; exact join_len ([a, b, c].take 1) (by simp <;> omega) (fun x hx => HW.out x (List.mem_of_mem_take hx))
          have hadd := fun W => run_string_add_sum (P := Tryd.prog) W ⟨#[99, 111, 110, 115, 116, 32]⟩ T (by show 6 + T.size ≤ _; omega)
          have hE : (⟨#[99, 111, 110, 115, 116, 32]⟩ : ByteArray) ++ T = l := by
            rw [HLL.out, hT]; apply ByteArray.ext; rw [ByteArray.data_append]; simp [lineL, kWord, kNum, textL]
          rw [hE] at hadd
          clear hTx hT hTs hE
          go_region_held3 (fun w' => w'.cell? ⟨w6.heap.size, 1, none⟩ = some (.string ⟨#[99, 111, 110, 115, 116, 32]⟩) ∧ w'.cell? ⟨w6.heap.size + 1, 1, none⟩ = some (.int .i64 1) ∧ w'.cell? ⟨w.heap.size, 0, none⟩ = some (.int .i64 1) ∧ w'.cell? ⟨w.heap.size, 1, none⟩ = some (.int .u64 a) ∧ w'.cell? ⟨w.heap.size, 2, none⟩ = some (.int .u64 b) ∧ w'.cell? ⟨w.heap.size, 3, none⟩ = some (.int .u64 c)) (first | exact ⟨keep_cell hb9 q0, keep_cell hb9 q1, keep_cell hb9 r0, keep_cell hb9 r1, keep_cell hb9 r2, keep_cell hb9 r3⟩ | go_keep)
            ((go_at_call 16; refine HTx.out.mono ?_; rintro e w9 ⟨rfl, hb9⟩))
          have hu9 : Upd (fun _ => False) w8 w9 := (((Upd.refl _ _).drew).alloc _).trans (.of_below hb9)
          have HR9 := Lib.hid (hu9.blk (fun q => q) HR8.out)
          have hn9 := hu9.blk (fun q => q) HN8.out
          have HB9 : Hid (Below w.heap.size w w9) := HB8.out.trans (hu9.below.mono HB8.out.size)
          have q1 : w9.cell? ⟨w6.heap.size + 1, 1, none⟩ = some (.int .i64 1) := hn9.cell 1
          have hn9' : Blk (w9.setCell ⟨w.heap.size, 3, none⟩ (.int .u64 0)) (w6.heap.size + 1) 44 _ := hn9.setCell_ne (by have := HR6.out.lt; show w6.heap.size + 1 ≠ w.heap.size; omega) _
          have q2 : (w9.setCell ⟨w.heap.size, 3, none⟩ (.int .u64 0)).cell? ⟨w6.heap.size + 1, 1, none⟩ = some (.int .i64 1) := hn9'.cell 1
          obtain ⟨r0, r1, r2, r3⟩ := cellsOfBlk4 HR9.out
          have f2 : w9.frozen? ⟨w.heap.size, 2, none⟩ = false := HR9.out.frozen 2
          have f3 : w9.frozen? ⟨w.heap.size, 3, none⟩ = false := HR9.out.frozen 3
          clear hb9 hu9 hn9 hn9' HTx hadd HR8 HN8 HB8
          have hrd : readRule l = ((1, a, 0, 0), 0) := by
            rw [HLL.out, readRule_line 1 a b c HGG.out ⟨(HW.out a (by simp)).1, (HW.out b (by simp)).1, (HW.out c (by simp)).1⟩]; rfl
          have hls : l.size ≤ 1000000 := by rw [HLL.out]; exact lineL_size _ _ _ _ HW.out (by decide)
          have HRz : Hid (Blk (((w9).setCell ⟨w.heap.size, 3, none⟩ (.int .u64 0)).setCell ⟨w.heap.size, 2, none⟩ (.int .u64 0)) w.heap.size 38 [.int .i64 1, .int .u64 a, .int .u64 (0), .int .u64 (0)]) := ((HR9.out).setCell 3 (.int .u64 0)).setCell 2 (.int .u64 0)
          have HBz : Hid (Below w.heap.size w (((w9).setCell ⟨w.heap.size, 3, none⟩ (.int .u64 0)).setCell ⟨w.heap.size, 2, none⟩ (.int .u64 0))) := Below.setCell (Below.setCell (HB9.out) (Nat.le_refl _) _) (Nat.le_refl _) _
          have hRd := genRead_any l m _ hls (FK.out _ HBz.out) (FM.out _ HBz.out)
          rw [hrd] at hRd
          have HRd := Lib.hid hRd
          clear hrd hls hRd
          go_wp2_with fail
          refine HRd.out.mono ?_
          rintro e w10 ⟨rfl, hb10⟩
          have HB10 : Hid (Below w.heap.size w w10) := HBz.out.trans (hb10.mono HBz.out.size)
          obtain ⟨r0, r1, r2, r3⟩ := cellsOfBlk4 ((Upd.of_below (S := fun _ => False) hb10).blk (fun q => q) HRz.out)
          have hlt10 : w.heap.size < w10.heap.size := World.block_lt_of_cell? w10 _ r0
          clear hb10 HRd q0 q1 q2 f2 f3
          go_wp2
          go_ret
          exact ⟨rfl, (HB10.out.alloc HB10.out.size _)⟩
        · skip
          have hkw8 : Blk ((w6.alloc (.cells #[.string ⟨#[]⟩, .string ⟨#[99, 111, 110, 115, 116, 32]⟩, .string ⟨#[108, 105, 110, 101, 32]⟩, .string ⟨#[112, 111, 119, 101, 114, 32]⟩, .string ⟨#[99, 104, 97, 105, 110, 32]⟩, .string ⟨#[112, 117, 108, 115, 101, 32]⟩] 43)).alloc (.cells #[.int .i64 0, .int .i64 1, .int .i64 2, .int .i64 2, .int .i64 3, .int .i64 3] 44)) w6.heap.size 43 [.string ⟨#[]⟩, .string ⟨#[99, 111, 110, 115, 116, 32]⟩, .string ⟨#[108, 105, 110, 101, 32]⟩, .string ⟨#[112, 111, 119, 101, 114, 32]⟩, .string ⟨#[99, 104, 97, 105, 110, 32]⟩, .string ⟨#[112, 117, 108, 115, 101, 32]⟩] := (Blk.new w6 _ _).alloc _
          have hkn8 : Blk ((w6.alloc (.cells #[.string ⟨#[]⟩, .string ⟨#[99, 111, 110, 115, 116, 32]⟩, .string ⟨#[108, 105, 110, 101, 32]⟩, .string ⟨#[112, 111, 119, 101, 114, 32]⟩, .string ⟨#[99, 104, 97, 105, 110, 32]⟩, .string ⟨#[112, 117, 108, 115, 101, 32]⟩] 43)).alloc (.cells #[.int .i64 0, .int .i64 1, .int .i64 2, .int .i64 2, .int .i64 3, .int .i64 3] 44)) (w6.heap.size + 1) 44 [.int .i64 0, .int .i64 1, .int .i64 2, .int .i64 2, .int .i64 3, .int .i64 3] := by
            have := Blk.new (w6.alloc (.cells #[.string ⟨#[]⟩, .string ⟨#[99, 111, 110, 115, 116, 32]⟩, .string ⟨#[108, 105, 110, 101, 32]⟩, .string ⟨#[112, 111, 119, 101, 114, 32]⟩, .string ⟨#[99, 104, 97, 105, 110, 32]⟩, .string ⟨#[112, 117, 108, 115, 101, 32]⟩] 43)) 44 [.int .i64 0, .int .i64 1, .int .i64 2, .int .i64 2, .int .i64 3, .int .i64 3]
            rwa [show (w6.alloc (.cells #[.string ⟨#[]⟩, .string ⟨#[99, 111, 110, 115, 116, 32]⟩, .string ⟨#[108, 105, 110, 101, 32]⟩, .string ⟨#[112, 111, 119, 101, 114, 32]⟩, .string ⟨#[99, 104, 97, 105, 110, 32]⟩, .string ⟨#[112, 117, 108, 115, 101, 32]⟩] 43)).heap.size = w6.heap.size + 1 by simp] at this
          have hr8 := ((HR6.out.alloc (.cells #[.string ⟨#[]⟩, .string ⟨#[99, 111, 110, 115, 116, 32]⟩, .string ⟨#[108, 105, 110, 101, 32]⟩, .string ⟨#[112, 111, 119, 101, 114, 32]⟩, .string ⟨#[99, 104, 97, 105, 110, 32]⟩, .string ⟨#[112, 117, 108, 115, 101, 32]⟩] 43)).alloc (.cells #[.int .i64 0, .int .i64 1, .int .i64 2, .int .i64 2, .int .i64 3, .int .i64 3] 44))
          have hb8 := (HB6.out.alloc HB6.out.size (.cells #[.string ⟨#[]⟩, .string ⟨#[99, 111, 110, 115, 116, 32]⟩, .string ⟨#[108, 105, 110, 101, 32]⟩, .string ⟨#[112, 111, 119, 101, 114, 32]⟩, .string ⟨#[99, 104, 97, 105, 110, 32]⟩, .string ⟨#[112, 117, 108, 115, 101, 32]⟩] 43)).alloc (by have := HB6.out.size; simp; omega) (.cells #[.int .i64 0, .int .i64 1, .int .i64 2, .int .i64 2, .int .i64 3, .int .i64 3] 44)
          generalize (w6.alloc (.cells #[.string ⟨#[]⟩, .string ⟨#[99, 111, 110, 115, 116, 32]⟩, .string ⟨#[108, 105, 110, 101, 32]⟩, .string ⟨#[112, 111, 119, 101, 114, 32]⟩, .string ⟨#[99, 104, 97, 105, 110, 32]⟩, .string ⟨#[112, 117, 108, 115, 101, 32]⟩] 43)).alloc (.cells #[.int .i64 0, .int .i64 1, .int .i64 2, .int .i64 2, .int .i64 3, .int .i64 3] 44) = w8 at *
          obtain ⟨r0, r1, r2, r3⟩ := cellsOfBlk4 hr8
          have q0 : w8.cell? ⟨w6.heap.size, 2, none⟩ = some (.string ⟨#[108, 105, 110, 101, 32]⟩) := hkw8.cell 2
          have q1 : w8.cell? ⟨w6.heap.size + 1, 2, none⟩ = some (.int .i64 2) := hkn8.cell 2
          have HB8 := Lib.hid hb8
          have HR8 := Lib.hid hr8
          have HN8 := Lib.hid hkn8
          clear hkw8 hkn8 hb8 hr8
          obtain ⟨T, hT⟩ : ∃ T : ByteArray, T = ⟨(Lib.join (([a, b, c].take 2).map fun x => Lib.decDigits x.toNat) [32]).toArray⟩ := ⟨_, rfl⟩
          have hTx := refText_any (some ⟨w8.heap.size, 0, none⟩) 2 3 ([a, b, c].take 2) _ (rdTake w8.drew a b c 2 (by omega)) (by omega) (fun x hx => HW.out x (List.mem_of_mem_take hx))
          rw [← hT] at hTx
          have HTx := Lib.hid hTx
          have hTs : T.size ≤ 140737488355328 := by rw [hT]; exact join_len ([a, b, c].take 2) (by simp <;> omega) (fun x hx => HW.out x (List.mem_of_mem_take hx))
          have hadd := fun W => run_string_add_sum (P := Tryd.prog) W ⟨#[108, 105, 110, 101, 32]⟩ T (by show 5 + T.size ≤ _; omega)
          have hE : (⟨#[108, 105, 110, 101, 32]⟩ : ByteArray) ++ T = l := by
            rw [HLL.out, hT]; apply ByteArray.ext; rw [ByteArray.data_append]; simp [lineL, kWord, kNum, textL]
          rw [hE] at hadd
          clear hTx hT hTs hE
          go_region_held3 (fun w' => w'.cell? ⟨w6.heap.size, 2, none⟩ = some (.string ⟨#[108, 105, 110, 101, 32]⟩) ∧ w'.cell? ⟨w6.heap.size + 1, 2, none⟩ = some (.int .i64 2) ∧ w'.cell? ⟨w.heap.size, 0, none⟩ = some (.int .i64 2) ∧ w'.cell? ⟨w.heap.size, 1, none⟩ = some (.int .u64 a) ∧ w'.cell? ⟨w.heap.size, 2, none⟩ = some (.int .u64 b) ∧ w'.cell? ⟨w.heap.size, 3, none⟩ = some (.int .u64 c)) (first | exact ⟨keep_cell hb9 q0, keep_cell hb9 q1, keep_cell hb9 r0, keep_cell hb9 r1, keep_cell hb9 r2, keep_cell hb9 r3⟩ | go_keep)
            ((go_at_call 16; refine HTx.out.mono ?_; rintro e w9 ⟨rfl, hb9⟩))
          have hu9 : Upd (fun _ => False) w8 w9 := (((Upd.refl _ _).drew).alloc _).trans (.of_below hb9)
          have HR9 := Lib.hid (hu9.blk (fun q => q) HR8.out)
          have hn9 := hu9.blk (fun q => q) HN8.out
          have HB9 : Hid (Below w.heap.size w w9) := HB8.out.trans (hu9.below.mono HB8.out.size)
          have q1 : w9.cell? ⟨w6.heap.size + 1, 2, none⟩ = some (.int .i64 2) := hn9.cell 2
          have hn9' : Blk (w9.setCell ⟨w.heap.size, 3, none⟩ (.int .u64 0)) (w6.heap.size + 1) 44 _ := hn9.setCell_ne (by have := HR6.out.lt; show w6.heap.size + 1 ≠ w.heap.size; omega) _
          have q2 : (w9.setCell ⟨w.heap.size, 3, none⟩ (.int .u64 0)).cell? ⟨w6.heap.size + 1, 2, none⟩ = some (.int .i64 2) := hn9'.cell 2
          obtain ⟨r0, r1, r2, r3⟩ := cellsOfBlk4 HR9.out
          have f2 : w9.frozen? ⟨w.heap.size, 2, none⟩ = false := HR9.out.frozen 2
          have f3 : w9.frozen? ⟨w.heap.size, 3, none⟩ = false := HR9.out.frozen 3
          clear hb9 hu9 hn9 hn9' HTx hadd HR8 HN8 HB8
          have hrd : readRule l = ((2, a, b, 0), 0) := by
            rw [HLL.out, readRule_line 2 a b c HGG.out ⟨(HW.out a (by simp)).1, (HW.out b (by simp)).1, (HW.out c (by simp)).1⟩]; rfl
          have hls : l.size ≤ 1000000 := by rw [HLL.out]; exact lineL_size _ _ _ _ HW.out (by decide)
          have HRz : Hid (Blk ((w9).setCell ⟨w.heap.size, 3, none⟩ (.int .u64 0)) w.heap.size 38 [.int .i64 2, .int .u64 a, .int .u64 (b), .int .u64 (0)]) := (HR9.out).setCell 3 (.int .u64 0)
          have HBz : Hid (Below w.heap.size w ((w9).setCell ⟨w.heap.size, 3, none⟩ (.int .u64 0))) := Below.setCell (HB9.out) (Nat.le_refl _) _
          have hRd := genRead_any l m _ hls (FK.out _ HBz.out) (FM.out _ HBz.out)
          rw [hrd] at hRd
          have HRd := Lib.hid hRd
          clear hrd hls hRd
          go_wp2_with fail
          refine HRd.out.mono ?_
          rintro e w10 ⟨rfl, hb10⟩
          have HB10 : Hid (Below w.heap.size w w10) := HBz.out.trans (hb10.mono HBz.out.size)
          obtain ⟨r0, r1, r2, r3⟩ := cellsOfBlk4 ((Upd.of_below (S := fun _ => False) hb10).blk (fun q => q) HRz.out)
          have hlt10 : w.heap.size < w10.heap.size := World.block_lt_of_cell? w10 _ r0
          clear hb10 HRd q0 q1 q2 f2 f3
          go_wp2
          go_ret
          exact ⟨rfl, (HB10.out.alloc HB10.out.size _)⟩
        · skip
          have hkw8 : Blk ((w6.alloc (.cells #[.string ⟨#[]⟩, .string ⟨#[99, 111, 110, 115, 116, 32]⟩, .string ⟨#[108, 105, 110, 101, 32]⟩, .string ⟨#[112, 111, 119, 101, 114, 32]⟩, .string ⟨#[99, 104, 97, 105, 110, 32]⟩, .string ⟨#[112, 117, 108, 115, 101, 32]⟩] 43)).alloc (.cells #[.int .i64 0, .int .i64 1, .int .i64 2, .int .i64 2, .int .i64 3, .int .i64 3] 44)) w6.heap.size 43 [.string ⟨#[]⟩, .string ⟨#[99, 111, 110, 115, 116, 32]⟩, .string ⟨#[108, 105, 110, 101, 32]⟩, .string ⟨#[112, 111, 119, 101, 114, 32]⟩, .string ⟨#[99, 104, 97, 105, 110, 32]⟩, .string ⟨#[112, 117, 108, 115, 101, 32]⟩] := (Blk.new w6 _ _).alloc _
          have hkn8 : Blk ((w6.alloc (.cells #[.string ⟨#[]⟩, .string ⟨#[99, 111, 110, 115, 116, 32]⟩, .string ⟨#[108, 105, 110, 101, 32]⟩, .string ⟨#[112, 111, 119, 101, 114, 32]⟩, .string ⟨#[99, 104, 97, 105, 110, 32]⟩, .string ⟨#[112, 117, 108, 115, 101, 32]⟩] 43)).alloc (.cells #[.int .i64 0, .int .i64 1, .int .i64 2, .int .i64 2, .int .i64 3, .int .i64 3] 44)) (w6.heap.size + 1) 44 [.int .i64 0, .int .i64 1, .int .i64 2, .int .i64 2, .int .i64 3, .int .i64 3] := by
            have := Blk.new (w6.alloc (.cells #[.string ⟨#[]⟩, .string ⟨#[99, 111, 110, 115, 116, 32]⟩, .string ⟨#[108, 105, 110, 101, 32]⟩, .string ⟨#[112, 111, 119, 101, 114, 32]⟩, .string ⟨#[99, 104, 97, 105, 110, 32]⟩, .string ⟨#[112, 117, 108, 115, 101, 32]⟩] 43)) 44 [.int .i64 0, .int .i64 1, .int .i64 2, .int .i64 2, .int .i64 3, .int .i64 3]
            rwa [show (w6.alloc (.cells #[.string ⟨#[]⟩, .string ⟨#[99, 111, 110, 115, 116, 32]⟩, .string ⟨#[108, 105, 110, 101, 32]⟩, .string ⟨#[112, 111, 119, 101, 114, 32]⟩, .string ⟨#[99, 104, 97, 105, 110, 32]⟩, .string ⟨#[112, 117, 108, 115, 101, 32]⟩] 43)).heap.size = w6.heap.size + 1 by simp] at this
          have hr8 := ((HR6.out.alloc (.cells #[.string ⟨#[]⟩, .string ⟨#[99, 111, 110, 115, 116, 32]⟩, .string ⟨#[108, 105, 110, 101, 32]⟩, .string ⟨#[112, 111, 119, 101, 114, 32]⟩, .string ⟨#[99, 104, 97, 105, 110, 32]⟩, .string ⟨#[112, 117, 108, 115, 101, 32]⟩] 43)).alloc (.cells #[.int .i64 0, .int .i64 1, .int .i64 2, .int .i64 2, .int .i64 3, .int .i64 3] 44))
          have hb8 := (HB6.out.alloc HB6.out.size (.cells #[.string ⟨#[]⟩, .string ⟨#[99, 111, 110, 115, 116, 32]⟩, .string ⟨#[108, 105, 110, 101, 32]⟩, .string ⟨#[112, 111, 119, 101, 114, 32]⟩, .string ⟨#[99, 104, 97, 105, 110, 32]⟩, .string ⟨#[112, 117, 108, 115, 101, 32]⟩] 43)).alloc (by have := HB6.out.size; simp; omega) (.cells #[.int .i64 0, .int .i64 1, .int .i64 2, .int .i64 2, .int .i64 3, .int .i64 3] 44)
          generalize (w6.alloc (.cells #[.string ⟨#[]⟩, .string ⟨#[99, 111, 110, 115, 116, 32]⟩, .string ⟨#[108, 105, 110, 101, 32]⟩, .string ⟨#[112, 111, 119, 101, 114, 32]⟩, .string ⟨#[99, 104, 97, 105, 110, 32]⟩, .string ⟨#[112, 117, 108, 115, 101, 32]⟩] 43)).alloc (.cells #[.int .i64 0, .int .i64 1, .int .i64 2, .int .i64 2, .int .i64 3, .int .i64 3] 44) = w8 at *
          obtain ⟨r0, r1, r2, r3⟩ := cellsOfBlk4 hr8
          have q0 : w8.cell? ⟨w6.heap.size, 3, none⟩ = some (.string ⟨#[112, 111, 119, 101, 114, 32]⟩) := hkw8.cell 3
          have q1 : w8.cell? ⟨w6.heap.size + 1, 3, none⟩ = some (.int .i64 2) := hkn8.cell 3
          have HB8 := Lib.hid hb8
          have HR8 := Lib.hid hr8
          have HN8 := Lib.hid hkn8
          clear hkw8 hkn8 hb8 hr8
          obtain ⟨T, hT⟩ : ∃ T : ByteArray, T = ⟨(Lib.join (([a, b, c].take 2).map fun x => Lib.decDigits x.toNat) [32]).toArray⟩ := ⟨_, rfl⟩
          have hTx := refText_any (some ⟨w8.heap.size, 0, none⟩) 2 3 ([a, b, c].take 2) _ (rdTake w8.drew a b c 2 (by omega)) (by omega) (fun x hx => HW.out x (List.mem_of_mem_take hx))
          rw [← hT] at hTx
          have HTx := Lib.hid hTx
          have hTs : T.size ≤ 140737488355328 := by rw [hT]; exact join_len ([a, b, c].take 2) (by simp <;> omega) (fun x hx => HW.out x (List.mem_of_mem_take hx))
          have hadd := fun W => run_string_add_sum (P := Tryd.prog) W ⟨#[112, 111, 119, 101, 114, 32]⟩ T (by show 6 + T.size ≤ _; omega)
          have hE : (⟨#[112, 111, 119, 101, 114, 32]⟩ : ByteArray) ++ T = l := by
            rw [HLL.out, hT]; apply ByteArray.ext; rw [ByteArray.data_append]; simp [lineL, kWord, kNum, textL]
          rw [hE] at hadd
          clear hTx hT hTs hE
          go_region_held3 (fun w' => w'.cell? ⟨w6.heap.size, 3, none⟩ = some (.string ⟨#[112, 111, 119, 101, 114, 32]⟩) ∧ w'.cell? ⟨w6.heap.size + 1, 3, none⟩ = some (.int .i64 2) ∧ w'.cell? ⟨w.heap.size, 0, none⟩ = some (.int .i64 3) ∧ w'.cell? ⟨w.heap.size, 1, none⟩ = some (.int .u64 a) ∧ w'.cell? ⟨w.heap.size, 2, none⟩ = some (.int .u64 b) ∧ w'.cell? ⟨w.heap.size, 3, none⟩ = some (.int .u64 c)) (first | exact ⟨keep_cell hb9 q0, keep_cell hb9 q1, keep_cell hb9 r0, keep_cell hb9 r1, keep_cell hb9 r2, keep_cell hb9 r3⟩ | go_keep)
            ((go_at_call 16; refine HTx.out.mono ?_; rintro e w9 ⟨rfl, hb9⟩))
          have hu9 : Upd (fun _ => False) w8 w9 := (((Upd.refl _ _).drew).alloc _).trans (.of_below hb9)
          have HR9 := Lib.hid (hu9.blk (fun q => q) HR8.out)
          have hn9 := hu9.blk (fun q => q) HN8.out
          have HB9 : Hid (Below w.heap.size w w9) := HB8.out.trans (hu9.below.mono HB8.out.size)
          have q1 : w9.cell? ⟨w6.heap.size + 1, 3, none⟩ = some (.int .i64 2) := hn9.cell 3
          have hn9' : Blk (w9.setCell ⟨w.heap.size, 3, none⟩ (.int .u64 0)) (w6.heap.size + 1) 44 _ := hn9.setCell_ne (by have := HR6.out.lt; show w6.heap.size + 1 ≠ w.heap.size; omega) _
          have q2 : (w9.setCell ⟨w.heap.size, 3, none⟩ (.int .u64 0)).cell? ⟨w6.heap.size + 1, 3, none⟩ = some (.int .i64 2) := hn9'.cell 3
          obtain ⟨r0, r1, r2, r3⟩ := cellsOfBlk4 HR9.out
          have f2 : w9.frozen? ⟨w.heap.size, 2, none⟩ = false := HR9.out.frozen 2
          have f3 : w9.frozen? ⟨w.heap.size, 3, none⟩ = false := HR9.out.frozen 3
          clear hb9 hu9 hn9 hn9' HTx hadd HR8 HN8 HB8
          have hrd : readRule l = ((3, a, b, 0), 0) := by
            rw [HLL.out, readRule_line 3 a b c HGG.out ⟨(HW.out a (by simp)).1, (HW.out b (by simp)).1, (HW.out c (by simp)).1⟩]; rfl
          have hls : l.size ≤ 1000000 := by rw [HLL.out]; exact lineL_size _ _ _ _ HW.out (by decide)
          have HRz : Hid (Blk ((w9).setCell ⟨w.heap.size, 3, none⟩ (.int .u64 0)) w.heap.size 38 [.int .i64 3, .int .u64 a, .int .u64 (b), .int .u64 (0)]) := (HR9.out).setCell 3 (.int .u64 0)
          have HBz : Hid (Below w.heap.size w ((w9).setCell ⟨w.heap.size, 3, none⟩ (.int .u64 0))) := Below.setCell (HB9.out) (Nat.le_refl _) _
          have hRd := genRead_any l m _ hls (FK.out _ HBz.out) (FM.out _ HBz.out)
          rw [hrd] at hRd
          have HRd := Lib.hid hRd
          clear hrd hls hRd
          go_wp2_with fail
          refine HRd.out.mono ?_
          rintro e w10 ⟨rfl, hb10⟩
          have HB10 : Hid (Below w.heap.size w w10) := HBz.out.trans (hb10.mono HBz.out.size)
          obtain ⟨r0, r1, r2, r3⟩ := cellsOfBlk4 ((Upd.of_below (S := fun _ => False) hb10).blk (fun q => q) HRz.out)
          have hlt10 : w.heap.size < w10.heap.size := World.block_lt_of_cell? w10 _ r0
          clear hb10 HRd q0 q1 q2 f2 f3
          go_wp2
          go_ret
          exact ⟨rfl, (HB10.out.alloc HB10.out.size _)⟩
        · skip
          have hkw8 : Blk ((w6.alloc (.cells #[.string ⟨#[]⟩, .string ⟨#[99, 111, 110, 115, 116, 32]⟩, .string ⟨#[108, 105, 110, 101, 32]⟩, .string ⟨#[112, 111, 119, 101, 114, 32]⟩, .string ⟨#[99, 104, 97, 105, 110, 32]⟩, .string ⟨#[112, 117, 108, 115, 101, 32]⟩] 43)).alloc (.cells #[.int .i64 0, .int .i64 1, .int .i64 2, .int .i64 2, .int .i64 3, .int .i64 3] 44)) w6.heap.size 43 [.string ⟨#[]⟩, .string ⟨#[99, 111, 110, 115, 116, 32]⟩, .string ⟨#[108, 105, 110, 101, 32]⟩, .string ⟨#[112, 111, 119, 101, 114, 32]⟩, .string ⟨#[99, 104, 97, 105, 110, 32]⟩, .string ⟨#[112, 117, 108, 115, 101, 32]⟩] := (Blk.new w6 _ _).alloc _
          have hkn8 : Blk ((w6.alloc (.cells #[.string ⟨#[]⟩, .string ⟨#[99, 111, 110, 115, 116, 32]⟩, .string ⟨#[108, 105, 110, 101, 32]⟩, .string ⟨#[112, 111, 119, 101, 114, 32]⟩, .string ⟨#[99, 104, 97, 105, 110, 32]⟩, .string ⟨#[112, 117, 108, 115, 101, 32]⟩] 43)).alloc (.cells #[.int .i64 0, .int .i64 1, .int .i64 2, .int .i64 2, .int .i64 3, .int .i64 3] 44)) (w6.heap.size + 1) 44 [.int .i64 0, .int .i64 1, .int .i64 2, .int .i64 2, .int .i64 3, .int .i64 3] := by
            have := Blk.new (w6.alloc (.cells #[.string ⟨#[]⟩, .string ⟨#[99, 111, 110, 115, 116, 32]⟩, .string ⟨#[108, 105, 110, 101, 32]⟩, .string ⟨#[112, 111, 119, 101, 114, 32]⟩, .string ⟨#[99, 104, 97, 105, 110, 32]⟩, .string ⟨#[112, 117, 108, 115, 101, 32]⟩] 43)) 44 [.int .i64 0, .int .i64 1, .int .i64 2, .int .i64 2, .int .i64 3, .int .i64 3]
            rwa [show (w6.alloc (.cells #[.string ⟨#[]⟩, .string ⟨#[99, 111, 110, 115, 116, 32]⟩, .string ⟨#[108, 105, 110, 101, 32]⟩, .string ⟨#[112, 111, 119, 101, 114, 32]⟩, .string ⟨#[99, 104, 97, 105, 110, 32]⟩, .string ⟨#[112, 117, 108, 115, 101, 32]⟩] 43)).heap.size = w6.heap.size + 1 by simp] at this
          have hr8 := ((HR6.out.alloc (.cells #[.string ⟨#[]⟩, .string ⟨#[99, 111, 110, 115, 116, 32]⟩, .string ⟨#[108, 105, 110, 101, 32]⟩, .string ⟨#[112, 111, 119, 101, 114, 32]⟩, .string ⟨#[99, 104, 97, 105, 110, 32]⟩, .string ⟨#[112, 117, 108, 115, 101, 32]⟩] 43)).alloc (.cells #[.int .i64 0, .int .i64 1, .int .i64 2, .int .i64 2, .int .i64 3, .int .i64 3] 44))
          have hb8 := (HB6.out.alloc HB6.out.size (.cells #[.string ⟨#[]⟩, .string ⟨#[99, 111, 110, 115, 116, 32]⟩, .string ⟨#[108, 105, 110, 101, 32]⟩, .string ⟨#[112, 111, 119, 101, 114, 32]⟩, .string ⟨#[99, 104, 97, 105, 110, 32]⟩, .string ⟨#[112, 117, 108, 115, 101, 32]⟩] 43)).alloc (by have := HB6.out.size; simp; omega) (.cells #[.int .i64 0, .int .i64 1, .int .i64 2, .int .i64 2, .int .i64 3, .int .i64 3] 44)
          generalize (w6.alloc (.cells #[.string ⟨#[]⟩, .string ⟨#[99, 111, 110, 115, 116, 32]⟩, .string ⟨#[108, 105, 110, 101, 32]⟩, .string ⟨#[112, 111, 119, 101, 114, 32]⟩, .string ⟨#[99, 104, 97, 105, 110, 32]⟩, .string ⟨#[112, 117, 108, 115, 101, 32]⟩] 43)).alloc (.cells #[.int .i64 0, .int .i64 1, .int .i64 2, .int .i64 2, .int .i64 3, .int .i64 3] 44) = w8 at *
          obtain ⟨r0, r1, r2, r3⟩ := cellsOfBlk4 hr8
          have q0 : w8.cell? ⟨w6.heap.size, 4, none⟩ = some (.string ⟨#[99, 104, 97, 105, 110, 32]⟩) := hkw8.cell 4
          have q1 : w8.cell? ⟨w6.heap.size + 1, 4, none⟩ = some (.int .i64 3) := hkn8.cell 4
          have HB8 := Lib.hid hb8
          have HR8 := Lib.hid hr8
          have HN8 := Lib.hid hkn8
          clear hkw8 hkn8 hb8 hr8
          obtain ⟨T, hT⟩ : ∃ T : ByteArray, T = ⟨(Lib.join (([a, b, c].take 3).map fun x => Lib.decDigits x.toNat) [32]).toArray⟩ := ⟨_, rfl⟩
          have hTx := refText_any (some ⟨w8.heap.size, 0, none⟩) 3 3 ([a, b, c].take 3) _ (rdTake w8.drew a b c 3 (by omega)) (by omega) (fun x hx => HW.out x (List.mem_of_mem_take hx))
          rw [← hT] at hTx
          have HTx := Lib.hid hTx
          have hTs : T.size ≤ 140737488355328 := by rw [hT]; exact join_len ([a, b, c].take 3) (by simp <;> omega) (fun x hx => HW.out x (List.mem_of_mem_take hx))
          have hadd := fun W => run_string_add_sum (P := Tryd.prog) W ⟨#[99, 104, 97, 105, 110, 32]⟩ T (by show 6 + T.size ≤ _; omega)
          have hE : (⟨#[99, 104, 97, 105, 110, 32]⟩ : ByteArray) ++ T = l := by
            rw [HLL.out, hT]; apply ByteArray.ext; rw [ByteArray.data_append]; simp [lineL, kWord, kNum, textL]
          rw [hE] at hadd
          clear hTx hT hTs hE
          go_region_held3 (fun w' => w'.cell? ⟨w6.heap.size, 4, none⟩ = some (.string ⟨#[99, 104, 97, 105, 110, 32]⟩) ∧ w'.cell? ⟨w6.heap.size + 1, 4, none⟩ = some (.int .i64 3) ∧ w'.cell? ⟨w.heap.size, 0, none⟩ = some (.int .i64 4) ∧ w'.cell? ⟨w.heap.size, 1, none⟩ = some (.int .u64 a) ∧ w'.cell? ⟨w.heap.size, 2, none⟩ = some (.int .u64 b) ∧ w'.cell? ⟨w.heap.size, 3, none⟩ = some (.int .u64 c)) (first | exact ⟨keep_cell hb9 q0, keep_cell hb9 q1, keep_cell hb9 r0, keep_cell hb9 r1, keep_cell hb9 r2, keep_cell hb9 r3⟩ | go_keep)
            ((go_at_call 16; refine HTx.out.mono ?_; rintro e w9 ⟨rfl, hb9⟩))
          have hu9 : Upd (fun _ => False) w8 w9 := (((Upd.refl _ _).drew).alloc _).trans (.of_below hb9)
          have HR9 := Lib.hid (hu9.blk (fun q => q) HR8.out)
          have hn9 := hu9.blk (fun q => q) HN8.out
          have HB9 : Hid (Below w.heap.size w w9) := HB8.out.trans (hu9.below.mono HB8.out.size)
          have q1 : w9.cell? ⟨w6.heap.size + 1, 4, none⟩ = some (.int .i64 3) := hn9.cell 4
          have hn9' : Blk (w9.setCell ⟨w.heap.size, 3, none⟩ (.int .u64 0)) (w6.heap.size + 1) 44 _ := hn9.setCell_ne (by have := HR6.out.lt; show w6.heap.size + 1 ≠ w.heap.size; omega) _
          have q2 : (w9.setCell ⟨w.heap.size, 3, none⟩ (.int .u64 0)).cell? ⟨w6.heap.size + 1, 4, none⟩ = some (.int .i64 3) := hn9'.cell 4
          obtain ⟨r0, r1, r2, r3⟩ := cellsOfBlk4 HR9.out
          have f2 : w9.frozen? ⟨w.heap.size, 2, none⟩ = false := HR9.out.frozen 2
          have f3 : w9.frozen? ⟨w.heap.size, 3, none⟩ = false := HR9.out.frozen 3
          clear hb9 hu9 hn9 hn9' HTx hadd HR8 HN8 HB8
          have hrd : readRule l = ((4, a, b, c), 0) := by
            rw [HLL.out, readRule_line 4 a b c HGG.out ⟨(HW.out a (by simp)).1, (HW.out b (by simp)).1, (HW.out c (by simp)).1⟩]; rfl
          have hls : l.size ≤ 1000000 := by rw [HLL.out]; exact lineL_size _ _ _ _ HW.out (by decide)
          have HRz : Hid (Blk (w9) w.heap.size 38 [.int .i64 4, .int .u64 a, .int .u64 (b), .int .u64 (c)]) := HR9.out
          have HBz : Hid (Below w.heap.size w (w9)) := HB9.out
          have hRd := genRead_any l m _ hls (FK.out _ HBz.out) (FM.out _ HBz.out)
          rw [hrd] at hRd
          have HRd := Lib.hid hRd
          clear hrd hls hRd
          go_wp2_with fail
          refine HRd.out.mono ?_
          rintro e w10 ⟨rfl, hb10⟩
          have HB10 : Hid (Below w.heap.size w w10) := HBz.out.trans (hb10.mono HBz.out.size)
          obtain ⟨r0, r1, r2, r3⟩ := cellsOfBlk4 ((Upd.of_below (S := fun _ => False) hb10).blk (fun q => q) HRz.out)
          have hlt10 : w.heap.size < w10.heap.size := World.block_lt_of_cell? w10 _ r0
          clear hb10 HRd q0 q1 q2 f2 f3
          go_wp2
          go_ret
          exact ⟨rfl, (HB10.out.alloc HB10.out.size _)⟩
        · skip
          have hkw8 : Blk ((w6.alloc (.cells #[.string ⟨#[]⟩, .string ⟨#[99, 111, 110, 115, 116, 32]⟩, .string ⟨#[108, 105, 110, 101, 32]⟩, .string ⟨#[112, 111, 119, 101, 114, 32]⟩, .string ⟨#[99, 104, 97, 105, 110, 32]⟩, .string ⟨#[112, 117, 108, 115, 101, 32]⟩] 43)).alloc (.cells #[.int .i64 0, .int .i64 1, .int .i64 2, .int .i64 2, .int .i64 3, .int .i64 3] 44)) w6.heap.size 43 [.string ⟨#[]⟩, .string ⟨#[99, 111, 110, 115, 116, 32]⟩, .string ⟨#[108, 105, 110, 101, 32]⟩, .string ⟨#[112, 111, 119, 101, 114, 32]⟩, .string ⟨#[99, 104, 97, 105, 110, 32]⟩, .string ⟨#[112, 117, 108, 115, 101, 32]⟩] := (Blk.new w6 _ _).alloc _
          have hkn8 : Blk ((w6.alloc (.cells #[.string ⟨#[]⟩, .string ⟨#[99, 111, 110, 115, 116, 32]⟩, .string ⟨#[108, 105, 110, 101, 32]⟩, .string ⟨#[112, 111, 119, 101, 114, 32]⟩, .string ⟨#[99, 104, 97, 105, 110, 32]⟩, .string ⟨#[112, 117, 108, 115, 101, 32]⟩] 43)).alloc (.cells #[.int .i64 0, .int .i64 1, .int .i64 2, .int .i64 2, .int .i64 3, .int .i64 3] 44)) (w6.heap.size + 1) 44 [.int .i64 0, .int .i64 1, .int .i64 2, .int .i64 2, .int .i64 3, .int .i64 3] := by
            have := Blk.new (w6.alloc (.cells #[.string ⟨#[]⟩, .string ⟨#[99, 111, 110, 115, 116, 32]⟩, .string ⟨#[108, 105, 110, 101, 32]⟩, .string ⟨#[112, 111, 119, 101, 114, 32]⟩, .string ⟨#[99, 104, 97, 105, 110, 32]⟩, .string ⟨#[112, 117, 108, 115, 101, 32]⟩] 43)) 44 [.int .i64 0, .int .i64 1, .int .i64 2, .int .i64 2, .int .i64 3, .int .i64 3]
            rwa [show (w6.alloc (.cells #[.string ⟨#[]⟩, .string ⟨#[99, 111, 110, 115, 116, 32]⟩, .string ⟨#[108, 105, 110, 101, 32]⟩, .string ⟨#[112, 111, 119, 101, 114, 32]⟩, .string ⟨#[99, 104, 97, 105, 110, 32]⟩, .string ⟨#[112, 117, 108, 115, 101, 32]⟩] 43)).heap.size = w6.heap.size + 1 by simp] at this
          have hr8 := ((HR6.out.alloc (.cells #[.string ⟨#[]⟩, .string ⟨#[99, 111, 110, 115, 116, 32]⟩, .string ⟨#[108, 105, 110, 101, 32]⟩, .string ⟨#[112, 111, 119, 101, 114, 32]⟩, .string ⟨#[99, 104, 97, 105, 110, 32]⟩, .string ⟨#[112, 117, 108, 115, 101, 32]⟩] 43)).alloc (.cells #[.int .i64 0, .int .i64 1, .int .i64 2, .int .i64 2, .int .i64 3, .int .i64 3] 44))
          have hb8 := (HB6.out.alloc HB6.out.size (.cells #[.string ⟨#[]⟩, .string ⟨#[99, 111, 110, 115, 116, 32]⟩, .string ⟨#[108, 105, 110, 101, 32]⟩, .string ⟨#[112, 111, 119, 101, 114, 32]⟩, .string ⟨#[99, 104, 97, 105, 110, 32]⟩, .string ⟨#[112, 117, 108, 115, 101, 32]⟩] 43)).alloc (by have := HB6.out.size; simp; omega) (.cells #[.int .i64 0, .int .i64 1, .int .i64 2, .int .i64 2, .int .i64 3, .int .i64 3] 44)
          generalize (w6.alloc (.cells #[.string ⟨#[]⟩, .string ⟨#[99, 111, 110, 115, 116, 32]⟩, .string ⟨#[108, 105, 110, 101, 32]⟩, .string ⟨#[112, 111, 119, 101, 114, 32]⟩, .string ⟨#[99, 104, 97, 105, 110, 32]⟩, .string ⟨#[112, 117, 108, 115, 101, 32]⟩] 43)).alloc (.cells #[.int .i64 0, .int .i64 1, .int .i64 2, .int .i64 2, .int .i64 3, .int .i64 3] 44) = w8 at *
          obtain ⟨r0, r1, r2, r3⟩ := cellsOfBlk4 hr8
          have q0 : w8.cell? ⟨w6.heap.size, 5, none⟩ = some (.string ⟨#[112, 117, 108, 115, 101, 32]⟩) := hkw8.cell 5
          have q1 : w8.cell? ⟨w6.heap.size + 1, 5, none⟩ = some (.int .i64 3) := hkn8.cell 5
          have HB8 := Lib.hid hb8
          have HR8 := Lib.hid hr8
          have HN8 := Lib.hid hkn8
          clear hkw8 hkn8 hb8 hr8
          obtain ⟨T, hT⟩ : ∃ T : ByteArray, T = ⟨(Lib.join (([a, b, c].take 3).map fun x => Lib.decDigits x.toNat) [32]).toArray⟩ := ⟨_, rfl⟩
          have hTx := refText_any (some ⟨w8.heap.size, 0, none⟩) 3 3 ([a, b, c].take 3) _ (rdTake w8.drew a b c 3 (by omega)) (by omega) (fun x hx => HW.out x (List.mem_of_mem_take hx))
          rw [← hT] at hTx
          have HTx := Lib.hid hTx
          have hTs : T.size ≤ 140737488355328 := by rw [hT]; exact join_len ([a, b, c].take 3) (by simp <;> omega) (fun x hx => HW.out x (List.mem_of_mem_take hx))
          have hadd := fun W => run_string_add_sum (P := Tryd.prog) W ⟨#[112, 117, 108, 115, 101, 32]⟩ T (by show 6 + T.size ≤ _; omega)
          have hE : (⟨#[112, 117, 108, 115, 101, 32]⟩ : ByteArray) ++ T = l := by
            rw [HLL.out, hT]; apply ByteArray.ext; rw [ByteArray.data_append]; simp [lineL, kWord, kNum, textL]
          rw [hE] at hadd
          clear hTx hT hTs hE
          go_region_held3 (fun w' => w'.cell? ⟨w6.heap.size, 5, none⟩ = some (.string ⟨#[112, 117, 108, 115, 101, 32]⟩) ∧ w'.cell? ⟨w6.heap.size + 1, 5, none⟩ = some (.int .i64 3) ∧ w'.cell? ⟨w.heap.size, 0, none⟩ = some (.int .i64 5) ∧ w'.cell? ⟨w.heap.size, 1, none⟩ = some (.int .u64 a) ∧ w'.cell? ⟨w.heap.size, 2, none⟩ = some (.int .u64 b) ∧ w'.cell? ⟨w.heap.size, 3, none⟩ = some (.int .u64 c)) (first | exact ⟨keep_cell hb9 q0, keep_cell hb9 q1, keep_cell hb9 r0, keep_cell hb9 r1, keep_cell hb9 r2, keep_cell hb9 r3⟩ | go_keep)
            ((go_at_call 16; refine HTx.out.mono ?_; rintro e w9 ⟨rfl, hb9⟩))
          have hu9 : Upd (fun _ => False) w8 w9 := (((Upd.refl _ _).drew).alloc _).trans (.of_below hb9)
          have HR9 := Lib.hid (hu9.blk (fun q => q) HR8.out)
          have hn9 := hu9.blk (fun q => q) HN8.out
          have HB9 : Hid (Below w.heap.size w w9) := HB8.out.trans (hu9.below.mono HB8.out.size)
          have q1 : w9.cell? ⟨w6.heap.size + 1, 5, none⟩ = some (.int .i64 3) := hn9.cell 5
          have hn9' : Blk (w9.setCell ⟨w.heap.size, 3, none⟩ (.int .u64 0)) (w6.heap.size + 1) 44 _ := hn9.setCell_ne (by have := HR6.out.lt; show w6.heap.size + 1 ≠ w.heap.size; omega) _
          have q2 : (w9.setCell ⟨w.heap.size, 3, none⟩ (.int .u64 0)).cell? ⟨w6.heap.size + 1, 5, none⟩ = some (.int .i64 3) := hn9'.cell 5
          obtain ⟨r0, r1, r2, r3⟩ := cellsOfBlk4 HR9.out
          have f2 : w9.frozen? ⟨w.heap.size, 2, none⟩ = false := HR9.out.frozen 2
          have f3 : w9.frozen? ⟨w.heap.size, 3, none⟩ = false := HR9.out.frozen 3
          clear hb9 hu9 hn9 hn9' HTx hadd HR8 HN8 HB8
          have hrd : readRule l = ((5, a, b, c), 0) := by
            rw [HLL.out, readRule_line 5 a b c HGG.out ⟨(HW.out a (by simp)).1, (HW.out b (by simp)).1, (HW.out c (by simp)).1⟩]; rfl
          have hls : l.size ≤ 1000000 := by rw [HLL.out]; exact lineL_size _ _ _ _ HW.out (by decide)
          have HRz : Hid (Blk (w9) w.heap.size 38 [.int .i64 5, .int .u64 a, .int .u64 (b), .int .u64 (c)]) := HR9.out
          have HBz : Hid (Below w.heap.size w (w9)) := HB9.out
          have hRd := genRead_any l m _ hls (FK.out _ HBz.out) (FM.out _ HBz.out)
          rw [hrd] at hRd
          have HRd := Lib.hid hRd
          clear hrd hls hRd
          go_wp2_with fail
          refine HRd.out.mono ?_
          rintro e w10 ⟨rfl, hb10⟩
          have HB10 : Hid (Below w.heap.size w w10) := HBz.out.trans (hb10.mono HBz.out.size)
          obtain ⟨r0, r1, r2, r3⟩ := cellsOfBlk4 ((Upd.of_below (S := fun _ => False) hb10).blk (fun q => q) HRz.out)
          have hlt10 : w.heap.size < w10.heap.size := World.block_lt_of_cell? w10 _ r0
          clear hb10 HRd q0 q1 q2 f2 f3
          go_wp2
          go_ret
          exact ⟨rfl, (HB10.out.alloc HB10.out.size _)⟩
      · have hgf : goodB k a b c = false := by simpa using hg
        have HLL : Hid (l = ⟨#[]⟩) := by show _ = _; rw [HL.out, if_neg hg]
        have hG := fun W => ref38Good_any k a b c W
        rw [hgf] at hG
        have HG := Lib.hid hG
        clear hg hG hgf HL
        go_wp2_with fail
        refine (HG.out _).mono ?_
        rintro e w6 ⟨rfl, hb6⟩
        have HB6 : Hid (Below w.heap.size w w6) := HBq.out.trans (hb6.mono HBq.out.size)
        rw [HLL.out]
        clear hb6 r0 r1 r2 r3 HG
        go_wp2
        go_ret
        exact ⟨rfl, HB6.out⟩
    · have hx0 := readRule_no s (by rw [← HX.out]; exact hE)
      rw [← HX.out] at hx0
      have hE2 : (E != 0) = true := by rw [bne_iff_ne]; exact hE
      have hE3 : (E == 0) = false := by rw [beq_eq_false_iff_ne]; exact hE
      injection hx0 with x0 hx0
      injection hx0 with x1 hx0
      injection hx0 with x2 x3
      subst x0
      subst x1
      subst x2
      subst x3
      have HBq : Hid (Below w.heap.size w (w3.alloc (.cells #[.int .i64 0, .int .u64 0, .int .u64 0, .int .u64 0] 38))) := HB3.out.alloc HB3.out.size _
      have HRq := Lib.hid (HR3.out.alloc (.cells #[.int .i64 0, .int .u64 0, .int .u64 0, .int .u64 0] 38))
      clear HR3 HB3 hE
      obtain ⟨r0, r1, r2, r3⟩ := cellsOfBlk4 HRq.out
      by_cases hg : goodB k a b c = true
      · have HLL : Hid (l = lineL k a b c) := by show _ = _; rw [HL.out, if_pos hg]
        have hG := fun W => ref38Good_any k a b c W
        rw [hg] at hG
        have HG := Lib.hid hG
        have HGG := Lib.hid hg
        clear hg hG HL
        go_wp2_with fail
        refine (HG.out _).mono ?_
        rintro e w6 ⟨rfl, hb6⟩
        have HB6 : Hid (Below w.heap.size w w6) := HBq.out.trans (hb6.mono HBq.out.size)
        have HR6 : Hid (Blk w6 w.heap.size 38 [.int .i64 k, .int .u64 a, .int .u64 b, .int .u64 c]) := (Upd.of_below (S := fun _ => False) hb6).blk (fun q => q) HRq.out
        clear hb6 r0 r1 r2 r3 HG
        go_wp2_with fail
        rcases (show k = 1 ∨ k = 2 ∨ k = 3 ∨ k = 4 ∨ k = 5 by have := HGG.out; unfold goodB at this; simp at this; omega) with rfl | rfl | rfl | rfl | rfl
        · skip
          have hkw8 : Blk ((w6.alloc (.cells #[.string ⟨#[]⟩, .string ⟨#[99, 111, 110, 115, 116, 32]⟩, .string ⟨#[108, 105, 110, 101, 32]⟩, .string ⟨#[112, 111, 119, 101, 114, 32]⟩, .string ⟨#[99, 104, 97, 105, 110, 32]⟩, .string ⟨#[112, 117, 108, 115, 101, 32]⟩] 43)).alloc (.cells #[.int .i64 0, .int .i64 1, .int .i64 2, .int .i64 2, .int .i64 3, .int .i64 3] 44)) w6.heap.size 43 [.string ⟨#[]⟩, .string ⟨#[99, 111, 110, 115, 116, 32]⟩, .string ⟨#[108, 105, 110, 101, 32]⟩, .string ⟨#[112, 111, 119, 101, 114, 32]⟩, .string ⟨#[99, 104, 97, 105, 110, 32]⟩, .string ⟨#[112, 117, 108, 115, 101, 32]⟩] := (Blk.new w6 _ _).alloc _
          have hkn8 : Blk ((w6.alloc (.cells #[.string ⟨#[]⟩, .string ⟨#[99, 111, 110, 115, 116, 32]⟩, .string ⟨#[108, 105, 110, 101, 32]⟩, .string ⟨#[112, 111, 119, 101, 114, 32]⟩, .string ⟨#[99, 104, 97, 105, 110, 32]⟩, .string ⟨#[112, 117, 108, 115, 101, 32]⟩] 43)).alloc (.cells #[.int .i64 0, .int .i64 1, .int .i64 2, .int .i64 2, .int .i64 3, .int .i64 3] 44)) (w6.heap.size + 1) 44 [.int .i64 0, .int .i64 1, .int .i64 2, .int .i64 2, .int .i64 3, .int .i64 3] := by
            have := Blk.new (w6.alloc (.cells #[.string ⟨#[]⟩, .string ⟨#[99, 111, 110, 115, 116, 32]⟩, .string ⟨#[108, 105, 110, 101, 32]⟩, .string ⟨#[112, 111, 119, 101, 114, 32]⟩, .string ⟨#[99, 104, 97, 105, 110, 32]⟩, .string ⟨#[112, 117, 108, 115, 101, 32]⟩] 43)) 44 [.int .i64 0, .int .i64 1, .int .i64 2, .int .i64 2, .int .i64 3, .int .i64 3]
            rwa [show (w6.alloc (.cells #[.string ⟨#[]⟩, .string ⟨#[99, 111, 110, 115, 116, 32]⟩, .string ⟨#[108, 105, 110, 101, 32]⟩, .string ⟨#[112, 111, 119, 101, 114, 32]⟩, .string ⟨#[99, 104, 97, 105, 110, 32]⟩, .string ⟨#[112, 117, 108, 115, 101, 32]⟩] 43)).heap.size = w6.heap.size + 1 by simp] at this
          have hr8 := ((HR6.out.alloc (.cells #[.string ⟨#[]⟩, .string ⟨#[99, 111, 110, 115, 116, 32]⟩, .string ⟨#[108, 105, 110, 101, 32]⟩, .string ⟨#[112, 111, 119, 101, 114, 32]⟩, .string ⟨#[99, 104, 97, 105, 110, 32]⟩, .string ⟨#[112, 117, 108, 115, 101, 32]⟩] 43)).alloc (.cells #[.int .i64 0, .int .i64 1, .int .i64 2, .int .i64 2, .int .i64 3, .int .i64 3] 44))
          have hb8 := (HB6.out.alloc HB6.out.size (.cells #[.string ⟨#[]⟩, .string ⟨#[99, 111, 110, 115, 116, 32]⟩, .string ⟨#[108, 105, 110, 101, 32]⟩, .string ⟨#[112, 111, 119, 101, 114, 32]⟩, .string ⟨#[99, 104, 97, 105, 110, 32]⟩, .string ⟨#[112, 117, 108, 115, 101, 32]⟩] 43)).alloc (by have := HB6.out.size; simp; omega) (.cells #[.int .i64 0, .int .i64 1, .int .i64 2, .int .i64 2, .int .i64 3, .int .i64 3] 44)
          generalize (w6.alloc (.cells #[.string ⟨#[]⟩, .string ⟨#[99, 111, 110, 115, 116, 32]⟩, .string ⟨#[108, 105, 110, 101, 32]⟩, .string ⟨#[112, 111, 119, 101, 114, 32]⟩, .string ⟨#[99, 104, 97, 105, 110, 32]⟩, .string ⟨#[112, 117, 108, 115, 101, 32]⟩] 43)).alloc (.cells #[.int .i64 0, .int .i64 1, .int .i64 2, .int .i64 2, .int .i64 3, .int .i64 3] 44) = w8 at *
          obtain ⟨r0, r1, r2, r3⟩ := cellsOfBlk4 hr8
          have q0 : w8.cell? ⟨w6.heap.size, 1, none⟩ = some (.string ⟨#[99, 111, 110, 115, 116, 32]⟩) := hkw8.cell 1
          have q1 : w8.cell? ⟨w6.heap.size + 1, 1, none⟩ = some (.int .i64 1) := hkn8.cell 1
          have HB8 := Lib.hid hb8
          have HR8 := Lib.hid hr8
          have HN8 := Lib.hid hkn8
          clear hkw8 hkn8 hb8 hr8
          obtain ⟨T, hT⟩ : ∃ T : ByteArray, T = ⟨(Lib.join (([a, b, c].take 1).map fun x => Lib.decDigits x.toNat) [32]).toArray⟩ := ⟨_, rfl⟩
          have hTx := refText_any (some ⟨w8.heap.size, 0, none⟩) 1 3 ([a, b, c].take 1) _ (rdTake w8.drew a b c 1 (by omega)) (by omega) (fun x hx => HW.out x (List.mem_of_mem_take hx))
          rw [← hT] at hTx
          have HTx := Lib.hid hTx
          have hTs : T.size ≤ 140737488355328 := by rw [hT]; exact join_len ([a, b, c].take 1) (by simp <;> omega) (fun x hx => HW.out x (List.mem_of_mem_take hx))
          have hadd := fun W => run_string_add_sum (P := Tryd.prog) W ⟨#[99, 111, 110, 115, 116, 32]⟩ T (by show 6 + T.size ≤ _; omega)
          have hE : (⟨#[99, 111, 110, 115, 116, 32]⟩ : ByteArray) ++ T = l := by
            rw [HLL.out, hT]; apply ByteArray.ext; rw [ByteArray.data_append]; simp [lineL, kWord, kNum, textL]
          rw [hE] at hadd
          clear hTx hT hTs hE
          go_region_held3 (fun w' => w'.cell? ⟨w6.heap.size, 1, none⟩ = some (.string ⟨#[99, 111, 110, 115, 116, 32]⟩) ∧ w'.cell? ⟨w6.heap.size + 1, 1, none⟩ = some (.int .i64 1) ∧ w'.cell? ⟨w.heap.size, 0, none⟩ = some (.int .i64 1) ∧ w'.cell? ⟨w.heap.size, 1, none⟩ = some (.int .u64 a) ∧ w'.cell? ⟨w.heap.size, 2, none⟩ = some (.int .u64 b) ∧ w'.cell? ⟨w.heap.size, 3, none⟩ = some (.int .u64 c)) (first | exact ⟨keep_cell hb9 q0, keep_cell hb9 q1, keep_cell hb9 r0, keep_cell hb9 r1, keep_cell hb9 r2, keep_cell hb9 r3⟩ | go_keep)
            ((go_at_call 16; refine HTx.out.mono ?_; rintro e w9 ⟨rfl, hb9⟩))
          have hu9 : Upd (fun _ => False) w8 w9 := (((Upd.refl _ _).drew).alloc _).trans (.of_below hb9)
          have HR9 := Lib.hid (hu9.blk (fun q => q) HR8.out)
          have hn9 := hu9.blk (fun q => q) HN8.out
          have HB9 : Hid (Below w.heap.size w w9) := HB8.out.trans (hu9.below.mono HB8.out.size)
          have q1 : w9.cell? ⟨w6.heap.size + 1, 1, none⟩ = some (.int .i64 1) := hn9.cell 1
          have hn9' : Blk (w9.setCell ⟨w.heap.size, 3, none⟩ (.int .u64 0)) (w6.heap.size + 1) 44 _ := hn9.setCell_ne (by have := HR6.out.lt; show w6.heap.size + 1 ≠ w.heap.size; omega) _
          have q2 : (w9.setCell ⟨w.heap.size, 3, none⟩ (.int .u64 0)).cell? ⟨w6.heap.size + 1, 1, none⟩ = some (.int .i64 1) := hn9'.cell 1
          obtain ⟨r0, r1, r2, r3⟩ := cellsOfBlk4 HR9.out
          have f2 : w9.frozen? ⟨w.heap.size, 2, none⟩ = false := HR9.out.frozen 2
          have f3 : w9.frozen? ⟨w.heap.size, 3, none⟩ = false := HR9.out.frozen 3
          clear hb9 hu9 hn9 hn9' HTx hadd HR8 HN8 HB8
          have hrd : readRule l = ((1, a, 0, 0), 0) := by
            rw [HLL.out, readRule_line 1 a b c HGG.out ⟨(HW.out a (by simp)).1, (HW.out b (by simp)).1, (HW.out c (by simp)).1⟩]; rfl
          have hls : l.size ≤ 1000000 := by rw [HLL.out]; exact lineL_size _ _ _ _ HW.out (by decide)
          have HRz : Hid (Blk (((w9).setCell ⟨w.heap.size, 3, none⟩ (.int .u64 0)).setCell ⟨w.heap.size, 2, none⟩ (.int .u64 0)) w.heap.size 38 [.int .i64 1, .int .u64 a, .int .u64 (0), .int .u64 (0)]) := ((HR9.out).setCell 3 (.int .u64 0)).setCell 2 (.int .u64 0)
          have HBz : Hid (Below w.heap.size w (((w9).setCell ⟨w.heap.size, 3, none⟩ (.int .u64 0)).setCell ⟨w.heap.size, 2, none⟩ (.int .u64 0))) := Below.setCell (Below.setCell (HB9.out) (Nat.le_refl _) _) (Nat.le_refl _) _
          have hRd := genRead_any l m _ hls (FK.out _ HBz.out) (FM.out _ HBz.out)
          rw [hrd] at hRd
          have HRd := Lib.hid hRd
          clear hrd hls hRd
          go_wp2_with fail
          refine HRd.out.mono ?_
          rintro e w10 ⟨rfl, hb10⟩
          have HB10 : Hid (Below w.heap.size w w10) := HBz.out.trans (hb10.mono HBz.out.size)
          obtain ⟨r0, r1, r2, r3⟩ := cellsOfBlk4 ((Upd.of_below (S := fun _ => False) hb10).blk (fun q => q) HRz.out)
          have hlt10 : w.heap.size < w10.heap.size := World.block_lt_of_cell? w10 _ r0
          clear hb10 HRd q0 q1 q2 f2 f3
          go_wp2
          go_ret
          exact ⟨rfl, (HB10.out.alloc HB10.out.size _)⟩
        · skip
          have hkw8 : Blk ((w6.alloc (.cells #[.string ⟨#[]⟩, .string ⟨#[99, 111, 110, 115, 116, 32]⟩, .string ⟨#[108, 105, 110, 101, 32]⟩, .string ⟨#[112, 111, 119, 101, 114, 32]⟩, .string ⟨#[99, 104, 97, 105, 110, 32]⟩, .string ⟨#[112, 117, 108, 115, 101, 32]⟩] 43)).alloc (.cells #[.int .i64 0, .int .i64 1, .int .i64 2, .int .i64 2, .int .i64 3, .int .i64 3] 44)) w6.heap.size 43 [.string ⟨#[]⟩, .string ⟨#[99, 111, 110, 115, 116, 32]⟩, .string ⟨#[108, 105, 110, 101, 32]⟩, .string ⟨#[112, 111, 119, 101, 114, 32]⟩, .string ⟨#[99, 104, 97, 105, 110, 32]⟩, .string ⟨#[112, 117, 108, 115, 101, 32]⟩] := (Blk.new w6 _ _).alloc _
          have hkn8 : Blk ((w6.alloc (.cells #[.string ⟨#[]⟩, .string ⟨#[99, 111, 110, 115, 116, 32]⟩, .string ⟨#[108, 105, 110, 101, 32]⟩, .string ⟨#[112, 111, 119, 101, 114, 32]⟩, .string ⟨#[99, 104, 97, 105, 110, 32]⟩, .string ⟨#[112, 117, 108, 115, 101, 32]⟩] 43)).alloc (.cells #[.int .i64 0, .int .i64 1, .int .i64 2, .int .i64 2, .int .i64 3, .int .i64 3] 44)) (w6.heap.size + 1) 44 [.int .i64 0, .int .i64 1, .int .i64 2, .int .i64 2, .int .i64 3, .int .i64 3] := by
            have := Blk.new (w6.alloc (.cells #[.string ⟨#[]⟩, .string ⟨#[99, 111, 110, 115, 116, 32]⟩, .string ⟨#[108, 105, 110, 101, 32]⟩, .string ⟨#[112, 111, 119, 101, 114, 32]⟩, .string ⟨#[99, 104, 97, 105, 110, 32]⟩, .string ⟨#[112, 117, 108, 115, 101, 32]⟩] 43)) 44 [.int .i64 0, .int .i64 1, .int .i64 2, .int .i64 2, .int .i64 3, .int .i64 3]
            rwa [show (w6.alloc (.cells #[.string ⟨#[]⟩, .string ⟨#[99, 111, 110, 115, 116, 32]⟩, .string ⟨#[108, 105, 110, 101, 32]⟩, .string ⟨#[112, 111, 119, 101, 114, 32]⟩, .string ⟨#[99, 104, 97, 105, 110, 32]⟩, .string ⟨#[112, 117, 108, 115, 101, 32]⟩] 43)).heap.size = w6.heap.size + 1 by simp] at this
          have hr8 := ((HR6.out.alloc (.cells #[.string ⟨#[]⟩, .string ⟨#[99, 111, 110, 115, 116, 32]⟩, .string ⟨#[108, 105, 110, 101, 32]⟩, .string ⟨#[112, 111, 119, 101, 114, 32]⟩, .string ⟨#[99, 104, 97, 105, 110, 32]⟩, .string ⟨#[112, 117, 108, 115, 101, 32]⟩] 43)).alloc (.cells #[.int .i64 0, .int .i64 1, .int .i64 2, .int .i64 2, .int .i64 3, .int .i64 3] 44))
          have hb8 := (HB6.out.alloc HB6.out.size (.cells #[.string ⟨#[]⟩, .string ⟨#[99, 111, 110, 115, 116, 32]⟩, .string ⟨#[108, 105, 110, 101, 32]⟩, .string ⟨#[112, 111, 119, 101, 114, 32]⟩, .string ⟨#[99, 104, 97, 105, 110, 32]⟩, .string ⟨#[112, 117, 108, 115, 101, 32]⟩] 43)).alloc (by have := HB6.out.size; simp; omega) (.cells #[.int .i64 0, .int .i64 1, .int .i64 2, .int .i64 2, .int .i64 3, .int .i64 3] 44)
          generalize (w6.alloc (.cells #[.string ⟨#[]⟩, .string ⟨#[99, 111, 110, 115, 116, 32]⟩, .string ⟨#[108, 105, 110, 101, 32]⟩, .string ⟨#[112, 111, 119, 101, 114, 32]⟩, .string ⟨#[99, 104, 97, 105, 110, 32]⟩, .string ⟨#[112, 117, 108, 115, 101, 32]⟩] 43)).alloc (.cells #[.int .i64 0, .int .i64 1, .int .i64 2, .int .i64 2, .int .i64 3, .int .i64 3] 44) = w8 at *
          obtain ⟨r0, r1, r2, r3⟩ := cellsOfBlk4 hr8
          have q0 : w8.cell? ⟨w6.heap.size, 2, none⟩ = some (.string ⟨#[108, 105, 110, 101, 32]⟩) := hkw8.cell 2
          have q1 : w8.cell? ⟨w6.heap.size + 1, 2, none⟩ = some (.int .i64 2) := hkn8.cell 2
          have HB8 := Lib.hid hb8
          have HR8 := Lib.hid hr8
          have HN8 := Lib.hid hkn8
          clear hkw8 hkn8 hb8 hr8
          obtain ⟨T, hT⟩ : ∃ T : ByteArray, T = ⟨(Lib.join (([a, b, c].take 2).map fun x => Lib.decDigits x.toNat) [32]).toArray⟩ := ⟨_, rfl⟩
          have hTx := refText_any (some ⟨w8.heap.size, 0, none⟩) 2 3 ([a, b, c].take 2) _ (rdTake w8.drew a b c 2 (by omega)) (by omega) (fun x hx => HW.out x (List.mem_of_mem_take hx))
          rw [← hT] at hTx
          have HTx := Lib.hid hTx
          have hTs : T.size ≤ 140737488355328 := by rw [hT]; exact join_len ([a, b, c].take 2) (by simp <;> omega) (fun x hx => HW.out x (List.mem_of_mem_take hx))
          have hadd := fun W => run_string_add_sum (P := Tryd.prog) W ⟨#[108, 105, 110, 101, 32]⟩ T (by show 5 + T.size ≤ _; omega)
          have hE : (⟨#[108, 105, 110, 101, 32]⟩ : ByteArray) ++ T = l := by
            rw [HLL.out, hT]; apply ByteArray.ext; rw [ByteArray.data_append]; simp [lineL, kWord, kNum, textL]
          rw [hE] at hadd
          clear hTx hT hTs hE
          go_region_held3 (fun w' => w'.cell? ⟨w6.heap.size, 2, none⟩ = some (.string ⟨#[108, 105, 110, 101, 32]⟩) ∧ w'.cell? ⟨w6.heap.size + 1, 2, none⟩ = some (.int .i64 2) ∧ w'.cell? ⟨w.heap.size, 0, none⟩ = some (.int .i64 2) ∧ w'.cell? ⟨w.heap.size, 1, none⟩ = some (.int .u64 a) ∧ w'.cell? ⟨w.heap.size, 2, none⟩ = some (.int .u64 b) ∧ w'.cell? ⟨w.heap.size, 3, none⟩ = some (.int .u64 c)) (first | exact ⟨keep_cell hb9 q0, keep_cell hb9 q1, keep_cell hb9 r0, keep_cell hb9 r1, keep_cell hb9 r2, keep_cell hb9 r3⟩ | go_keep)
            ((go_at_call 16; refine HTx.out.mono ?_; rintro e w9 ⟨rfl, hb9⟩))
          have hu9 : Upd (fun _ => False) w8 w9 := (((Upd.refl _ _).drew).alloc _).trans (.of_below hb9)
          have HR9 := Lib.hid (hu9.blk (fun q => q) HR8.out)
          have hn9 := hu9.blk (fun q => q) HN8.out
          have HB9 : Hid (Below w.heap.size w w9) := HB8.out.trans (hu9.below.mono HB8.out.size)
          have q1 : w9.cell? ⟨w6.heap.size + 1, 2, none⟩ = some (.int .i64 2) := hn9.cell 2
          have hn9' : Blk (w9.setCell ⟨w.heap.size, 3, none⟩ (.int .u64 0)) (w6.heap.size + 1) 44 _ := hn9.setCell_ne (by have := HR6.out.lt; show w6.heap.size + 1 ≠ w.heap.size; omega) _
          have q2 : (w9.setCell ⟨w.heap.size, 3, none⟩ (.int .u64 0)).cell? ⟨w6.heap.size + 1, 2, none⟩ = some (.int .i64 2) := hn9'.cell 2
          obtain ⟨r0, r1, r2, r3⟩ := cellsOfBlk4 HR9.out
          have f2 : w9.frozen? ⟨w.heap.size, 2, none⟩ = false := HR9.out.frozen 2
          have f3 : w9.frozen? ⟨w.heap.size, 3, none⟩ = false := HR9.out.frozen 3
          clear hb9 hu9 hn9 hn9' HTx hadd HR8 HN8 HB8
          have hrd : readRule l = ((2, a, b, 0), 0) := by
            rw [HLL.out, readRule_line 2 a b c HGG.out ⟨(HW.out a (by simp)).1, (HW.out b (by simp)).1, (HW.out c (by simp)).1⟩]; rfl
          have hls : l.size ≤ 1000000 := by rw [HLL.out]; exact lineL_size _ _ _ _ HW.out (by decide)
          have HRz : Hid (Blk ((w9).setCell ⟨w.heap.size, 3, none⟩ (.int .u64 0)) w.heap.size 38 [.int .i64 2, .int .u64 a, .int .u64 (b), .int .u64 (0)]) := (HR9.out).setCell 3 (.int .u64 0)
          have HBz : Hid (Below w.heap.size w ((w9).setCell ⟨w.heap.size, 3, none⟩ (.int .u64 0))) := Below.setCell (HB9.out) (Nat.le_refl _) _
          have hRd := genRead_any l m _ hls (FK.out _ HBz.out) (FM.out _ HBz.out)
          rw [hrd] at hRd
          have HRd := Lib.hid hRd
          clear hrd hls hRd
          go_wp2_with fail
          refine HRd.out.mono ?_
          rintro e w10 ⟨rfl, hb10⟩
          have HB10 : Hid (Below w.heap.size w w10) := HBz.out.trans (hb10.mono HBz.out.size)
          obtain ⟨r0, r1, r2, r3⟩ := cellsOfBlk4 ((Upd.of_below (S := fun _ => False) hb10).blk (fun q => q) HRz.out)
          have hlt10 : w.heap.size < w10.heap.size := World.block_lt_of_cell? w10 _ r0
          clear hb10 HRd q0 q1 q2 f2 f3
          go_wp2
          go_ret
          exact ⟨rfl, (HB10.out.alloc HB10.out.size _)⟩
        · skip
          have hkw8 : Blk ((w6.alloc (.cells #[.string ⟨#[]⟩, .string ⟨#[99, 111, 110, 115, 116, 32]⟩, .string ⟨#[108, 105, 110, 101, 32]⟩, .string ⟨#[112, 111, 119, 101, 114, 32]⟩, .string ⟨#[99, 104, 97, 105, 110, 32]⟩, .string ⟨#[112, 117, 108, 115, 101, 32]⟩] 43)).alloc (.cells #[.int .i64 0, .int .i64 1, .int .i64 2, .int .i64 2, .int .i64 3, .int .i64 3] 44)) w6.heap.size 43 [.string ⟨#[]⟩, .string ⟨#[99, 111, 110, 115, 116, 32]⟩, .string ⟨#[108, 105, 110, 101, 32]⟩, .string ⟨#[112, 111, 119, 101, 114, 32]⟩, .string ⟨#[99, 104, 97, 105, 110, 32]⟩, .string ⟨#[112, 117, 108, 115, 101, 32]⟩] := (Blk.new w6 _ _).alloc _
          have hkn8 : Blk ((w6.alloc (.cells #[.string ⟨#[]⟩, .string ⟨#[99, 111, 110, 115, 116, 32]⟩, .string ⟨#[108, 105, 110, 101, 32]⟩, .string ⟨#[112, 111, 119, 101, 114, 32]⟩, .string ⟨#[99, 104, 97, 105, 110, 32]⟩, .string ⟨#[112, 117, 108, 115, 101, 32]⟩] 43)).alloc (.cells #[.int .i64 0, .int .i64 1, .int .i64 2, .int .i64 2, .int .i64 3, .int .i64 3] 44)) (w6.heap.size + 1) 44 [.int .i64 0, .int .i64 1, .int .i64 2, .int .i64 2, .int .i64 3, .int .i64 3] := by
            have := Blk.new (w6.alloc (.cells #[.string ⟨#[]⟩, .string ⟨#[99, 111, 110, 115, 116, 32]⟩, .string ⟨#[108, 105, 110, 101, 32]⟩, .string ⟨#[112, 111, 119, 101, 114, 32]⟩, .string ⟨#[99, 104, 97, 105, 110, 32]⟩, .string ⟨#[112, 117, 108, 115, 101, 32]⟩] 43)) 44 [.int .i64 0, .int .i64 1, .int .i64 2, .int .i64 2, .int .i64 3, .int .i64 3]
            rwa [show (w6.alloc (.cells #[.string ⟨#[]⟩, .string ⟨#[99, 111, 110, 115, 116, 32]⟩, .string ⟨#[108, 105, 110, 101, 32]⟩, .string ⟨#[112, 111, 119, 101, 114, 32]⟩, .string ⟨#[99, 104, 97, 105, 110, 32]⟩, .string ⟨#[112, 117, 108, 115, 101, 32]⟩] 43)).heap.size = w6.heap.size + 1 by simp] at this
          have hr8 := ((HR6.out.alloc (.cells #[.string ⟨#[]⟩, .string ⟨#[99, 111, 110, 115, 116, 32]⟩, .string ⟨#[108, 105, 110, 101, 32]⟩, .string ⟨#[112, 111, 119, 101, 114, 32]⟩, .string ⟨#[99, 104, 97, 105, 110, 32]⟩, .string ⟨#[112, 117, 108, 115, 101, 32]⟩] 43)).alloc (.cells #[.int .i64 0, .int .i64 1, .int .i64 2, .int .i64 2, .int .i64 3, .int .i64 3] 44))
          have hb8 := (HB6.out.alloc HB6.out.size (.cells #[.string ⟨#[]⟩, .string ⟨#[99, 111, 110, 115, 116, 32]⟩, .string ⟨#[108, 105, 110, 101, 32]⟩, .string ⟨#[112, 111, 119, 101, 114, 32]⟩, .string ⟨#[99, 104, 97, 105, 110, 32]⟩, .string ⟨#[112, 117, 108, 115, 101, 32]⟩] 43)).alloc (by have := HB6.out.size; simp; omega) (.cells #[.int .i64 0, .int .i64 1, .int .i64 2, .int .i64 2, .int .i64 3, .int .i64 3] 44)
          generalize (w6.alloc (.cells #[.string ⟨#[]⟩, .string ⟨#[99, 111, 110, 115, 116, 32]⟩, .string ⟨#[108, 105, 110, 101, 32]⟩, .string ⟨#[112, 111, 119, 101, 114, 32]⟩, .string ⟨#[99, 104, 97, 105, 110, 32]⟩, .string ⟨#[112, 117, 108, 115, 101, 32]⟩] 43)).alloc (.cells #[.int .i64 0, .int .i64 1, .int .i64 2, .int .i64 2, .int .i64 3, .int .i64 3] 44) = w8 at *
          obtain ⟨r0, r1, r2, r3⟩ := cellsOfBlk4 hr8
          have q0 : w8.cell? ⟨w6.heap.size, 3, none⟩ = some (.string ⟨#[112, 111, 119, 101, 114, 32]⟩) := hkw8.cell 3
          have q1 : w8.cell? ⟨w6.heap.size + 1, 3, none⟩ = some (.int .i64 2) := hkn8.cell 3
          have HB8 := Lib.hid hb8
          have HR8 := Lib.hid hr8
          have HN8 := Lib.hid hkn8
          clear hkw8 hkn8 hb8 hr8
          obtain ⟨T, hT⟩ : ∃ T : ByteArray, T = ⟨(Lib.join (([a, b, c].take 2).map fun x => Lib.decDigits x.toNat) [32]).toArray⟩ := ⟨_, rfl⟩
          have hTx := refText_any (some ⟨w8.heap.size, 0, none⟩) 2 3 ([a, b, c].take 2) _ (rdTake w8.drew a b c 2 (by omega)) (by omega) (fun x hx => HW.out x (List.mem_of_mem_take hx))
          rw [← hT] at hTx
          have HTx := Lib.hid hTx
          have hTs : T.size ≤ 140737488355328 := by rw [hT]; exact join_len ([a, b, c].take 2) (by simp <;> omega) (fun x hx => HW.out x (List.mem_of_mem_take hx))
          have hadd := fun W => run_string_add_sum (P := Tryd.prog) W ⟨#[112, 111, 119, 101, 114, 32]⟩ T (by show 6 + T.size ≤ _; omega)
          have hE : (⟨#[112, 111, 119, 101, 114, 32]⟩ : ByteArray) ++ T = l := by
            rw [HLL.out, hT]; apply ByteArray.ext; rw [ByteArray.data_append]; simp [lineL, kWord, kNum, textL]
          rw [hE] at hadd
          clear hTx hT hTs hE
          go_region_held3 (fun w' => w'.cell? ⟨w6.heap.size, 3, none⟩ = some (.string ⟨#[112, 111, 119, 101, 114, 32]⟩) ∧ w'.cell? ⟨w6.heap.size + 1, 3, none⟩ = some (.int .i64 2) ∧ w'.cell? ⟨w.heap.size, 0, none⟩ = some (.int .i64 3) ∧ w'.cell? ⟨w.heap.size, 1, none⟩ = some (.int .u64 a) ∧ w'.cell? ⟨w.heap.size, 2, none⟩ = some (.int .u64 b) ∧ w'.cell? ⟨w.heap.size, 3, none⟩ = some (.int .u64 c)) (first | exact ⟨keep_cell hb9 q0, keep_cell hb9 q1, keep_cell hb9 r0, keep_cell hb9 r1, keep_cell hb9 r2, keep_cell hb9 r3⟩ | go_keep)
            ((go_at_call 16; refine HTx.out.mono ?_; rintro e w9 ⟨rfl, hb9⟩))
          have hu9 : Upd (fun _ => False) w8 w9 := (((Upd.refl _ _).drew).alloc _).trans (.of_below hb9)
          have HR9 := Lib.hid (hu9.blk (fun q => q) HR8.out)
          have hn9 := hu9.blk (fun q => q) HN8.out
          have HB9 : Hid (Below w.heap.size w w9) := HB8.out.trans (hu9.below.mono HB8.out.size)
          have q1 : w9.cell? ⟨w6.heap.size + 1, 3, none⟩ = some (.int .i64 2) := hn9.cell 3
          have hn9' : Blk (w9.setCell ⟨w.heap.size, 3, none⟩ (.int .u64 0)) (w6.heap.size + 1) 44 _ := hn9.setCell_ne (by have := HR6.out.lt; show w6.heap.size + 1 ≠ w.heap.size; omega) _
          have q2 : (w9.setCell ⟨w.heap.size, 3, none⟩ (.int .u64 0)).cell? ⟨w6.heap.size + 1, 3, none⟩ = some (.int .i64 2) := hn9'.cell 3
          obtain ⟨r0, r1, r2, r3⟩ := cellsOfBlk4 HR9.out
          have f2 : w9.frozen? ⟨w.heap.size, 2, none⟩ = false := HR9.out.frozen 2
          have f3 : w9.frozen? ⟨w.heap.size, 3, none⟩ = false := HR9.out.frozen 3
          clear hb9 hu9 hn9 hn9' HTx hadd HR8 HN8 HB8
          have hrd : readRule l = ((3, a, b, 0), 0) := by
            rw [HLL.out, readRule_line 3 a b c HGG.out ⟨(HW.out a (by simp)).1, (HW.out b (by simp)).1, (HW.out c (by simp)).1⟩]; rfl
          have hls : l.size ≤ 1000000 := by rw [HLL.out]; exact lineL_size _ _ _ _ HW.out (by decide)
          have HRz : Hid (Blk ((w9).setCell ⟨w.heap.size, 3, none⟩ (.int .u64 0)) w.heap.size 38 [.int .i64 3, .int .u64 a, .int .u64 (b), .int .u64 (0)]) := (HR9.out).setCell 3 (.int .u64 0)
          have HBz : Hid (Below w.heap.size w ((w9).setCell ⟨w.heap.size, 3, none⟩ (.int .u64 0))) := Below.setCell (HB9.out) (Nat.le_refl _) _
          have hRd := genRead_any l m _ hls (FK.out _ HBz.out) (FM.out _ HBz.out)
          rw [hrd] at hRd
          have HRd := Lib.hid hRd
          clear hrd hls hRd
          go_wp2_with fail
          refine HRd.out.mono ?_
          rintro e w10 ⟨rfl, hb10⟩
          have HB10 : Hid (Below w.heap.size w w10) := HBz.out.trans (hb10.mono HBz.out.size)
          obtain ⟨r0, r1, r2, r3⟩ := cellsOfBlk4 ((Upd.of_below (S := fun _ => False) hb10).blk (fun q => q) HRz.out)
          have hlt10 : w.heap.size < w10.heap.size := World.block_lt_of_cell? w10 _ r0
          clear hb10 HRd q0 q1 q2 f2 f3
          go_wp2
          go_ret
          exact ⟨rfl, (HB10.out.alloc HB10.out.size _)⟩
        · skip
          have hkw8 : Blk ((w6.alloc (.cells #[.string ⟨#[]⟩, .string ⟨#[99, 111, 110, 115, 116, 32]⟩, .string ⟨#[108, 105, 110, 101, 32]⟩, .string ⟨#[112, 111, 119, 101, 114, 32]⟩, .string ⟨#[99, 104, 97, 105, 110, 32]⟩, .string ⟨#[112, 117, 108, 115, 101, 32]⟩] 43)).alloc (.cells #[.int .i64 0, .int .i64 1, .int .i64 2, .int .i64 2, .int .i64 3, .int .i64 3] 44)) w6.heap.size 43 [.string ⟨#[]⟩, .string ⟨#[99, 111, 110, 115, 116, 32]⟩, .string ⟨#[108, 105, 110, 101, 32]⟩, .string ⟨#[112, 111, 119, 101, 114, 32]⟩, .string ⟨#[99, 104, 97, 105, 110, 32]⟩, .string ⟨#[112, 117, 108, 115, 101, 32]⟩] := (Blk.new w6 _ _).alloc _
          have hkn8 : Blk ((w6.alloc (.cells #[.string ⟨#[]⟩, .string ⟨#[99, 111, 110, 115, 116, 32]⟩, .string ⟨#[108, 105, 110, 101, 32]⟩, .string ⟨#[112, 111, 119, 101, 114, 32]⟩, .string ⟨#[99, 104, 97, 105, 110, 32]⟩, .string ⟨#[112, 117, 108, 115, 101, 32]⟩] 43)).alloc (.cells #[.int .i64 0, .int .i64 1, .int .i64 2, .int .i64 2, .int .i64 3, .int .i64 3] 44)) (w6.heap.size + 1) 44 [.int .i64 0, .int .i64 1, .int .i64 2, .int .i64 2, .int .i64 3, .int .i64 3] := by
            have := Blk.new (w6.alloc (.cells #[.string ⟨#[]⟩, .string ⟨#[99, 111, 110, 115, 116, 32]⟩, .string ⟨#[108, 105, 110, 101, 32]⟩, .string ⟨#[112, 111, 119, 101, 114, 32]⟩, .string ⟨#[99, 104, 97, 105, 110, 32]⟩, .string ⟨#[112, 117, 108, 115, 101, 32]⟩] 43)) 44 [.int .i64 0, .int .i64 1, .int .i64 2, .int .i64 2, .int .i64 3, .int .i64 3]
            rwa [show (w6.alloc (.cells #[.string ⟨#[]⟩, .string ⟨#[99, 111, 110, 115, 116, 32]⟩, .string ⟨#[108, 105, 110, 101, 32]⟩, .string ⟨#[112, 111, 119, 101, 114, 32]⟩, .string ⟨#[99, 104, 97, 105, 110, 32]⟩, .string ⟨#[112, 117, 108, 115, 101, 32]⟩] 43)).heap.size = w6.heap.size + 1 by simp] at this
          have hr8 := ((HR6.out.alloc (.cells #[.string ⟨#[]⟩, .string ⟨#[99, 111, 110, 115, 116, 32]⟩, .string ⟨#[108, 105, 110, 101, 32]⟩, .string ⟨#[112, 111, 119, 101, 114, 32]⟩, .string ⟨#[99, 104, 97, 105, 110, 32]⟩, .string ⟨#[112, 117, 108, 115, 101, 32]⟩] 43)).alloc (.cells #[.int .i64 0, .int .i64 1, .int .i64 2, .int .i64 2, .int .i64 3, .int .i64 3] 44))
          have hb8 := (HB6.out.alloc HB6.out.size (.cells #[.string ⟨#[]⟩, .string ⟨#[99, 111, 110, 115, 116, 32]⟩, .string ⟨#[108, 105, 110, 101, 32]⟩, .string ⟨#[112, 111, 119, 101, 114, 32]⟩, .string ⟨#[99, 104, 97, 105, 110, 32]⟩, .string ⟨#[112, 117, 108, 115, 101, 32]⟩] 43)).alloc (by have := HB6.out.size; simp; omega) (.cells #[.int .i64 0, .int .i64 1, .int .i64 2, .int .i64 2, .int .i64 3, .int .i64 3] 44)
          generalize (w6.alloc (.cells #[.string ⟨#[]⟩, .string ⟨#[99, 111, 110, 115, 116, 32]⟩, .string ⟨#[108, 105, 110, 101, 32]⟩, .string ⟨#[112, 111, 119, 101, 114, 32]⟩, .string ⟨#[99, 104, 97, 105, 110, 32]⟩, .string ⟨#[112, 117, 108, 115, 101, 32]⟩] 43)).alloc (.cells #[.int .i64 0, .int .i64 1, .int .i64 2, .int .i64 2, .int .i64 3, .int .i64 3] 44) = w8 at *
          obtain ⟨r0, r1, r2, r3⟩ := cellsOfBlk4 hr8
          have q0 : w8.cell? ⟨w6.heap.size, 4, none⟩ = some (.string ⟨#[99, 104, 97, 105, 110, 32]⟩) := hkw8.cell 4
          have q1 : w8.cell? ⟨w6.heap.size + 1, 4, none⟩ = some (.int .i64 3) := hkn8.cell 4
          have HB8 := Lib.hid hb8
          have HR8 := Lib.hid hr8
          have HN8 := Lib.hid hkn8
          clear hkw8 hkn8 hb8 hr8
          obtain ⟨T, hT⟩ : ∃ T : ByteArray, T = ⟨(Lib.join (([a, b, c].take 3).map fun x => Lib.decDigits x.toNat) [32]).toArray⟩ := ⟨_, rfl⟩
          have hTx := refText_any (some ⟨w8.heap.size, 0, none⟩) 3 3 ([a, b, c].take 3) _ (rdTake w8.drew a b c 3 (by omega)) (by omega) (fun x hx => HW.out x (List.mem_of_mem_take hx))
          rw [← hT] at hTx
          have HTx := Lib.hid hTx
          have hTs : T.size ≤ 140737488355328 := by rw [hT]; exact join_len ([a, b, c].take 3) (by simp <;> omega) (fun x hx => HW.out x (List.mem_of_mem_take hx))
          have hadd := fun W => run_string_add_sum (P := Tryd.prog) W ⟨#[99, 104, 97, 105, 110, 32]⟩ T (by show 6 + T.size ≤ _; omega)
          have hE : (⟨#[99, 104, 97, 105, 110, 32]⟩ : ByteArray) ++ T = l := by
            rw [HLL.out, hT]; apply ByteArray.ext; rw [ByteArray.data_append]; simp [lineL, kWord, kNum, textL]
          rw [hE] at hadd
          clear hTx hT hTs hE
          go_region_held3 (fun w' => w'.cell? ⟨w6.heap.size, 4, none⟩ = some (.string ⟨#[99, 104, 97, 105, 110, 32]⟩) ∧ w'.cell? ⟨w6.heap.size + 1, 4, none⟩ = some (.int .i64 3) ∧ w'.cell? ⟨w.heap.size, 0, none⟩ = some (.int .i64 4) ∧ w'.cell? ⟨w.heap.size, 1, none⟩ = some (.int .u64 a) ∧ w'.cell? ⟨w.heap.size, 2, none⟩ = some (.int .u64 b) ∧ w'.cell? ⟨w.heap.size, 3, none⟩ = some (.int .u64 c)) (first | exact ⟨keep_cell hb9 q0, keep_cell hb9 q1, keep_cell hb9 r0, keep_cell hb9 r1, keep_cell hb9 r2, keep_cell hb9 r3⟩ | go_keep)
            ((go_at_call 16; refine HTx.out.mono ?_; rintro e w9 ⟨rfl, hb9⟩))
          have hu9 : Upd (fun _ => False) w8 w9 := (((Upd.refl _ _).drew).alloc _).trans (.of_below hb9)
          have HR9 := Lib.hid (hu9.blk (fun q => q) HR8.out)
          have hn9 := hu9.blk (fun q => q) HN8.out
          have HB9 : Hid (Below w.heap.size w w9) := HB8.out.trans (hu9.below.mono HB8.out.size)
          have q1 : w9.cell? ⟨w6.heap.size + 1, 4, none⟩ = some (.int .i64 3) := hn9.cell 4
          have hn9' : Blk (w9.setCell ⟨w.heap.size, 3, none⟩ (.int .u64 0)) (w6.heap.size + 1) 44 _ := hn9.setCell_ne (by have := HR6.out.lt; show w6.heap.size + 1 ≠ w.heap.size; omega) _
          have q2 : (w9.setCell ⟨w.heap.size, 3, none⟩ (.int .u64 0)).cell? ⟨w6.heap.size + 1, 4, none⟩ = some (.int .i64 3) := hn9'.cell 4
          obtain ⟨r0, r1, r2, r3⟩ := cellsOfBlk4 HR9.out
          have f2 : w9.frozen? ⟨w.heap.size, 2, none⟩ = false := HR9.out.frozen 2
          have f3 : w9.frozen? ⟨w.heap.size, 3, none⟩ = false := HR9.out.frozen 3
          clear hb9 hu9 hn9 hn9' HTx hadd HR8 HN8 HB8
          have hrd : readRule l = ((4, a, b, c), 0) := by
            rw [HLL.out, readRule_line 4 a b c HGG.out ⟨(HW.out a (by simp)).1, (HW.out b (by simp)).1, (HW.out c (by simp)).1⟩]; rfl
          have hls : l.size ≤ 1000000 := by rw [HLL.out]; exact lineL_size _ _ _ _ HW.out (by decide)
          have HRz : Hid (Blk (w9) w.heap.size 38 [.int .i64 4, .int .u64 a, .int .u64 (b), .int .u64 (c)]) := HR9.out
          have HBz : Hid (Below w.heap.size w (w9)) := HB9.out
          have hRd := genRead_any l m _ hls (FK.out _ HBz.out) (FM.out _ HBz.out)
          rw [hrd] at hRd
          have HRd := Lib.hid hRd
          clear hrd hls hRd
          go_wp2_with fail
          refine HRd.out.mono ?_
          rintro e w10 ⟨rfl, hb10⟩
          have HB10 : Hid (Below w.heap.size w w10) := HBz.out.trans (hb10.mono HBz.out.size)
          obtain ⟨r0, r1, r2, r3⟩ := cellsOfBlk4 ((Upd.of_below (S := fun _ => False) hb10).blk (fun q => q) HRz.out)
          have hlt10 : w.heap.size < w10.heap.size := World.block_lt_of_cell? w10 _ r0
          clear hb10 HRd q0 q1 q2 f2 f3
          go_wp2
          go_ret
          exact ⟨rfl, (HB10.out.alloc HB10.out.size _)⟩
        · skip
          have hkw8 : Blk ((w6.alloc (.cells #[.string ⟨#[]⟩, .string ⟨#[99, 111, 110, 115, 116, 32]⟩, .string ⟨#[108, 105, 110, 101, 32]⟩, .string ⟨#[112, 111, 119, 101, 114, 32]⟩, .string ⟨#[99, 104, 97, 105, 110, 32]⟩, .string ⟨#[112, 117, 108, 115, 101, 32]⟩] 43)).alloc (.cells #[.int .i64 0, .int .i64 1, .int .i64 2, .int .i64 2, .int .i64 3, .int .i64 3] 44)) w6.heap.size 43 [.string ⟨#[]⟩, .string ⟨#[99, 111, 110, 115, 116, 32]⟩, .string ⟨#[108, 105, 110, 101, 32]⟩, .string ⟨#[112, 111, 119, 101, 114, 32]⟩, .string ⟨#[99, 104, 97, 105, 110, 32]⟩, .string ⟨#[112, 117, 108, 115, 101, 32]⟩] := (Blk.new w6 _ _).alloc _
          have hkn8 : Blk ((w6.alloc (.cells #[.string ⟨#[]⟩, .string ⟨#[99, 111, 110, 115, 116, 32]⟩, .string ⟨#[108, 105, 110, 101, 32]⟩, .string ⟨#[112, 111, 119, 101, 114, 32]⟩, .string ⟨#[99, 104, 97, 105, 110, 32]⟩, .string ⟨#[112, 117, 108, 115, 101, 32]⟩] 43)).alloc (.cells #[.int .i64 0, .int .i64 1, .int .i64 2, .int .i64 2, .int .i64 3, .int .i64 3] 44)) (w6.heap.size + 1) 44 [.int .i64 0, .int .i64 1, .int .i64 2, .int .i64 2, .int .i64 3, .int .i64 3] := by
            have := Blk.new (w6.alloc (.cells #[.string ⟨#[]⟩, .string ⟨#[99, 111, 110, 115, 116, 32]⟩, .string ⟨#[108, 105, 110, 101, 32]⟩, .string ⟨#[112, 111, 119, 101, 114, 32]⟩, .string ⟨#[99, 104, 97, 105, 110, 32]⟩, .string ⟨#[112, 117, 108, 115, 101, 32]⟩] 43)) 44 [.int .i64 0, .int .i64 1, .int .i64 2, .int .i64 2, .int .i64 3, .int .i64 3]
            rwa [show (w6.alloc (.cells #[.string ⟨#[]⟩, .string ⟨#[99, 111, 110, 115, 116, 32]⟩, .string ⟨#[108, 105, 110, 101, 32]⟩, .string ⟨#[112, 111, 119, 101, 114, 32]⟩, .string ⟨#[99, 104, 97, 105, 110, 32]⟩, .string ⟨#[112, 117, 108, 115, 101, 32]⟩] 43)).heap.size = w6.heap.size + 1 by simp] at this
          have hr8 := ((HR6.out.alloc (.cells #[.string ⟨#[]⟩, .string ⟨#[99, 111, 110, 115, 116, 32]⟩, .string ⟨#[108, 105, 110, 101, 32]⟩, .string ⟨#[112, 111, 119, 101, 114, 32]⟩, .string ⟨#[99, 104, 97, 105, 110, 32]⟩, .string ⟨#[112, 117, 108, 115, 101, 32]⟩] 43)).alloc (.cells #[.int .i64 0, .int .i64 1, .int .i64 2, .int .i64 2, .int .i64 3, .int .i64 3] 44))
          have hb8 := (HB6.out.alloc HB6.out.size (.cells #[.string ⟨#[]⟩, .string ⟨#[99, 111, 110, 115, 116, 32]⟩, .string ⟨#[108, 105, 110, 101, 32]⟩, .string ⟨#[112, 111, 119, 101, 114, 32]⟩, .string ⟨#[99, 104, 97, 105, 110, 32]⟩, .string ⟨#[112, 117, 108, 115, 101, 32]⟩] 43)).alloc (by have := HB6.out.size; simp; omega) (.cells #[.int .i64 0, .int .i64 1, .int .i64 2, .int .i64 2, .int .i64 3, .int .i64 3] 44)
          generalize (w6.alloc (.cells #[.string ⟨#[]⟩, .string ⟨#[99, 111, 110, 115, 116, 32]⟩, .string ⟨#[108, 105, 110, 101, 32]⟩, .string ⟨#[112, 111, 119, 101, 114, 32]⟩, .string ⟨#[99, 104, 97, 105, 110, 32]⟩, .string ⟨#[112, 117, 108, 115, 101, 32]⟩] 43)).alloc (.cells #[.int .i64 0, .int .i64 1, .int .i64 2, .int .i64 2, .int .i64 3, .int .i64 3] 44) = w8 at *
          obtain ⟨r0, r1, r2, r3⟩ := cellsOfBlk4 hr8
          have q0 : w8.cell? ⟨w6.heap.size, 5, none⟩ = some (.string ⟨#[112, 117, 108, 115, 101, 32]⟩) := hkw8.cell 5
          have q1 : w8.cell? ⟨w6.heap.size + 1, 5, none⟩ = some (.int .i64 3) := hkn8.cell 5
          have HB8 := Lib.hid hb8
          have HR8 := Lib.hid hr8
          have HN8 := Lib.hid hkn8
          clear hkw8 hkn8 hb8 hr8
          obtain ⟨T, hT⟩ : ∃ T : ByteArray, T = ⟨(Lib.join (([a, b, c].take 3).map fun x => Lib.decDigits x.toNat) [32]).toArray⟩ := ⟨_, rfl⟩
          have hTx := refText_any (some ⟨w8.heap.size, 0, none⟩) 3 3 ([a, b, c].take 3) _ (rdTake w8.drew a b c 3 (by omega)) (by omega) (fun x hx => HW.out x (List.mem_of_mem_take hx))
          rw [← hT] at hTx
          have HTx := Lib.hid hTx
          have hTs : T.size ≤ 140737488355328 := by rw [hT]; exact join_len ([a, b, c].take 3) (by simp <;> omega) (fun x hx => HW.out x (List.mem_of_mem_take hx))
          have hadd := fun W => run_string_add_sum (P := Tryd.prog) W ⟨#[112, 117, 108, 115, 101, 32]⟩ T (by show 6 + T.size ≤ _; omega)
          have hE : (⟨#[112, 117, 108, 115, 101, 32]⟩ : ByteArray) ++ T = l := by
            rw [HLL.out, hT]; apply ByteArray.ext; rw [ByteArray.data_append]; simp [lineL, kWord, kNum, textL]
          rw [hE] at hadd
          clear hTx hT hTs hE
          go_region_held3 (fun w' => w'.cell? ⟨w6.heap.size, 5, none⟩ = some (.string ⟨#[112, 117, 108, 115, 101, 32]⟩) ∧ w'.cell? ⟨w6.heap.size + 1, 5, none⟩ = some (.int .i64 3) ∧ w'.cell? ⟨w.heap.size, 0, none⟩ = some (.int .i64 5) ∧ w'.cell? ⟨w.heap.size, 1, none⟩ = some (.int .u64 a) ∧ w'.cell? ⟨w.heap.size, 2, none⟩ = some (.int .u64 b) ∧ w'.cell? ⟨w.heap.size, 3, none⟩ = some (.int .u64 c)) (first | exact ⟨keep_cell hb9 q0, keep_cell hb9 q1, keep_cell hb9 r0, keep_cell hb9 r1, keep_cell hb9 r2, keep_cell hb9 r3⟩ | go_keep)
            ((go_at_call 16; refine HTx.out.mono ?_; rintro e w9 ⟨rfl, hb9⟩))
          have hu9 : Upd (fun _ => False) w8 w9 := (((Upd.refl _ _).drew).alloc _).trans (.of_below hb9)
          have HR9 := Lib.hid (hu9.blk (fun q => q) HR8.out)
          have hn9 := hu9.blk (fun q => q) HN8.out
          have HB9 : Hid (Below w.heap.size w w9) := HB8.out.trans (hu9.below.mono HB8.out.size)
          have q1 : w9.cell? ⟨w6.heap.size + 1, 5, none⟩ = some (.int .i64 3) := hn9.cell 5
          have hn9' : Blk (w9.setCell ⟨w.heap.size, 3, none⟩ (.int .u64 0)) (w6.heap.size + 1) 44 _ := hn9.setCell_ne (by have := HR6.out.lt; show w6.heap.size + 1 ≠ w.heap.size; omega) _
          have q2 : (w9.setCell ⟨w.heap.size, 3, none⟩ (.int .u64 0)).cell? ⟨w6.heap.size + 1, 5, none⟩ = some (.int .i64 3) := hn9'.cell 5
          obtain ⟨r0, r1, r2, r3⟩ := cellsOfBlk4 HR9.out
          have f2 : w9.frozen? ⟨w.heap.size, 2, none⟩ = false := HR9.out.frozen 2
          have f3 : w9.frozen? ⟨w.heap.size, 3, none⟩ = false := HR9.out.frozen 3
          clear hb9 hu9 hn9 hn9' HTx hadd HR8 HN8 HB8
          have hrd : readRule l = ((5, a, b, c), 0) := by
            rw [HLL.out, readRule_line 5 a b c HGG.out ⟨(HW.out a (by simp)).1, (HW.out b (by simp)).1, (HW.out c (by simp)).1⟩]; rfl
          have hls : l.size ≤ 1000000 := by rw [HLL.out]; exact lineL_size _ _ _ _ HW.out (by decide)
          have HRz : Hid (Blk (w9) w.heap.size 38 [.int .i64 5, .int .u64 a, .int .u64 (b), .int .u64 (c)]) := HR9.out
          have HBz : Hid (Below w.heap.size w (w9)) := HB9.out
          have hRd := genRead_any l m _ hls (FK.out _ HBz.out) (FM.out _ HBz.out)
          rw [hrd] at hRd
          have HRd := Lib.hid hRd
          clear hrd hls hRd
          go_wp2_with fail
          refine HRd.out.mono ?_
          rintro e w10 ⟨rfl, hb10⟩
          have HB10 : Hid (Below w.heap.size w w10) := HBz.out.trans (hb10.mono HBz.out.size)
          obtain ⟨r0, r1, r2, r3⟩ := cellsOfBlk4 ((Upd.of_below (S := fun _ => False) hb10).blk (fun q => q) HRz.out)
          have hlt10 : w.heap.size < w10.heap.size := World.block_lt_of_cell? w10 _ r0
          clear hb10 HRd q0 q1 q2 f2 f3
          go_wp2
          go_ret
          exact ⟨rfl, (HB10.out.alloc HB10.out.size _)⟩
      · have hgf : goodB k a b c = false := by simpa using hg
        have HLL : Hid (l = ⟨#[]⟩) := by show _ = _; rw [HL.out, if_neg hg]
        have hG := fun W => ref38Good_any k a b c W
        rw [hgf] at hG
        have HG := Lib.hid hG
        clear hg hG hgf HL
        go_wp2_with fail
        refine (HG.out _).mono ?_
        rintro e w6 ⟨rfl, hb6⟩
        have HB6 : Hid (Below w.heap.size w w6) := HBq.out.trans (hb6.mono HBq.out.size)
        rw [HLL.out]
        clear hb6 r0 r1 r2 r3 HG
        go_wp2
        go_ret
        exact ⟨rfl, HB6.out⟩
  · go_wp2
    go_ret
    exact ⟨rfl, HB1.out⟩
end Go.Proofs.YtcdehndodgefnaaDoor
