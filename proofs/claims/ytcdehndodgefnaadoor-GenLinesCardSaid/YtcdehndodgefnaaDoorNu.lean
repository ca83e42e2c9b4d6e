/- Walks: numerals. -/
import Derived.Test.YtcdehndodgefnaaDoorCa
import Derived.Test.YtcdehndodgefnaaDoorWi
import Derived.Test.YtcdehndodgefnaaDoorCc
import Derived.Test.YtcdehndodgefnaaDoorShelf
import Derived.Shelf.Strings.SlTrimAscii
import Derived.Deep.RegionHeld3
import Derived.Deep.RegionWith
set_option linter.unusedVariables false
namespace Go.Proofs.YtcdehndodgefnaaDoor
open Go.RowKit Ab Go.Proofs

def digits10 : ByteArray := ⟨#[48, 49, 50, 51, 52, 53, 54, 55, 56, 57]⟩
theorem trim_any (s : ByteArray) (w : World) (hs : s.size ≤ 1000000) :
    Calls Tryd.prog 36 #[.string s, .string ⟨#[48, 49, 50, 51, 52, 53, 54, 55, 56, 57]⟩] w fun e w' => e = .returned (.string ⟨(Lib.trimS s.data.toList [48, 49, 50, 51, 52, 53, 54, 55, 56, 57]).toArray⟩) ∧ Below w.heap.size w w' :=
  (Any.strings_Trim_laid Tryd.lays160 (by kernel_rfl) s ⟨#[48, 49, 50, 51, 52, 53, 54, 55, 56, 57]⟩ w (by omega) (by decide) (ascii_of_all (by decide)))

/-- A text's digits as a number. -/
def decL (bs : List Int) : Int := bs.foldl (fun v c => 10 * v + (c - 48)) 0
theorem decL_snoc (bs : List Int) (c : Int) : decL (bs ++ [c]) = 10 * decL bs + (c - 48) := by simp [decL]
def isDigits (bs : List Int) : Prop := ∀ c ∈ bs, 48 ≤ c ∧ c ≤ 57
theorem decL_bound {bs : List Int} (h : isDigits bs) (k : Nat) : 0 ≤ decL (bs.take k) ∧ decL (bs.take k) < 10 ^ k := by
  induction k with
  | zero => simp [decL]
  | succ k ih =>
    by_cases hk : k < bs.length
    · have := h _ (getD_mem hk)
      rw [take_succ_getD 0 hk, decL_snoc, Int.pow_succ]; omega
    · rw [List.take_of_length_le (by omega)]
      rw [List.take_of_length_le (by omega)] at ih
      have : (10 : Int) ^ k ≤ 10 ^ (k + 1) := by rw [Int.pow_succ]; have : (0 : Int) < 10 ^ k := Int.pow_pos (by decide); omega
      omega
def hiW (v : Int) : Int := v / 18446744073709551616
def loW (v : Int) : Int := v % 18446744073709551616
theorem step_sum {v c : Int} (h0 : 0 ≤ v) (h1 : v < 1000000000000000000000) (c0 : 48 ≤ c) (c1 : c ≤ 57) :
    sumW [(bits .or .u64 (IntKind.u64.wrap (hiW v * 2 ^ 3)) (loW v / 2 ^ (64 - 3)), IntKind.u64.wrap (loW v * 2 ^ 3)), (bits .or .u64 (IntKind.u64.wrap (hiW v * 2 ^ 1)) (loW v / 2 ^ (64 - 1)), IntKind.u64.wrap (loW v * 2 ^ 1)), (0, c - 48)] = (hiW (10 * v + (c - 48)), loW (10 * v + (c - 48))) := by
  have e1 : bits .or .u64 (IntKind.u64.wrap (hiW v * 2 ^ 3)) (loW v / 2 ^ (64 - 3)) = hiW v * 8 + loW v / 2305843009213693952 := by
    have : IntKind.u64.wrap (hiW v * 2 ^ 3) = hiW v * 8 := by rw [wraps_u64 _ (by unfold hiW; omega) (by unfold hiW; omega)]; omega
    rw [this]
    exact bits_join .u64 64 (by decide) wraps_u64 3 _ _ (by unfold hiW; omega) (by omega) (by unfold hiW; omega) (by unfold loW; omega) (by unfold loW; omega) (by unfold loW; omega)
  have e2 : bits .or .u64 (IntKind.u64.wrap (hiW v * 2 ^ 1)) (loW v / 2 ^ (64 - 1)) = hiW v * 2 + loW v / 9223372036854775808 := by
    have : IntKind.u64.wrap (hiW v * 2 ^ 1) = hiW v * 2 := by rw [wraps_u64 _ (by unfold hiW; omega) (by unfold hiW; omega)]; omega
    rw [this]
    exact bits_join .u64 64 (by decide) wraps_u64 1 _ _ (by unfold hiW; omega) (by omega) (by unfold hiW; omega) (by unfold loW; omega) (by unfold loW; omega) (by unfold loW; omega)
  have w1 : IntKind.u64.wrap (loW v * 2 ^ 3) = loW v * 8 % 18446744073709551616 := by simp only [IntKind.wrap, IntKind.bits, IntKind.signed]; simp
  have w2 : IntKind.u64.wrap (loW v * 2 ^ 1) = loW v * 2 % 18446744073709551616 := by simp only [IntKind.wrap, IntKind.bits, IntKind.signed]; simp
  rw [e1, e2, w1, w2]
  obtain ⟨h, l, hv, hh, hl, g0, g1, g2, g3⟩ : ∃ h l : Int, v = h * 18446744073709551616 + l ∧ hiW v = h ∧ loW v = l ∧ 0 ≤ l ∧ l < 18446744073709551616 ∧ 0 ≤ h ∧ h < 100 :=
    ⟨hiW v, loW v, by unfold hiW loW; omega, rfl, rfl, by unfold loW; omega, by unfold loW; omega, by unfold hiW; omega, by unfold hiW; omega⟩
  rw [hh, hl]
  have a1 : (0 + (h * 8 + l / 2305843009213693952) + (0 + l * 8 % 18446744073709551616) / 18446744073709551616) % 18446744073709551616 = h * 8 + l / 2305843009213693952 := by omega
  have a2 : (0 + l * 8 % 18446744073709551616) % 18446744073709551616 = l * 8 % 18446744073709551616 := by omega
  have k1 : h * 8 + l / 2305843009213693952 = (h * 18446744073709551616 + l) * 8 / 18446744073709551616 := by omega
  have k2 : l * 8 % 18446744073709551616 = (h * 18446744073709551616 + l) * 8 % 18446744073709551616 := by omega
  have k3 : h * 2 + l / 9223372036854775808 = (h * 18446744073709551616 + l) * 2 / 18446744073709551616 := by omega
  have k4 : l * 2 % 18446744073709551616 = (h * 18446744073709551616 + l) * 2 % 18446744073709551616 := by omega
  simp only [sumW, List.foldl, addW, Prod.mk.injEq]
  rw [a1, a2, k1, k2, k3, k4, ← hv]
  unfold hiW loW
  have b0 : v * 8 < 10000000000000000000000 := by omega
  clear hv hh hl k1 k2 k3 k4 a1 a2 e1 e2 w1 w2
  omega
theorem wides3 {v c : Int} (h0 : 0 ≤ v) (h1 : v < 1000000000000000000000) (c0 : 48 ≤ c) (c1 : c ≤ 57) :
    isWides [(bits .or .u64 (IntKind.u64.wrap (hiW v * 2 ^ 3)) (loW v / 2 ^ (64 - 3)), IntKind.u64.wrap (loW v * 2 ^ 3)), (bits .or .u64 (IntKind.u64.wrap (hiW v * 2 ^ 1)) (loW v / 2 ^ (64 - 1)), IntKind.u64.wrap (loW v * 2 ^ 1)), (0, c - 48)] := by
  have e1 : bits .or .u64 (IntKind.u64.wrap (hiW v * 2 ^ 3)) (loW v / 2 ^ (64 - 3)) = hiW v * 8 + loW v / 2305843009213693952 := by
    have : IntKind.u64.wrap (hiW v * 2 ^ 3) = hiW v * 8 := by rw [wraps_u64 _ (by unfold hiW; omega) (by unfold hiW; omega)]; omega
    rw [this]
    exact bits_join .u64 64 (by decide) wraps_u64 3 _ _ (by unfold hiW; omega) (by omega) (by unfold hiW; omega) (by unfold loW; omega) (by unfold loW; omega) (by unfold loW; omega)
  have e2 : bits .or .u64 (IntKind.u64.wrap (hiW v * 2 ^ 1)) (loW v / 2 ^ (64 - 1)) = hiW v * 2 + loW v / 9223372036854775808 := by
    have : IntKind.u64.wrap (hiW v * 2 ^ 1) = hiW v * 2 := by rw [wraps_u64 _ (by unfold hiW; omega) (by unfold hiW; omega)]; omega
    rw [this]
    exact bits_join .u64 64 (by decide) wraps_u64 1 _ _ (by unfold hiW; omega) (by omega) (by unfold hiW; omega) (by unfold loW; omega) (by unfold loW; omega) (by unfold loW; omega)
  have w1 : IntKind.u64.wrap (loW v * 2 ^ 3) = loW v * 8 % 18446744073709551616 := by simp only [IntKind.wrap, IntKind.bits, IntKind.signed]; simp
  have w2 : IntKind.u64.wrap (loW v * 2 ^ 1) = loW v * 2 % 18446744073709551616 := by simp only [IntKind.wrap, IntKind.bits, IntKind.signed]; simp
  rw [e1, e2, w1, w2]
  intro p hp
  simp only [List.mem_cons, List.not_mem_nil, or_false] at hp
  rcases hp with rfl | rfl | rfl <;> dsimp only <;> (try unfold hiW) <;> (try unfold loW) <;> omega
theorem bytesRow_cell (s : ByteArray) (cap : Nat) (w : World) (f : Nat × Nat) (j : Nat) (hj : j < s.size) : ((w.alloc (.cells (bytesRow s cap) 5 f)).drew).cell? ⟨w.heap.size, j, none⟩ = some (.int .u8 ((nm s).getD j 0)) := by
  have hh : (w.alloc (.cells (bytesRow s cap) 5 f)).heap[w.heap.size]? = some (.cells (bytesRow s cap) 5 f) := heap_alloc_new w _
  show (w.alloc (.cells (bytesRow s cap) 5 f)).cell? _ = _
  simp only [World.cell?]
  rw [hh]
  have hd : j < s.data.size := hj
  simp only [bytesRow]
  rw [← nm_at s j hj]
  have hg : s.data[j]? = some s.data[j] := Array.getElem?_eq_getElem hd
  simp only [Array.getElem?_append, Array.size_map, if_pos hd, Array.getElem?_map, hg, Option.map_some]
  rfl
theorem shl3_any (h l : Int) (w : World) (hr : 0 ≤ h ∧ h < 18446744073709551616 ∧ 0 ≤ l ∧ l < 18446744073709551616) : Calls Tryd.prog 38 #[.agg #[.int .u64 h, .int .u64 l], .int .i64 3] w fun e w' =>
    e = .returned (.agg #[.int .u64 (bits .or .u64 (IntKind.u64.wrap (h * 2 ^ 3)) (l / 2 ^ (64 - 3))), .int .u64 (IntKind.u64.wrap (l * 2 ^ 3))]) ∧ Below w.heap.size w w' := wideShl_any 3 h l w (by decide) (by decide) hr.1 hr.2.2.1 hr.2.1 hr.2.2.2
theorem shl1_any (h l : Int) (w : World) (hr : 0 ≤ h ∧ h < 18446744073709551616 ∧ 0 ≤ l ∧ l < 18446744073709551616) : Calls Tryd.prog 38 #[.agg #[.int .u64 h, .int .u64 l], .int .i64 1] w fun e w' =>
    e = .returned (.agg #[.int .u64 (bits .or .u64 (IntKind.u64.wrap (h * 2 ^ 1)) (l / 2 ^ (64 - 1))), .int .u64 (IntKind.u64.wrap (l * 2 ^ 1))]) ∧ Below w.heap.size w w' := wideShl_any 1 h l w (by decide) (by decide) hr.1 hr.2.2.1 hr.2.1 hr.2.2.2
/-- The sum of three wide numbers that were just laid. -/
theorem sum3_any (a b c d e f : Int) (w : World) (hw : isWides [(a, b), (c, d), (e, f)]) :
    Calls Tryd.prog 37 #[.slice (some ⟨w.heap.size, 0, none⟩) 3 3] (w.alloc (.cells #[.int .u64 a, .int .u64 b, .int .u64 c, .int .u64 d, .int .u64 e, .int .u64 f] 73)) fun r w' =>
      r = .returned (.agg #[.int .u64 (sumW [(a, b), (c, d), (e, f)]).1, .int .u64 (sumW [(a, b), (c, d), (e, f)]).2]) ∧ Below w.heap.size w w' :=
  (wideSum_any w.heap.size 3 3 [(a, b), (c, d), (e, f)] _ rfl (by decide) hw (fun j hj => by
    have hB := Blk.new w 73 [.int .u64 a, .int .u64 b, .int .u64 c, .int .u64 d, .int .u64 e, .int .u64 f]
    have : j = 0 ∨ j = 1 ∨ j = 2 := by omega
    rcases this with rfl | rfl | rfl <;> exact ⟨hB.cell _, hB.cell _⟩)).mono fun r w' ⟨h1, h2⟩ => ⟨h1, ((Below.refl _ _).alloc (Nat.le_refl _) _).trans (h2.mono (by simp))⟩
/-- A numeral's word, and an error's number. -/
def numV (v : Int) : Value := if v < 18446744069414584321 then .tuple #[.int .u64 v, .int .i64 0] else .tuple #[.int .u64 0, .int .i64 3]

set_option maxRecDepth 100000 in
set_option maxHeartbeats 2000000 in
theorem numeral_num (s : ByteArray) (w : World) (hs0 : 0 < s.size) (hs : s.size ≤ 20) (x0 : Int) (hx0 : (nm s).getD 0 0 = x0) (hz : (x0 == 48) = false ∨ ((x0 == 48) = true ∧ s.size ≤ 1)) (hd : isDigits (nm s)) (ht : Lib.trimS s.data.toList [48, 49, 50, 51, 52, 53, 54, 55, 56, 57] = []) :
    Calls Tryd.prog 30 #[.string s] w fun e w' => e = .returned (numV (decL (nm s))) ∧ Below w.heap.size w w' := by
  have HT := fun W => Lib.hid (trim_any s W (by omega))
  rw [ht] at HT
  have HD := Lib.hid hd
  have hne : ¬ s.toList = [] := by
    intro h
    have h2 : s.toList.length = s.size := by rw [ByteArray.toList_eq, Array.length_toList]; rfl
    rw [h] at h2; simp at h2; omega
  have hne2 : s.toList.isEmpty = false := by rw [List.isEmpty_eq_false_iff]; exact hne
  have hcv := fun w => run_bytes_of_string (P := Tryd.prog) w 9 23 5 s Tryd.underlying9 Tryd.underlying23 Tryd.underlying5
  have hs00 : ∀ h : 0 < s.size, ((s[0]'h).toNat : Int) = x0 := fun h => by rw [nm_at s 0 h, hx0]
  have HX0 := Lib.hid hx0
  clear hd ht hx0
  go_enter Tryd.func30, Tryd.ntmps30
  go_wp2_with fail
  refine (HT _).out.mono ?_
  rintro e w1 ⟨rfl, hb1⟩
  have HB1 := Lib.hid hb1
  clear hb1
  rcases hz with hz | ⟨hz, hz1⟩
  all_goals
    go_wp2_with fail
    generalize grownCap (w1.alloc (Obj.cells #[Value.int IntKind.u64 0, Value.int IntKind.u64 0] 73)) s.size 0 5 = cap
    clear hcv
    go_loopw [6, 32] (fun _ i wr => ∃ k : Nat, k ≤ s.size ∧ i = .int .i64 k ∧ Hid (Blk wr w1.heap.size 73 [.int .u64 (hiW (decL ((nm s).take k))), .int .u64 (loW (decL ((nm s).take k)))]) ∧
      Hid (∀ j, j < s.size → wr.cell? ⟨w1.heap.size + 1, j, none⟩ = some (.int .u8 ((nm s).getD j 0))) ∧ Hid (Below w.heap.size w wr)) (fun _ i _ => s.size - (intOf i).toNat)
    case atStart =>
      have hB0 := Blk.new w1 73 [.int .u64 0, .int .u64 0]
      refine ⟨0, by omega, rfl, ?_, fun j hj => ?_, ?_⟩
      · exact (hB0.alloc _).drew
      · have h := bytesRow_cell s cap (w1.alloc (Obj.cells #[Value.int IntKind.u64 0, Value.int IntKind.u64 0] 73)) ((bytesRow s cap).size, (bytesRow s cap).size + 1) j hj
        rwa [World.size_alloc] at h
      · exact ((HB1.out.alloc HB1.out.size _).alloc (by have := HB1.out.size; simp; omega) _).drew
    case round =>
      obtain ⟨k, hk, rfl, HB, HC, HU⟩ := hrel
      by_cases hlt : k < s.size
      · obtain ⟨x, hx⟩ : ∃ x, x = (nm s).getD k 0 := ⟨_, rfl⟩
        obtain ⟨v, hv⟩ : ∃ v, v = decL ((nm s).take k) := ⟨_, rfl⟩
        have hcell : wr.cell? ⟨w1.heap.size + 1, k, none⟩ = some (.int .u8 x) := by rw [hx]; exact HC.out k hlt
        have hb := HB.out
        rw [← hv] at hb
        obtain ⟨hv0, hv1⟩ := decL_bound HD.out k
        rw [← hv] at hv0 hv1
        have hxd := HD.out x (by rw [hx]; exact getD_mem (by rw [nm_length]; exact hlt))
        obtain ⟨hx48, hx57⟩ := hxd
        have HX := Lib.hid hx
        have HV := Lib.hid hv
        clear hx hv
        obtain ⟨h, hh⟩ : ∃ h, h = hiW v := ⟨_, rfl⟩
        obtain ⟨l, hl⟩ : ∃ l, l = loW v := ⟨_, rfl⟩
        rw [← hh, ← hl] at hb
        have hs0 : wr.cell? ⟨w1.heap.size, 0, none⟩ = some (.int .u64 h) := hb.cell 0
        have hs1 : wr.cell? ⟨w1.heap.size, 1, none⟩ = some (.int .u64 l) := hb.cell 1
        have HB2 := Lib.hid hb
        have HH := Lib.hid hh
        have HL := Lib.hid hl
        have hlt2 : w1.heap.size < wr.heap.size := hb.lt
        have hv2 : v < 1000000000000000000000 := by
          have h1 : (10 : Int) ^ k ≤ 10 ^ 20 := by
            have h2 := Nat.pow_le_pow_right (n := 10) (by decide) (show k ≤ 20 by omega)
            have h3 : ((10 ^ k : Nat) : Int) ≤ ((10 ^ 20 : Nat) : Int) := by omega
            simpa using h3
          have h4 : (10 : Int) ^ 20 = 100000000000000000000 := by decide
          omega
        have hr : 0 ≤ h ∧ h < 18446744073709551616 ∧ 0 ≤ l ∧ l < 18446744073709551616 := by rw [hh, hl]; unfold hiW loW; omega
        have HS3 := fun W => Lib.hid (shl3_any h l W hr)
        have HS1 := fun W => Lib.hid (shl1_any h l W hr)
        obtain ⟨a, ha⟩ : ∃ a, a = bits .or .u64 (IntKind.u64.wrap (h * 2 ^ 3)) (l / 2 ^ (64 - 3)) := ⟨_, rfl⟩
        obtain ⟨b, hbb⟩ : ∃ a, a = IntKind.u64.wrap (l * 2 ^ 3) := ⟨_, rfl⟩
        obtain ⟨c, hc⟩ : ∃ a, a = bits .or .u64 (IntKind.u64.wrap (h * 2 ^ 1)) (l / 2 ^ (64 - 1)) := ⟨_, rfl⟩
        obtain ⟨d, hdd⟩ : ∃ a, a = IntKind.u64.wrap (l * 2 ^ 1) := ⟨_, rfl⟩
        rw [← ha, ← hbb] at HS3
        rw [← hc, ← hdd] at HS1
        have HSum : Hid (sumW [(a, b), (c, d), (0, x - 48)] = (hiW (10 * v + (x - 48)), loW (10 * v + (x - 48)))) := by
          show _ = _
          rw [ha, hbb, hc, hdd, hh, hl]; exact step_sum hv0 hv2 hx48 hx57
        have HM := fun W => Lib.hid (sum3_any a b c d 0 (x - 48) W (by rw [ha, hbb, hc, hdd, hh, hl]; exact wides3 hv0 hv2 hx48 hx57))
        rw [HSum.out] at HM
        have hw8 : IntKind.u8.wrap (x - 48) = x - 48 := by rw [IntKind.wrap_u8]; omega
        have hw64 : IntKind.u64.wrap (x - 48) = x - 48 := wraps_u64 _ (by omega) (by omega)
        clear hb hh hl hr ha hbb hc hdd
        go_wp2
        have KS : Hid (∀ w', Below wr.heap.size wr w' → w'.cell? ⟨w1.heap.size, 0, none⟩ = some (.int .u64 h) ∧ w'.cell? ⟨w1.heap.size, 1, none⟩ = some (.int .u64 l) ∧ w'.frozen? ⟨w1.heap.size, 0, none⟩ = false ∧ w'.frozen? ⟨w1.heap.size, 1, none⟩ = false ∧ Below wr.heap.size wr w') := fun w' hb => by
          have hB := (Upd.of_below hb (S := fun _ => False)).blk (fun q => q) HB2.out
          exact ⟨hB.cell 0, hB.cell 1, hB.frozen 0, hB.frozen 1, hb⟩
        have KF : Hid (∀ w', Below wr.heap.size wr w' →
            Hid (Blk ((w'.setCell ⟨w1.heap.size, 0, none⟩ (.int .u64 (hiW (10 * v + (x - 48))))).setCell ⟨w1.heap.size, 1, none⟩ (.int .u64 (loW (10 * v + (x - 48))))) w1.heap.size 73 [.int .u64 (hiW (decL ((nm s).take (k + 1)))), .int .u64 (loW (decL ((nm s).take (k + 1))))]) ∧
            Hid (∀ j, j < s.size → ((w'.setCell ⟨w1.heap.size, 0, none⟩ (.int .u64 (hiW (10 * v + (x - 48))))).setCell ⟨w1.heap.size, 1, none⟩ (.int .u64 (loW (10 * v + (x - 48))))).cell? ⟨w1.heap.size + 1, j, none⟩ = some (.int .u8 ((nm s).getD j 0))) ∧
            Hid (Below w.heap.size w ((w'.setCell ⟨w1.heap.size, 0, none⟩ (.int .u64 (hiW (10 * v + (x - 48))))).setCell ⟨w1.heap.size, 1, none⟩ (.int .u64 (loW (10 * v + (x - 48))))))) := by
          intro w' hb
          have hB := (Upd.of_below hb (S := fun _ => False)).blk (fun q => q) HB2.out
          have hU : Upd (· = w1.heap.size) wr ((w'.setCell ⟨w1.heap.size, 0, none⟩ (.int .u64 (hiW (10 * v + (x - 48))))).setCell ⟨w1.heap.size, 1, none⟩ (.int .u64 (loW (10 * v + (x - 48))))) :=
            Upd.setCell (p := ⟨w1.heap.size, 1, none⟩) (Upd.setCell (p := ⟨w1.heap.size, 0, none⟩) (Upd.of_below (S := (· = w1.heap.size)) hb) (.inl rfl) _) (.inl rfl) _
          refine ⟨?_, fun j hj => hU.cell (by simp) (HC.out j hj), hU.toBelow HU.out (by intro q hq; have := HB1.out.size; omega) HU.out.size⟩
          show Blk _ _ _ _
          rw [take_succ_getD 0 (by rw [nm_length]; exact hlt), decL_snoc, ← HX.out, ← HV.out]
          exact (hB.setCell 0 _).setCell 1 _
        obtain ⟨d0, d1, d2, d3, d4⟩ := KS.out _ (Below.refl _ wr).drew
        go_region_with ((first
            | (go_at_call 38; (with_reducible refine (HS3 _).out.mono ?_); rintro e w2 ⟨rfl, hb2⟩; have hS2 := KS.out _ (Below.trans ‹Below wr.heap.size wr _› (hb2.mono (Below.size ‹Below wr.heap.size wr _›))); go_split_ands)
            | (go_at_call 38; (with_reducible refine (HS1 _).out.mono ?_); rintro e w2 ⟨rfl, hb2⟩; have hS2 := KS.out _ (Below.trans ‹Below wr.heap.size wr _› (hb2.mono (Below.size ‹Below wr.heap.size wr _›))); go_split_ands)
            | (go_at_call 37; (with_reducible refine (HM _).out.mono ?_); rintro e w2 ⟨rfl, hb2⟩; have hS2 := KS.out _ (Below.trans ‹Below wr.heap.size wr _› (hb2.mono (Below.size ‹Below wr.heap.size wr _›))); go_split_ands)))
        all_goals
          go_wp2
          go_roundw
          case rel => exact ⟨k + 1, by omega, by go_num, (KF.out _ ‹Below wr.heap.size wr _›).1, (KF.out _ ‹Below wr.heap.size wr _›).2.1, (KF.out _ ‹Below wr.heap.size wr _›).2.2⟩
          case measure => simp [intOf]; omega
      · obtain rfl : k = s.size := by omega
        have hb := HB.out
        rw [List.take_of_length_le (by rw [nm_length]; omega)] at hb
        obtain ⟨v, hv⟩ : ∃ v, v = decL (nm s) := ⟨_, rfl⟩
        have hvb := decL_bound HD.out s.size
        rw [List.take_of_length_le (by rw [nm_length]; omega)] at hvb
        rw [← hv] at hb hvb
        have HV := Lib.hid hv
        clear hv
        obtain ⟨h, hh⟩ : ∃ h, h = hiW v := ⟨_, rfl⟩
        obtain ⟨l, hl⟩ : ∃ l, l = loW v := ⟨_, rfl⟩
        rw [← hh, ← hl] at hb
        have hs0 : wr.cell? ⟨w1.heap.size, 0, none⟩ = some (.int .u64 h) := hb.cell 0
        have hs1 : wr.cell? ⟨w1.heap.size, 1, none⟩ = some (.int .u64 l) := hb.cell 1
        have hr : 0 ≤ h ∧ 0 ≤ l ∧ v = h * 18446744073709551616 + l := by rw [hh, hl]; unfold hiW loW; omega
        obtain ⟨hr0, hr1, hr2⟩ := hr
        have HR := Lib.hid hr2
        clear hb hh hl hr2 hvb
        by_cases c1 : 0 < h
        · have HE : Hid (numV (decL (nm s)) = .tuple #[.int .u64 0, .int .i64 3]) := by
            show _ = _; rw [← HV.out, numV, if_neg (by have := HR.out; omega)]
          clear HB HC HX0
          go_wp2
          go_ret2
          exact ⟨by rw [HE.out]; rfl, HU.out⟩
        · by_cases c2 : l < 18446744069414584321
          · have HE : Hid (numV (decL (nm s)) = .tuple #[.int .u64 l, .int .i64 0]) := by
              have e : v = l := by have := HR.out; omega
              show _ = _; rw [← HV.out, e, numV, if_pos c2]
            have c3 : decide (l < 18446744069414584321) = true := decide_eq_true c2
            clear HB HC HX0 c2
            go_wp2_with (go_at_call 24; refine (good_any _ _).mono ?_; rintro e w2 ⟨rfl, rfl⟩)
            go_ret2
            exact ⟨by rw [HE.out]; rfl, HU.out⟩
          · have HE : Hid (numV (decL (nm s)) = .tuple #[.int .u64 0, .int .i64 3]) := by
              show _ = _; rw [← HV.out, numV, if_neg (by have := HR.out; omega)]
            have c3 : decide (l < 18446744069414584321) = false := decide_eq_false c2
            clear HB HC HX0 c2
            go_wp2_with (go_at_call 24; refine (good_any _ _).mono ?_; rintro e w2 ⟨rfl, rfl⟩)
            go_ret2
            exact ⟨by rw [HE.out]; rfl, HU.out⟩
end Go.Proofs.YtcdehndodgefnaaDoor
