/- Walks: the row of a text. -/
import Derived.Test.YtcdehndodgefnaaDoorNw
import Derived.Lib.SplitLaws
set_option linter.unusedVariables false
namespace Go.Proofs.YtcdehndodgefnaaDoor
open Go.RowKit Ab Go.Proofs

theorem splitB_size (sep : ByteArray) : ∀ (k : Nat) (s : ByteArray), ∀ t ∈ Lib.splitB sep 0 k s, t.size ≤ s.size
  | 0, s => fun t ht => by rw [Lib.splitB_zero, List.mem_singleton] at ht; rw [ht]; exact Nat.le_refl _
  | k + 1, s => fun t ht => by
    unfold Lib.splitB at ht
    split at ht
    · rw [List.mem_singleton] at ht; rw [ht]; exact Nat.le_refl _
    · rw [List.mem_cons] at ht
      rcases ht with rfl | ht
      · rw [ByteArray.size_extract]; omega
      · have := splitB_size sep k _ t ht
        rw [ByteArray.size_extract] at this; omega

/-- The row of texts, a place, and an error's number; acc, p: those ahead, and where the next one begins. -/
def readT : List ByteArray → List Int → Int → List Int × Int × Int
  | [], acc, _ => (acc, 0, 0)
  | t :: r, acc, p => if (numL (nm t)).2 = 0 then readT r (acc ++ [(numL (nm t)).1]) (p + (t.size + 1)) else ([], p, (numL (nm t)).2)
theorem readT_cons (t : ByteArray) (r : List ByteArray) (acc : List Int) (p : Int) : readT (t :: r) acc p = if (numL (nm t)).2 = 0 then readT r (acc ++ [(numL (nm t)).1]) (p + (t.size + 1)) else ([], p, (numL (nm t)).2) := rfl
def pieces (s : ByteArray) : List ByteArray := Lib.splitB ⟨#[32]⟩ 0 (Lib.countB s ⟨#[32]⟩) s
/-- The row of a text, a place, and an error's number. -/
def readL (s : ByteArray) : List Int × Int × Int := if s.size = 0 then ([], 0, 0) else readT (pieces s) [] 0

set_option maxRecDepth 100000 in
theorem read_empty (s : ByteArray) (w : World) (h0 : s.size = 0) :
    Calls Tryd.prog 17 #[.string s] w fun e w' => e = .returned (.tuple #[.slice none 0 0, .int .i64 0, .int .i64 0]) ∧ w = w' := by
  have hne := toList_nil_of h0
  have hne2 : s.toList.isEmpty = true := by rw [hne]; rfl
  clear h0
  go_enter Tryd.func17, Tryd.ntmps17
  go_wp2
  go_ret3
  exact ⟨rfl, rfl⟩

set_option maxRecDepth 100000 in
set_option maxHeartbeats 2000000 in
theorem read_some (s : ByteArray) (m : Int) (w : World) (h0 : 0 < s.size) (hs : s.size ≤ 1000000) (hm : w.cell? ⟨1, 0, none⟩ = some (.int .i64 m)) :
    Calls Tryd.prog 17 #[.string s] w fun e w' => ∃ v, e = .returned (.tuple #[v, .int .i64 (readL s).2.1, .int .i64 (readL s).2.2]) ∧ Own w' w.heap.size 35 .u64 v (readL s).1 ∧ Below w.heap.size w w' := by
  have hne := toList_ne_of h0
  have hne2 : s.toList.isEmpty = false := by rw [List.isEmpty_eq_false_iff]; exact hne
  have hsp := Tryd.strings_Split s ⟨#[32]⟩ m w (by omega) hm (by decide)
  have hn : (pieces s).length = Lib.countB s ⟨#[32]⟩ + 1 := Lib.splitB_all _ (by decide) 0 _ s rfl
  have hnl : (pieces s).length ≤ 1000001 := by rw [hn]; have := Lib.countB_le ⟨#[32]⟩ (by decide) s.size s (Nat.le_refl _); omega
  rw [← hn, show Lib.splitB ⟨#[32]⟩ 0 (Lib.countB s ⟨#[32]⟩) s = pieces s from rfl] at hsp
  have hts := splitB_size ⟨#[32]⟩ (Lib.countB s ⟨#[32]⟩) s
  have HR : Hid (readL s = readT (pieces s) [] 0) := by show _ = _; rw [readL, if_neg (by omega)]
  obtain ⟨ts, hpt⟩ : ∃ ts, ts = pieces s := ⟨_, rfl⟩
  rw [← hpt] at HR hsp hnl
  have HS := Lib.hid hsp
  have HT : Hid (∀ t ∈ ts, t.size ≤ 1000000) := fun t ht => Nat.le_trans (hts t (by rw [hpt] at ht; exact ht)) hs
  obtain ⟨i0, hi, hz0, hz1, hzb⟩ := info_parts info35
  clear hn hts hsp hpt hm
  go_enter Tryd.func17, Tryd.ntmps17
  go_wp2_with fail
  refine HS.out.mono ?_
  rintro e w1 ⟨rfl, rfl⟩
  go_wp2
  have hlt0 : w.heap.size < (w.alloc (Obj.cells (List.map Value.string ts).toArray 9)).heap.size := by simp
  go_loopw [2, 3, 6, 7, 8, 14] (fun v p _ _ _ i wr => ∃ (k : Nat) (acc : List Int) (q : Int), k ≤ ts.length ∧ i = .int .i64 k ∧ p = .int .i64 q ∧ 0 ≤ q ∧ q ≤ k * 1000001 ∧ acc.length ≤ k ∧ Hid (readL s = readT (ts.drop k) acc q) ∧
      Hid (Own wr (w.heap.size + 1) 35 .u64 v acc) ∧ Hid (Blk wr w.heap.size 9 (ts.map Value.string)) ∧ Hid (Below w.heap.size w wr)) (fun _ _ _ _ _ i _ => ts.length - (intOf i).toNat)
  case atStart => exact ⟨0, [], 0, by omega, rfl, rfl, by omega, by omega, by simp, HR, Own.nil _ _ _ _, Blk.new w _ _, (Below.refl _ _).alloc (Nat.le_refl _) _⟩
  case round =>
    obtain ⟨k, acc, q, hk, rfl, rfl, hq0, hq1, hal, HE, HO, HK, HB⟩ := hrel
    by_cases hlt : k < ts.length
    · obtain ⟨t, ht⟩ : ∃ t, t = ts[k] := ⟨_, rfl⟩
      have hcell : wr.cell? ⟨w.heap.size, k, none⟩ = some (.string t) := by rw [HK.out.cell k, List.getElem?_map, List.getElem?_eq_getElem hlt, ht]; rfl
      have htl : t.size ≤ 1000000 := HT.out t (by rw [ht]; exact List.getElem_mem _)
      have HE2 : Hid (readL s = if (numL (nm t)).2 = 0 then readT (ts.drop (k + 1)) (acc ++ [(numL (nm t)).1]) (q + (t.size + 1)) else ([], q, (numL (nm t)).2)) := by
        show _ = _; rw [HE.out, List.drop_eq_getElem_cons hlt, readT_cons, ht]
      have hN := numeral_any t wr htl
      obtain ⟨x, hx⟩ : ∃ x, x = (numL (nm t)).1 := ⟨_, rfl⟩
      obtain ⟨y, hy⟩ : ∃ y, y = (numL (nm t)).2 := ⟨_, rfl⟩
      rw [← hx, ← hy] at hN HE2
      have HN := Lib.hid hN
      clear ht hN hx hy
      by_cases hy0 : y = 0
      · subst hy0
        have HE3 : Hid (readL s = readT (ts.drop (k + 1)) (acc ++ [x]) (q + (t.size + 1))) := by show _ = _; rw [HE2.out, if_pos rfl]
        clear HE2 HE
        go_wp2_with fail
        refine HN.out.mono ?_
        rintro e w2 ⟨rfl, hb2⟩
        have hu2 : Upd (fun _ => False) wr w2 := Upd.of_below hb2
        have HO2 : Hid (Own w2 (w.heap.size + 1) 35 .u64 u2 acc) := HO.out.upd hu2 (fun _ _ q => q)
        have HK2 : Hid (Blk w2 w.heap.size 9 (ts.map Value.string)) := hu2.blk (fun q => q) HK.out
        have HB2 : Hid (Below w.heap.size w w2) := HB.out.trans (hb2.mono HB.out.size)
        have hz2 : w.heap.size < w2.heap.size := HK2.out.lt
        clear hb2 hu2
        go_wp2_with (at_builtin; refine wpList_append_own _ rfl _ _ 22 rfl (w.heap.size + 1) 35 i0 (.int .u64 0) 1 8 Tryd.underlying22 hi hz0 hz1 hzb rfl (by decide) _ _ _ rfl (HO2.out.alloc _) ⟨w2.heap.size, 0, none⟩ 1 1 [.int .u64 x] rfl rfl ?c1 ?c2 ?c3 ?c4 ?c5 ?_)
        case c1 => exact cell_one _ _ _
        case c2 => intro u hu; simp at hu; subst hu; rfl
        case c3 => unfold maxLen; omega
        case c4 => omega
        case c5 => simp; omega
        intro v' w3 hown hgrow _
        have HO3 : Hid (Own w3 (w.heap.size + 1) 35 .u64 v' (acc ++ [x])) := Own.snoc hown
        have HK3 : Hid (Blk w3 w.heap.size 9 (ts.map Value.string)) := by
          have h1 := HK2.out.alloc (Obj.cells #[Value.int IntKind.u64 x] 35)
          show _ = _
          rw [hgrow.block w.heap.size h1.lt (fun e => by have := HO2.out.base _ e.symm; omega)]
          exact h1
        have HB3 : Hid (Below w.heap.size w w3) := (HB2.out.alloc HB2.out.size _).grown hgrow (by have := HB2.out.size; simp; omega) (fun b hb => by have := HO2.out.base b hb; omega)
        clear hown hgrow
        go_wp2
        go_roundw
        case rel => exact ⟨k + 1, acc ++ [x], q + (t.size + 1), by omega, by go_num, by go_num, by omega, by omega, by rw [List.length_append, List.length_singleton]; omega, HE3, HO3, HK3, HB3⟩
        case measure => simp [intOf]; omega
      · have HE3 : Hid (readL s = ([], q, y)) := by show _ = _; rw [HE2.out, if_neg hy0]
        have hyb : (y != 0) = true := by rw [bne_iff_ne]; exact hy0
        clear HE2 HE
        go_wp2_with fail
        refine HN.out.mono ?_
        rintro e w2 ⟨rfl, hb2⟩
        have HB2 : Hid (Below w.heap.size w w2) := HB.out.trans (hb2.mono HB.out.size)
        clear hb2
        go_wp2
        go_ret3
        rw [HE3.out]
        exact ⟨_, rfl, Own.nil _ _ _ _, HB2.out⟩
    · obtain rfl : k = ts.length := by omega
      have HE3 : Hid (readL s = (acc, 0, 0)) := by show _ = _; rw [HE.out, List.drop_length]; rfl
      go_wp2
      go_ret3
      rw [HE3.out]
      exact ⟨_, rfl, HO.out.lower (Nat.le_succ _), HB.out⟩
end Go.Proofs.YtcdehndodgefnaaDoor
