/- Walks: canonical words, words and their bytes. -/
import Derived.Test.YtcdehndodgefnaaDoorProg
import Derived.Test.YtcdehndodgefnaaDoorWd
import Derived.OwnWalk
set_option linter.unusedVariables false
namespace Go.Proofs.YtcdehndodgefnaaDoor
open Go.RowKit Ab

theorem good_any (a : Int) (w : World) : Calls Tryd.prog 24 #[.int .u64 a] w fun e w' => e = .returned (.bool (decide (a < 18446744069414584321))) ∧ w = w' := by
  go_enter Tryd.func24, Tryd.ntmps24
  go_wp2
  go_ret
  exact ⟨rfl, rfl⟩

theorem notgood_any (a : Int) (w : World) : Calls Tryd.prog 23 #[.int .u64 a] w fun e w' => e = .returned (.bool (decide (18446744069414584321 ≤ a))) ∧ w = w' := by
  go_enter Tryd.func23, Tryd.ntmps23
  go_wp2_with (go_at_call 24; refine (good_any _ _).mono ?_; rintro e w' ⟨rfl, rfl⟩)
  go_ret
  exact ⟨ret_bool (by by_cases h : a < 18446744069414584321 <;> simp [h] <;> omega), rfl⟩

set_option maxHeartbeats 400000 in
theorem indexFunc_any (a : Option Addr) (n c : Nat) (l : List Int) (w : World) (h : Rd w .u64 a n l) :
    Calls Tryd.prog 22 #[.slice a n c, .func (.func 23) #[] #[]] w fun e w' => e = .returned (.int .i64 (badIdx l)) ∧ w = w' := by
  obtain ⟨rfl, hn, hc⟩ := h
  have HF : Hid (∀ j, j < l.length → ∃ ad, a = some ad ∧ w.cell? (ad.add j) = some (.int .u64 (l.getD j 0))) := fun j hj => let ⟨ad, e, h⟩ := hc (by omega); ⟨ad, e, h j hj⟩
  clear hc
  go_enter Tryd.func22, Tryd.ntmps22
  go_wp2
  go_loop [5, 8] (fun _ i => ∃ k : Nat, k ≤ l.length ∧ i = .int .i64 k ∧ Hid (∀ j, j < k → l.getD j 0 < 18446744069414584321)) (fun _ i => l.length - (intOf i).toNat)
  case atStart => exact ⟨0, Nat.zero_le _, rfl, fun j hj => by omega⟩
  case round =>
    obtain ⟨k, hk, rfl, HB⟩ := hrel
    by_cases hlt : k < l.length
    · obtain ⟨ad, rfl, hcell0⟩ := HF.out k hlt
      obtain ⟨x, hx⟩ : ∃ x, x = l.getD k 0 := ⟨_, rfl⟩
      have hcell : w.cell? (ad.add k) = some (.int .u64 x) := by rw [hx]; exact hcell0
      have HX : Hid (x = l.getD k 0) := hx
      clear hx hcell0
      by_cases hg : 18446744069414584321 ≤ x
      · have HR : Hid (badIdx l = k) := badIdx_some hlt (by rw [← HX.out]; exact hg) HB.out
        go_wp2_with (go_at_call 23; refine (notgood_any _ _).mono ?_; rintro e w' ⟨rfl, rfl⟩)
        go_ret
        exact ⟨ret_int HR.out.symm, rfl⟩
      · have HB' : Hid (∀ j, j < k + 1 → l.getD j 0 < 18446744069414584321) := fun j hj => by
          by_cases e : j = k
          · subst e; rw [← HX.out]; omega
          · exact HB.out j (by omega)
        go_wp2_with (go_at_call 23; refine (notgood_any _ _).mono ?_; rintro e w' ⟨rfl, rfl⟩)
        go_round
        case rel => exact ⟨k + 1, by omega, by go_num, HB'⟩
        case measure => simp [intOf]; omega
    · have HR : Hid (badIdx l = -1) := badIdx_none fun j hj => HB.out j (by omega)
      go_wp2
      go_ret
      exact ⟨ret_int HR.out.symm, rfl⟩

theorem check_any (a : Option Addr) (n c : Nat) (l : List Int) (w : World) (h : Rd w .u64 a n l) :
    Calls Tryd.prog 11 #[.slice a n c] w fun e w' => e = .returned (.tuple #[.int .i64 (if badIdx l < 0 then 0 else badIdx l), .bool (decide (badIdx l < 0))]) ∧ w = w' := by
  go_enter Tryd.func11, Tryd.ntmps11
  go_wp2_with (go_at_call 22; refine (indexFunc_any _ _ _ _ _ h).mono ?_; rintro e w' ⟨rfl, rfl⟩)
  all_goals (go_ret2; exact ⟨rfl, rfl⟩)

theorem check_ok (a : Option Addr) (n c : Nat) (l : List Int) (w : World) (h : Rd w .u64 a n l) (hb : badIdx l < 0) :
    Calls Tryd.prog 11 #[.slice a n c] w fun e w' => e = .returned (.tuple #[.int .i64 0, .bool true]) ∧ w = w' :=
  (check_any a n c l w h).mono fun e w' ⟨he, hw⟩ => ⟨by rw [he, if_pos hb, decide_eq_true hb], hw⟩
theorem check_no (a : Option Addr) (n c : Nat) (l : List Int) (w : World) (h : Rd w .u64 a n l) (hb : ¬ badIdx l < 0) :
    Calls Tryd.prog 11 #[.slice a n c] w fun e w' => e = .returned (.tuple #[.int .i64 (badIdx l), .bool false]) ∧ w = w' :=
  (check_any a n c l w h).mono fun e w' ⟨he, hw⟩ => ⟨by rw [he, if_neg hb, decide_eq_false hb], hw⟩

set_option maxHeartbeats 400000 in
theorem word_any (ad : Addr) (n c : Nat) (xs : List Int) (w : World) (hl : xs.length = 8) (hn : 8 ≤ n) (hx : isBytes xs) (hc : ∀ j, j < 8 → w.cell? (ad.add j) = some (.int .u8 (xs.getD j 0))) :
    Calls Tryd.prog 20 #[.slice (some ad) n c] w fun e w' => e = .returned (.int .u64 (lw xs)) ∧ w = w' := by
  have HC := Lib.hid hc
  clear hc
  go_enter Tryd.func20, Tryd.ntmps20
  go_wp2
  go_loop [3, 4] (fun v i => ∃ m : Nat, m ≤ 8 ∧ i = .int .i64 ((m : Int) - 1) ∧ v = .int .u64 (lw (xs.drop m))) (fun _ i => (intOf i + 1).toNat)
  case atStart => exact ⟨8, Nat.le_refl _, rfl, by rw [List.drop_of_length_le (by omega)]; rfl⟩
  case round =>
    obtain ⟨m, hm, rfl, rfl⟩ := hrel
    cases m with
    | zero =>
      go_wp2
      go_ret
      exact ⟨rfl, rfl⟩
    | succ m =>
      obtain ⟨x, hx'⟩ : ∃ x, x = xs.getD m 0 := ⟨_, rfl⟩
      have hcell : w.cell? (ad.add m) = some (.int .u8 x) := by rw [hx']; exact HC.out m (by omega)
      have hx0 := (hx _ (getD_mem (j := m) (by omega))).1
      have hx1 := (hx _ (getD_mem (j := m) (by omega))).2
      rw [← hx'] at hx0 hx1
      obtain ⟨y, hy⟩ : ∃ y, y = lw (xs.drop (m + 1)) := ⟨_, rfl⟩
      rw [← hy]
      obtain ⟨hy0, hy1⟩ := lw_drop_succ hx m hl
      rw [← hy] at hy0 hy1
      have HR : Hid (bits .or .u64 (y * 256) x = lw (xs.drop m)) := by
        show _ = _
        rw [or_byte hy0 hy1 hx0 hx1, lw_drop (xs := xs) (m := m) (by omega), hx', hy, Int.mul_comm, Int.add_comm]
      clear hx' hy
      go_wp2
      go_round
      case rel => exact ⟨m, by omega, rfl, congrArg (Value.int .u64) HR.out⟩
      case measure => simp [intOf]

set_option maxHeartbeats 400000 in
theorem set_any (b o n c : Nat) (cs : List Value) (x : Int) (w : World) (hb : Blk w b 5 cs) (hn : 8 ≤ n) (hm : n ≤ 9223372036854775807) (ho : o + 8 ≤ cs.length) (hx0 : 0 ≤ x) (hx1 : x < 18446744073709551616) :
    Calls Tryd.prog 19 #[.slice (some ⟨b, o, none⟩) n c, .int .u64 x] w fun e w' => e = .returned (.tuple #[]) ∧ Blk w' b 5 (putAt cs o ((lb 8 x).map (.int .u8))) ∧ Upd (· = b) w w' := by
  go_enter Tryd.func19, Tryd.ntmps19
  go_wp2
  go_loopw [4, 5] (fun _ i wr => ∃ k : Nat, k ≤ 8 ∧ i = .int .i64 k ∧ Hid (Blk wr b 5 (putAt cs o (((lb 8 x).take k).map (.int .u8)))) ∧ Hid (Upd (· = b) w wr)) (fun _ i _ => 8 - (intOf i).toNat)
  case atStart => exact ⟨0, by omega, rfl, by show Blk w b _ _; rw [List.take_zero, List.map_nil, putAt_nil]; exact hb, Upd.refl _ _⟩
  case round =>
    obtain ⟨k, hk, rfl, HB, HU⟩ := hrel
    by_cases hlt : k < 8
    · have L1 : (((lb 8 x).take k).map (Value.int .u8)).length = k := by rw [List.length_map, List.length_take, lb_length]; omega
      have L2 : (putAt cs o (((lb 8 x).take k).map (.int .u8))).length = cs.length := putAt_length (by rw [L1]; omega)
      obtain ⟨v, hcell⟩ : ∃ v, wr.cell? ⟨b, o + k, none⟩ = some v := ⟨_, (HB.out.cell (o + k)).trans (List.getElem?_eq_getElem (by rw [L2]; omega))⟩
      have hfr : wr.frozen? ⟨b, o + k, none⟩ = false := HB.out.frozen _
      have HB' : Hid (Blk (wr.setCell ⟨b, o + k, none⟩ (.int .u8 (x / 2 ^ (8 * k) % 256))) b 5 (putAt cs o (((lb 8 x).take (k + 1)).map (.int .u8)))) := by
        have h1 := HB.out.setCell (o + k) (.int .u8 (x / 2 ^ (8 * k) % 256))
        have h2 := putAt_snoc (cs := cs) (o := o) (xs := ((lb 8 x).take k).map (.int .u8)) (.int .u8 (x / 2 ^ (8 * k) % 256)) (by rw [L1]; omega)
        rw [L1] at h2
        rw [h2] at h1
        show Blk _ _ _ _
        rw [lb_take 8 x k hlt, List.map_append]; exact h1
      have HU' : Hid (Upd (· = b) w (wr.setCell ⟨b, o + k, none⟩ (.int .u8 (x / 2 ^ (8 * k) % 256)))) := HU.out.setCell (.inl rfl) _
      clear L1 L2
      go_wp2
      go_roundw
      case rel => exact ⟨k + 1, by omega, by go_num, HB', HU'⟩
      case measure => simp [intOf]; omega
    · obtain rfl : k = 8 := by omega
      have HB' : Blk wr b 5 (putAt cs o ((lb 8 x).map (.int .u8))) := by have := HB.out; rwa [List.take_of_length_le (by rw [lb_length]; omega)] at this
      go_wp2
      go_end0
      exact ⟨rfl, HB', HU.out⟩

theorem info5 : (Tryd.prog.info? 5).map (fun i => (i.zero, i.size, i.bytes)) = some (some (.int .u8 0), 1, 1) := by kernel_rfl
def formCells (l : List Int) (k : Nat) : List Value := (form (l.take k)).map (Value.int .u8) ++ List.replicate (8 * (l.length - k)) (.int .u8 0)
theorem formCells_zero (l : List Int) : formCells l 0 = List.replicate (8 * l.length) (.int .u8 0) := by simp [formCells, form]
theorem formCells_all (l : List Int) : formCells l l.length = (form l).map (Value.int .u8) := by simp [formCells]
theorem formCells_length {l : List Int} {k : Nat} (h : k ≤ l.length) : (formCells l k).length = 8 * l.length := by
  rw [formCells, List.length_append, List.length_map, form_length, List.length_take, List.length_replicate]; omega
theorem formCells_succ {l : List Int} {k : Nat} (h : k < l.length) : putAt (formCells l k) (8 * k) ((lb 8 (l.getD k 0)).map (Value.int .u8)) = formCells l (k + 1) := by
  have e : (form (l.take k)).length = 8 * k := by rw [form_length, List.length_take]; omega
  rw [putAt, formCells, formCells, form_take_succ h, List.take_append_of_le_length (by rw [List.length_map, e]; omega), List.take_of_length_le (by rw [List.length_map, e]; omega), List.length_map, lb_length,
    List.drop_append, List.drop_of_length_le (by rw [List.length_map, e]; omega), List.length_map, e, List.nil_append, List.map_append, List.drop_replicate]
  congr 2; omega

set_option maxRecDepth 100000 in
set_option maxHeartbeats 1000000 in
theorem put_any (a : Option Addr) (n c : Nat) (l : List Int) (w : World) (h : Rd w .u64 a n l) (hl : l.length ≤ 1000000) (hlw : isWords l) :
    Calls Tryd.prog 6 #[.slice a n c] w fun e w' => ∃ v, e = .returned v ∧ Own w' w.heap.size 5 .u8 v (form l) ∧ Below w.heap.size w w' := by
  obtain ⟨rfl, hn, hc⟩ := h
  have HC := Lib.hid hc
  have HW := Lib.hid hlw
  clear hc hlw
  obtain ⟨i0, hi, hz0, hz1, hz2⟩ := info_parts info5
  go_enter Tryd.func6, Tryd.ntmps6
  go_wp2_with (with_reducible refine wpList_make_full _ rfl _ _ 23 rfl w.heap.size 5 i0 (.int .u8 0) 1 Tryd.underlying23 hi hz0 hz1 .i64 .i64 (8 * (l.length : Int)) (8 * (l.length : Int)) (8 * l.length) rfl rfl (by omega) (by omega) (by rw [hz2]; omega) (by unfold maxLen; omega) (Nat.le_refl _) ?_; intro w1 hown1 hgrow1)
  have HB1 : Hid (Below w.heap.size w w1) := (Below.refl _ _).grown hgrow1 (Nat.le_refl _) (by intro k hk; cases hk)
  have HK1 : Hid (Blk w1 w.heap.size 5 (formCells l 0)) := by show Blk _ _ _ _; rw [formCells_zero]; exact Blk.made hown1
  clear hown1 hgrow1
  go_loopw [4, 5, 12] (fun _ _ i wr => ∃ k : Nat, k ≤ l.length ∧ i = .int .i64 k ∧ Hid (Blk wr w.heap.size 5 (formCells l k)) ∧ Hid (Below w.heap.size w wr)) (fun _ _ i _ => l.length - (intOf i).toNat)
  case atStart => exact ⟨0, by omega, rfl, HK1, HB1⟩
  case round =>
    obtain ⟨k, hk, rfl, HK, HB⟩ := hrel
    by_cases hlt : k < l.length
    · obtain ⟨ad, rfl, hcell0⟩ := HC.out (by omega)
      obtain ⟨x, hx⟩ : ∃ x, x = l.getD k 0 := ⟨_, rfl⟩
      have hcell : wr.cell? (ad.add k) = some (.int .u64 x) := by rw [hx]; exact (HB.out.cell (World.block_lt_of_cell? w _ (hcell0 k hlt))).trans (hcell0 k hlt)
      have hxr := HW.out _ (getD_mem hlt)
      rw [← hx] at hxr
      obtain ⟨HX0, HX1⟩ := hxr
      have HX := Lib.hid hx
      clear hx hcell0
      have HS := Lib.hid (set_any w.heap.size (8 * k) (8 * l.length - 8 * k) (8 * l.length - 8 * k) (formCells l k) x wr HK.out (by omega) (by omega) (by rw [formCells_length hk]; omega) HX0 HX1)
      go_wp2_with (go_at_call 19; refine HS.out.mono ?_; rintro e w2 ⟨rfl, hb2, hu2⟩)
      rw [HX.out, formCells_succ hlt] at hb2
      have HB2 : Hid (Below w.heap.size w w2) := hu2.toBelow HB.out (by intro k hk; omega) HB.out.size
      have HK2 := Lib.hid hb2
      clear hb2 hu2
      go_wp2
      go_roundw
      case rel => exact ⟨k + 1, by omega, by go_num, HK2, HB2⟩
      case measure => simp [intOf]; omega
    · obtain rfl : k = l.length := by omega
      have HO : Own wr w.heap.size 5 .u8 (.slice (some ⟨w.heap.size, 0, none⟩) (8 * l.length) (8 * l.length)) (form l) :=
        HK.out.own (Nat.le_refl _) (formCells_length hk) (Nat.le_refl _) (by omega) (form_length l) (by rw [List.take_of_length_le (by rw [formCells_length hk]; omega), formCells_all])
      have HO' := Lib.hid HO
      clear HO
      go_wp2
      go_ret
      exact ⟨_, rfl, HO'.out, HB.out⟩

theorem info35 : (Tryd.prog.info? 35).map (fun i => (i.zero, i.size, i.bytes)) = some (some (.int .u64 0), 1, 8) := by kernel_rfl
def wordCells (bs : List Int) (n k : Nat) : List Value := (wordsOf bs k).map (Value.int .u64) ++ List.replicate (n - k) (.int .u64 0)
theorem wordCells_zero (bs : List Int) (n : Nat) : wordCells bs n 0 = List.replicate n (.int .u64 0) := by simp [wordCells, wordsOf]
theorem wordCells_all (bs : List Int) (n : Nat) : wordCells bs n n = (wordsOf bs n).map (Value.int .u64) := by simp [wordCells]
theorem wordCells_length {bs : List Int} {n k : Nat} (h : k ≤ n) : (wordCells bs n k).length = n := by
  rw [wordCells, List.length_append, List.length_map, wordsOf_length, List.length_replicate]; omega
theorem wordCells_succ {bs : List Int} {n k : Nat} (h : k < n) : (wordCells bs n k).set k (.int .u64 (lw ((bs.drop (8 * k)).take 8))) = wordCells bs n (k + 1) := by
  obtain ⟨m, hm⟩ : ∃ m, n - k = m + 1 := ⟨n - k - 1, by omega⟩
  rw [wordCells, wordCells, wordsOf_succ, hm, show n - (k + 1) = m from by omega, List.replicate_succ, List.set_append, if_neg (by rw [List.length_map, wordsOf_length]; omega), List.length_map, wordsOf_length, Nat.sub_self,
    List.set_cons_zero, List.map_append, List.append_assoc]; rfl

theorem take_short (a : Option Addr) (n c : Nat) (bs : List Int) (w : World) (h : Rd w .u8 a n bs) (hs : n ≤ 1000000) (h8 : n % 8 ≠ 0) :
    Calls Tryd.prog 7 #[.slice a n c] w fun e w' => e = .returned (.tuple #[.slice none 0 0, .int .i64 ((8 * (n / 8) : Nat) : Int), .int .i64 15]) ∧ w = w' := by
  have hne : ((n : Int) % 8 != 0) = true := by rw [bne_iff_ne]; omega
  have HE : Hid ((n : Int) - (n : Int) % 8 = ((8 * (n / 8) : Nat) : Int)) := by show _ = _; omega
  clear h8
  go_enter Tryd.func7, Tryd.ntmps7
  go_wp2
  go_ret3
  exact ⟨by rw [← HE.out]; rfl, rfl⟩

set_option maxRecDepth 100000 in
set_option maxHeartbeats 1000000 in
theorem take_whole (a : Option Addr) (n c : Nat) (bs : List Int) (w : World) (h : Rd w .u8 a n bs) (hs : n ≤ 1000000) (h8 : n % 8 = 0) (hcap : n ≤ c) (hbs : isBytes bs) :
    Calls Tryd.prog 7 #[.slice a n c] w fun e w' => ∃ v, e = .returned (.tuple #[v, .int .i64 (takeL bs).2.1, .int .i64 (takeL bs).2.2]) ∧ Own w' w.heap.size 35 .u64 v (takeL bs).1 ∧ Below w.heap.size w w' := by
  obtain ⟨rfl, hn, hc⟩ := h
  have hne : ((bs.length : Int) % 8 != 0) = false := by rw [bne_eq_false_iff_eq]; omega
  obtain ⟨m, hm⟩ : ∃ m, m = bs.length / 8 := ⟨_, rfl⟩
  have hm8 : (bs.length : Int) / 8 = (m : Int) := by omega
  have hml : 8 * m = bs.length := by omega
  have HT : Hid (takeL bs = if badIdx (wordsOf bs m) < 0 then (wordsOf bs m, 0, 0) else ([], 8 * badIdx (wordsOf bs m), 3)) := by
    show _ = _
    rw [takeL, if_neg (by omega), hm]
  have HL := Lib.hid hml
  have HC := Lib.hid hc
  have HY := Lib.hid hbs
  obtain ⟨i0, hi, hz0, hz1, hz2⟩ := info_parts info35
  have hle : m ≤ 125000 := by omega
  clear h8 hm hc hml hbs
  go_enter Tryd.func7, Tryd.ntmps7
  go_wp2_with (with_reducible refine wpList_make_full _ rfl _ _ 22 rfl w.heap.size 35 i0 (.int .u64 0) 1 Tryd.underlying22 hi hz0 hz1 .i64 .i64 (m : Int) (m : Int) m rfl rfl rfl rfl (by rw [hz2]; omega) (by unfold maxLen; omega) (Nat.le_refl _) ?_; intro w1 hown1 hgrow1)
  have HB1 : Hid (Below w.heap.size w w1) := (Below.refl _ _).grown hgrow1 (Nat.le_refl _) (by intro k hk; cases hk)
  have HK1 : Hid (Blk w1 w.heap.size 35 (wordCells bs m 0)) := by show Blk _ _ _ _; rw [wordCells_zero]; exact Blk.made hown1
  clear hown1 hgrow1 hm8
  go_loopw [5, 24] (fun _ i wr => ∃ k : Nat, k ≤ m ∧ i = .int .i64 k ∧ Hid (Blk wr w.heap.size 35 (wordCells bs m k)) ∧ Hid (Below w.heap.size w wr)) (fun _ i _ => m - (intOf i).toNat)
  case atStart => exact ⟨0, by omega, rfl, HK1, HB1⟩
  case round =>
    obtain ⟨k, hk, rfl, HK, HB⟩ := hrel
    by_cases hlt : k < m
    · have hb8 : 8 * k + 8 ≤ bs.length := by have := HL.out; omega
      obtain ⟨ad, rfl, hcell0⟩ := HC.out (by omega)
      have hW := word_any (ad.add (8 * k)) (bs.length - 8 * k) (c - 8 * k) ((bs.drop (8 * k)).take 8) wr (by rw [List.length_take, List.length_drop]; omega) (by omega) (fun x hx => HY.out x (List.mem_of_mem_drop (List.mem_of_mem_take hx)))
        (fun j hj => by
          rw [add_add', getD_take _ 0 hj, getD_drop]
          have := hcell0 (8 * k + j) (by omega)
          exact (HB.out.cell (World.block_lt_of_cell? w _ this)).trans this)
      obtain ⟨x, hx⟩ : ∃ x, x = lw ((bs.drop (8 * k)).take 8) := ⟨_, rfl⟩
      rw [← hx] at hW
      have HW := Lib.hid hW
      have HX := Lib.hid hx
      clear hx hW hcell0
      obtain ⟨v, hcell⟩ : ∃ v, wr.cell? ⟨w.heap.size, k, none⟩ = some v := ⟨_, (HK.out.cell k).trans (List.getElem?_eq_getElem (by rw [wordCells_length hk]; exact hlt))⟩
      have hfr : wr.frozen? ⟨w.heap.size, k, none⟩ = false := HK.out.frozen _
      have HK2 : Hid (Blk (wr.setCell ⟨w.heap.size, k, none⟩ (.int .u64 x)) w.heap.size 35 (wordCells bs m (k + 1))) := by
        show Blk _ _ _ _
        rw [← wordCells_succ hlt, ← HX.out]; exact HK.out.setCell k _
      have HB2 : Hid (Below w.heap.size w (wr.setCell ⟨w.heap.size, k, none⟩ (.int .u64 x))) := HB.out.setCell (Nat.le_refl _) _
      go_wp2_with (go_at_call 20; refine HW.out.mono ?_; rintro e w2 ⟨rfl, rfl⟩)
      go_roundw
      case rel => exact ⟨k + 1, by omega, by go_num, HK2, HB2⟩
      case measure => simp [intOf]; omega
    · obtain rfl : k = m := by omega
      have HO : Own wr w.heap.size 35 .u64 (.slice (some ⟨w.heap.size, 0, none⟩) k k) (wordsOf bs k) :=
        HK.out.own (Nat.le_refl _) (wordCells_length hk) (Nat.le_refl _) (by omega) (wordsOf_length bs k) (by rw [List.take_of_length_le (by rw [wordCells_length hk]; omega), wordCells_all])
      obtain ⟨a', c', hv, hr, _⟩ := HO.rd
      injection hv with hv1 hv2 hv3
      subst hv1
      rw [wordsOf_length] at hr
      have HO' := Lib.hid HO
      have HR := Lib.hid hr
      clear HO hr hv2 hv3
      by_cases hb : badIdx (wordsOf bs k) < 0
      · have HT' : Hid (takeL bs = (wordsOf bs k, 0, 0)) := by show _ = _; rw [HT.out, if_pos hb]
        have HCh := Lib.hid (check_ok _ k k (wordsOf bs k) wr HR.out hb)
        go_wp2_with (go_at_call 11; refine HCh.out.mono ?_; rintro e w2 ⟨rfl, rfl⟩)
        go_ret3
        rw [HT'.out]
        exact ⟨_, rfl, HO'.out, HB.out⟩
      · have HT' : Hid (takeL bs = ([], 8 * badIdx (wordsOf bs k), 3)) := by show _ = _; rw [HT.out, if_neg hb]
        have hb2 : badIdx (wordsOf bs k) ≤ 1000000 := by
          rcases badIdx_cases (wordsOf bs k) with h | ⟨j, hj, h, _⟩
          · omega
          · rw [wordsOf_length] at hj; omega
        have HCh := Lib.hid (check_no _ k k (wordsOf bs k) wr HR.out hb)
        go_wp2_with (go_at_call 11; refine HCh.out.mono ?_; rintro e w2 ⟨rfl, rfl⟩)
        go_ret3
        rw [HT'.out]
        exact ⟨_, rfl, Own.nil _ _ _ _, HB.out⟩
end Go.Proofs.YtcdehndodgefnaaDoor
