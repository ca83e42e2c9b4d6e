/- Walks: a row's text. -/
import Derived.Test.YtcdehndodgefnaaDoorFu
import Derived.Lib.ItoaLen
import Derived.Lib.Join
set_option linter.unusedVariables false
namespace Go.Proofs.YtcdehndodgefnaaDoor
open Go.RowKit Ab Go.Proofs

theorem tabIs_below {w w' : World} {name : String} {k : IntKind} {tab : List Int} (h : Lib.TabIs Tryd.prog w name k tab) (hb : Below w.heap.size w w') : Lib.TabIs Tryd.prog w' name k tab := by
  unfold Lib.TabIs World.var? at *
  cases hg : Tryd.prog.globalNamed name with
  | none => simp [hg] at h
  | some g =>
    simp only [hg, Option.bind_some] at h ⊢
    have hlt : g < w.heap.size := by
      rcases Nat.lt_or_ge g w.heap.size with h' | h'
      · exact h'
      · rw [Array.getElem?_eq_none h'] at h; simp at h
    rw [hb.block g hlt]
    exact h
def decT (x : Int) : ByteArray := ⟨(Lib.decDigits x.toNat).toArray⟩
theorem info9 : (Tryd.prog.info? 9).map (fun i => (i.zero, i.size, i.bytes)) = some (some (.string ⟨#[]⟩), 1, 16) := by kernel_rfl

theorem join_len (l : List Int) (hl : l.length ≤ 1000) (hw : isWords l) : (Lib.join (l.map ((fun x : ByteArray => x.data.toList) ∘ decT)) (⟨#[32]⟩ : ByteArray).data.toList).length ≤ 140737488355328 := by
  have key : ∀ l : List Int, isWords l → Lib.lens (l.map ((fun x : ByteArray => x.data.toList) ∘ decT)) ≤ 20 * l.length := by
    intro l
    induction l with
    | nil => intro _; decide
    | cons a t ih =>
      intro hw
      have h1 := hw a (by simp)
      have h2 := ih fun x hx => hw x (by simp [hx])
      have h3 : (Lib.decDigits a.toNat).length ≤ 20 := by rw [Lib.decDigits_length]; exact Lib.nDigits_le20 _ (by omega)
      have h4 : Lib.lens ((a :: t).map ((fun x : ByteArray => x.data.toList) ∘ decT)) = (Lib.decDigits a.toNat).length + Lib.lens (t.map ((fun x : ByteArray => x.data.toList) ∘ decT)) := by
        simp [Lib.lens, decT]
      rw [h4, List.length_cons]; omega
  cases l with
  | nil => decide
  | cons a t =>
    rw [List.map_cons, Lib.join_length, ← List.map_cons, List.length_map]
    have := key (a :: t) hw
    rw [List.length_cons] at this hl
    have hs : ((⟨#[32]⟩ : ByteArray).data.toList).length = 1 := rfl
    rw [hs]
    omega

set_option maxRecDepth 100000 in
set_option maxHeartbeats 2000000 in
theorem text_any (a : Option Addr) (n c : Nat) (l : List Int) (w : World) (h : Rd w .u64 a n l) (h1 : 1 ≤ n) (hl : n ≤ 1000) (hlw : isWords l) (htab : Lib.TabIs Tryd.prog w "internal/strconv.uint64pow10" .u64 Lib.pow10Tab) :
    Calls Tryd.prog 18 #[.slice a n c] w fun e w' => e = .returned (.string ⟨(Lib.join (l.map fun x => Lib.decDigits x.toNat) [32]).toArray⟩) ∧ Below w.heap.size w w' := by
  obtain ⟨rfl, hn, hc⟩ := h
  have HC := Lib.hid hc
  have HW := Lib.hid hlw
  have HTab := Lib.hid htab
  obtain ⟨i0, hi, hz0, hz1, hz2⟩ := info_parts info9
  clear hc hlw htab
  go_enter Tryd.func18, Tryd.ntmps18
  go_wp2
  go_loopw [3, 5, 8] (fun v _ i wr => ∃ k : Nat, k ≤ l.length ∧ i = .int .i64 k ∧ Hid (wr.ownsRow w.heap.size 9 1 v k ((l.take k).map fun x => Value.string (decT x))) ∧ Hid (Below w.heap.size w wr)) (fun _ _ i _ => l.length - (intOf i).toNat)
  case atStart => exact ⟨0, by omega, rfl, World.ownsRow_nil _ _ _ _, Below.refl _ _⟩
  case round =>
    obtain ⟨k, hk, rfl, HO, HB⟩ := hrel
    by_cases hlt : k < l.length
    · obtain ⟨ad, rfl, hcell0⟩ := HC.out (by omega)
      obtain ⟨x, hx⟩ : ∃ x, x = l.getD k 0 := ⟨_, rfl⟩
      have hxr := HW.out _ (getD_mem hlt)
      rw [← hx] at hxr
      obtain ⟨u, rfl⟩ : ∃ u : Nat, x = u := ⟨x.toNat, by omega⟩
      have hcell : wr.cell? (ad.add k) = some (.int .u64 u) := by rw [hx]; exact (HB.out.cell (World.block_lt_of_cell? w _ (hcell0 k hlt))).trans (hcell0 k hlt)
      have HF := Lib.hid (formatUint_any u (by omega) wr (tabIs_below HTab.out HB.out))
      have HX := Lib.hid hx
      clear hx hcell0 hxr
      go_wp2_with fail
      refine HF.out.mono ?_
      rintro e w1 ⟨rfl, hb1⟩
      have hO1 : w1.ownsRow w.heap.size 9 1 u3 k ((l.take k).map fun x => Value.string (decT x)) := HO.out.kept (row := none) ⟨hb1.os, hb1.tape, hb1.output, hb1.size, fun q hq _ => hb1.block q hq⟩ (by cases u3.ownBlock <;> simp)
      have HO1 := Lib.hid hO1
      have HB1 : Hid (Below w.heap.size w w1) := HB.out.trans (hb1.mono HB.out.size)
      clear hO1 hb1
      go_wp2_with (at_builtin; refine wpList_append_own _ rfl _ _ 62 rfl w.heap.size 9 i0 (.string ⟨#[]⟩) 1 16 Tryd.underlying62 hi hz0 hz1 hz2 rfl (by decide) _ _ _ rfl (HO1.out.alloc _) ⟨w1.heap.size, 0, none⟩ 1 1 [.string ⟨(Lib.decDigits u).toArray⟩] rfl rfl ?c1 ?c2 ?c3 ?c4 ?c5 ?_)
      case c1 => exact cell_one _ _ _
      case c2 => intro u hu; simp at hu; subst hu; rfl
      case c3 => unfold maxLen; omega
      case c4 => omega
      case c5 => have := HB1.out.size; simp; omega
      intro v' w2 hown hgrow _
      have HO2 : Hid (w2.ownsRow w.heap.size 9 1 v' (k + 1) ((l.take (k + 1)).map fun x => Value.string (decT x))) := by
        show World.ownsRow _ _ _ _ _ _ _
        rw [take_succ_getD 0 hlt, List.map_append, ← HX.out]; rw [← List.map_take] at hown; exact hown
      have HB2 : Hid (Below w.heap.size w w2) := (HB1.out.alloc HB1.out.size _).grown hgrow (by have := HB1.out.size; simp; omega) (fun b hb => (World.ownsRow.lt HO1.out b hb).1)
      clear hown hgrow
      go_wp2
      go_roundw
      case rel => exact ⟨k + 1, by omega, by go_num, HO2, HB2⟩
      case measure => simp [intOf]; omega
    · obtain rfl : k = l.length := by omega
      have hO := HO.out
      rw [List.take_length] at hO
      obtain ⟨g, cap, rfl, hgw, hcap, hcells⟩ : ∃ g cap, u3 = .slice (some ⟨g, 0, none⟩) l.length cap ∧ g < wr.heap.size ∧ l.length ≤ cap ∧ ∀ (j : Nat) x, (l.map decT)[j]? = some x → wr.cell? ⟨g, 0 + j, none⟩ = some (.string x) := by
        have hlt2 := World.ownsRow.lt hO
        rcases hO.2 with ⟨_, hn0⟩ | ⟨g, cap, cur, hv, _, hh, hnc, _⟩
        · omega
        · subst hv
          refine ⟨g, cap, rfl, (hlt2 g rfl).2, hnc, fun j x hj => ?_⟩
          have hjl : j < l.length := by
            rcases Nat.lt_or_ge j l.length with h | h
            · exact h
            · rw [List.getElem?_eq_none (by rw [List.length_map]; exact h)] at hj; cases hj
          rw [Nat.zero_add, World.ownsRow.cellAt hO j (by omega), List.getElem?_map]
          rw [List.getElem?_map] at hj
          cases hlj : l[j]? with
          | none => rw [hlj] at hj; cases hj
          | some y => rw [hlj] at hj; cases hj; rfl
      have hJ := Tryd.strings_Join g 0 cap (l.map decT) ⟨#[32]⟩ wr hcells hgw (by rw [List.length_map]; omega) (by rw [List.length_map]; exact hcap) (by rw [List.map_map]; exact join_len l hl HW.out)
      rw [List.length_map, List.map_map] at hJ
      have HJ := Lib.hid hJ
      clear hO hcells hJ HO
      go_wp2_with fail
      refine HJ.out.mono ?_
      rintro e w2 ⟨rfl, hb2⟩
      have HB2 : Hid (Below w.heap.size w w2) := HB.out.trans (hb2.mono HB.out.size)
      clear hb2
      go_wp2
      go_ret
      exact ⟨rfl, HB2.out⟩
end Go.Proofs.YtcdehndodgefnaaDoor
