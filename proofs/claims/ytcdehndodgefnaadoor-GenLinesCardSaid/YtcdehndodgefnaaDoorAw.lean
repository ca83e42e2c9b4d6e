/- Walks: law 4's awake. -/
import Derived.Test.YtcdehndodgefnaaDoorRe
import Derived.Test.YtcdehndodgefnaaDoorTe
set_option linter.unusedVariables false
namespace Go.Proofs.YtcdehndodgefnaaDoor
open Go.RowKit Ab Go.Proofs

/-- The text of a fresh row of bytes. -/
theorem own_text {w : World} {base E : Nat} {xs : List Int} {v : Value} (h : Own w base E .u8 v xs) (src dst : TypeId) {e : TypeId} (hs : Tryd.prog.underlying src = some (.slice e)) (he : Tryd.prog.underlying e = some (.int .u8)) (hd : Tryd.prog.underlying dst = some .string) :
    (convert src dst v).run Tryd.prog w = .ok (.string (strOfNums xs)) w := by
  rcases h.2 with ⟨rfl, hn⟩ | ⟨g, cap, cur, rfl, hb, hh, hn, hm, hs', ht⟩
  · obtain rfl : xs = [] := by cases xs with
      | nil => rfl
      | cons a t => simp at hn
    rw [run_convert_bytes_nil w src e hs he _ _ dst hd]; rfl
  · refine run_convert_bytes_arg w src e hs he g 0 xs.length cap xs rfl (fun i hi => ?_) dst hd
    have := World.ownsRow.cellAt h i (by omega)
    rw [Nat.zero_add, this, List.getElem?_map, List.getElem?_eq_getElem hi, getD_at 0 hi]
    rfl

def s50 : ByteArray := ⟨#[53, 32, 48]⟩
theorem read50 : readL ⟨#[53, 32, 48]⟩ = ([5, 0], 0, 0) := by decide +kernel
theorem text50 : (Lib.join ([5, 0].map fun x : Int => Lib.decDigits x.toNat) [32]).toArray = #[53, 32, 48] := by
  have h5 : Lib.decDigits (5 : Int).toNat = [53] := Lib.decDigits_one (by decide)
  have h0 : Lib.decDigits (0 : Int).toNat = [48] := Lib.decDigits_one (by decide)
  rw [List.map_cons, List.map_cons, List.map_nil, h5, h0]; rfl
theorem words50 : isWords [5, 0] := by intro x hx; simp at hx; omega
theorem words258 : isWords [258] := by intro x hx; simp at hx; omega
theorem add_zero' (a : Addr) : a.add 0 = a := by
  obtain ⟨b, o, s⟩ := a
  unfold Addr.add
  split <;> simp_all
theorem form258 : strOfNums (form [258]) = ⟨#[2, 1, 0, 0, 0, 0, 0, 0]⟩ := by decide +kernel

set_option maxRecDepth 100000 in
set_option maxHeartbeats 2000000 in
theorem awake04 (m : Int) (w : World) (hm : w.cell? ⟨1, 0, none⟩ = some (.int .i64 m)) (htab : Lib.TabIs Tryd.prog w "internal/strconv.uint64pow10" .u64 Lib.pow10Tab) :
    Calls Tryd.prog 5 #[] w fun e w' => e = .returned (.bool true) ∧ Below w.heap.size w w' := by
  have hr := read_some ⟨#[53, 32, 48]⟩ m w (by decide) (by decide) hm
  rw [read50] at hr
  have HR := Lib.hid hr
  have HTab := Lib.hid htab
  clear hr hm htab
  go_enter Tryd.func5, Tryd.ntmps5
  go_wp2_with fail
  refine HR.out.mono ?_
  rintro e w1 ⟨v, rfl, ho, hb1⟩
  obtain ⟨av, cv, rfl, hrd, _⟩ := ho.rd
  have HB1 := Lib.hid hb1
  obtain ⟨_, _, hc1⟩ := hrd
  obtain ⟨ad, rfl, hcell⟩ := hc1 (by decide)
  have hc10 : w1.cell? ad = some (.int .u64 5) := by have h := hcell 0 (by decide); rwa [add_zero'] at h
  have hc11 : w1.cell? (ad.add 1) = some (.int .u64 0) := hcell 1 (by decide)
  clear ho hb1 hc1 hcell
  go_wp2_with fail
  have hu1 : Upd (fun _ => False) w1 (w1.alloc (.cells #[.int .u64 5, .int .u64 0] 35)) := (Upd.refl _ _).alloc _
  have hK := Blk.new w1 35 [.int .u64 5, .int .u64 0]
  have hT := text_any (some ⟨w1.heap.size, 0, none⟩) 2 2 [5, 0] (w1.alloc (.cells #[.int .u64 5, .int .u64 0] 35)) ⟨rfl, by omega, fun _ => ⟨_, rfl, fun j hj => by
      rw [add_plain, hK.cell]
      rcases (show j = 0 ∨ j = 1 by omega) with rfl | rfl <;> rfl⟩⟩ (by omega) (by omega) words50 (tabIs_below HTab.out (HB1.out.alloc HB1.out.size _))
  rw [text50] at hT
  refine hT.mono ?_
  rintro e w2 ⟨rfl, hb2⟩
  have hu2 : Upd (fun _ => False) w1 w2 := hu1.trans (.of_below hb2)
  have hc20 := hu2.cell (fun q => q) hc10
  have hc21 := hu2.cell (fun q => q) hc11
  have HB2 : Hid (Below w.heap.size w w2) := HB1.out.trans (hu2.below.mono HB1.out.size)
  clear hT hK hu1 hb2 hu2 hc10 hc11
  go_wp2_with fail
  have hu3 : Upd (fun _ => False) w2 (w2.alloc (.cells #[.int .u64 258] 35)) := (Upd.refl _ _).alloc _
  have hK := Blk.new w2 35 [.int .u64 258]
  have hP := put_any (some ⟨w2.heap.size, 0, none⟩) 1 1 [258] (w2.alloc (.cells #[.int .u64 258] 35)) ⟨rfl, by omega, fun _ => ⟨_, rfl, fun j hj => by
      rw [add_plain, hK.cell]
      obtain rfl : j = 0 := by omega
      rfl⟩⟩ (by decide) words258
  refine hP.mono ?_
  rintro e w3 ⟨v, rfl, ho, hb3⟩
  have HB3 : Hid (Below w.heap.size w w3) := HB2.out.trans ((hu3.trans (.of_below hb3)).below.mono HB2.out.size)
  obtain ⟨av, cv, rfl, hrd, _⟩ := ho.rd
  obtain ⟨_, _, hc1⟩ := hrd
  obtain ⟨ad3, rfl, hcell⟩ := hc1 (by decide)
  have hcv := own_text ho 23 9 Tryd.underlying23 Tryd.underlying5 Tryd.underlying9
  rw [form258] at hcv
  clear hP hK ho hb3 hc1 hcell hu3 hc20 hc21
  go_wp2
  go_ret
  exact ⟨rfl, HB3.out⟩
end Go.Proofs.YtcdehndodgefnaaDoor
