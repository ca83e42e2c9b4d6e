/- Walks: the field: canonical words, what a wide number leaves, sums and products. -/
import Derived.Test.YtcdehndodgefnaaDoorWi
import Derived.Test.YtcdehndodgefnaaDoorRd
import Derived.Test.YtcdehndodgefnaaDoorShelf
import Derived.Laws.MathBits
set_option linter.unusedVariables false
namespace Go.Proofs.YtcdehndodgefnaaDoor
open Go.RowKit Ab Go.Proofs

def ofI (a : Int) : Int := if 18446744069414584321 ≤ a then a - 18446744069414584321 else a
theorem of_any (a : Int) (w : World) (h0 : 0 ≤ a) (h1 : a < 18446744073709551616) : Calls Tryd.prog 86 #[.int .u64 a] w fun e w' => e = .returned (.int .u64 (ofI a)) ∧ w = w' := by
  by_cases h : 18446744069414584321 ≤ a
  · go_enter Tryd.func86, Tryd.ntmps86
    go_wp2
    go_ret
    exact ⟨ret_int (by rw [ofI, if_pos h]), rfl⟩
  · go_enter Tryd.func86, Tryd.ntmps86
    go_wp2
    go_ret
    exact ⟨ret_int (by rw [ofI, if_neg (by omega)]), rfl⟩

theorem wrap_u64 (n : Int) : IntKind.u64.wrap n = n % 18446744073709551616 := by simp [IntKind.wrap, IntKind.bits, IntKind.signed]
theorem red_of (hi lo t s : Int) (h0 : 0 ≤ hi) (h1 : hi < 18446744073709551616) (l0 : 0 ≤ lo) (l1 : lo < 18446744073709551616)
    (ht : t = if lo < hi / 4294967296 then ((lo - hi / 4294967296) % 18446744073709551616 - 4294967295) % 18446744073709551616 else (lo - hi / 4294967296) % 18446744073709551616)
    (hs : s = if (t + hi % 4294967296 * 4294967295) % 18446744073709551616 < hi % 4294967296 * 4294967295 then ((t + hi % 4294967296 * 4294967295) % 18446744073709551616 + 4294967295) % 18446744073709551616 else (t + hi % 4294967296 * 4294967295) % 18446744073709551616) :
    ofI s = (hi * 18446744073709551616 + lo) % 18446744069414584321 := red_parts hi lo h0 h1 l0 l1 t s (ofI s) ht hs rfl
set_option maxHeartbeats 1000000 in
theorem reduce_any (hi lo : Int) (w : World) (h0 : 0 ≤ hi) (h1 : hi < 18446744073709551616) (l0 : 0 ≤ lo) (l1 : lo < 18446744073709551616) :
    Calls Tryd.prog 87 #[.agg #[.int .u64 hi, .int .u64 lo]] w fun e w' => e = .returned (.int .u64 ((hi * 18446744073709551616 + lo) % 18446744069414584321)) ∧ Below w.heap.size w w' := by
  have hand := and_low32 hi h0 h1
  have hbelow : ∀ n, Below w.heap.size w ((w.alloc (Obj.cells #[Value.int IntKind.u64 hi, Value.int IntKind.u64 lo] 73)).drewN n) := fun n => below_drewN ((Below.refl _ _).alloc (Nat.le_refl _) _) n
  have HBel := Lib.hid hbelow
  clear hbelow
  go_enter Tryd.func87, Tryd.ntmps87
  go_wp2_with fail
  go_quiet (fail)
  go_wp2_with fail
  · refine (of_any _ _ (by rw [wrap_u64]; omega) (by rw [wrap_u64]; omega)).mono ?_
    rintro e w' ⟨rfl, rfl⟩
    have c1 : lo < hi / 4294967296 := by assumption
    have c2 : IntKind.u64.wrap (IntKind.u64.wrap (IntKind.u64.wrap (lo - hi / 4294967296) - 4294967295) + hi % 4294967296 * 4294967295) < hi % 4294967296 * 4294967295 := by assumption
    
    have key := red_of hi lo _ _ h0 h1 l0 l1 (if_pos c1).symm (if_pos (by simp only [wrap_u64] at c2 ⊢; omega)).symm
    simp only [wrap_u64] at key ⊢
    rw [key]
    clear key c1 c2
    go_wp2
    go_ret
    exact ⟨rfl, HBel.out _⟩
  · refine (of_any _ _ (by rw [wrap_u64]; omega) (by rw [wrap_u64]; omega)).mono ?_
    rintro e w' ⟨rfl, rfl⟩
    have c1 : lo < hi / 4294967296 := by assumption
    have c2 : hi % 4294967296 * 4294967295 ≤ IntKind.u64.wrap (IntKind.u64.wrap (IntKind.u64.wrap (lo - hi / 4294967296) - 4294967295) + hi % 4294967296 * 4294967295) := by assumption
    
    have key := red_of hi lo _ _ h0 h1 l0 l1 (if_pos c1).symm (if_neg (by simp only [wrap_u64] at c2 ⊢; omega)).symm
    simp only [wrap_u64] at key ⊢
    rw [key]
    clear key c1 c2
    go_wp2
    go_ret
    exact ⟨rfl, HBel.out _⟩
  · refine (of_any _ _ (by rw [wrap_u64]; omega) (by rw [wrap_u64]; omega)).mono ?_
    rintro e w' ⟨rfl, rfl⟩
    have c1 : hi / 4294967296 ≤ lo := by assumption
    have c2 : IntKind.u64.wrap (lo - hi / 4294967296 + hi % 4294967296 * 4294967295) < hi % 4294967296 * 4294967295 := by assumption
    have c3 : (lo - hi / 4294967296) % 18446744073709551616 = lo - hi / 4294967296 := by omega
    have key := red_of hi lo _ _ h0 h1 l0 l1 (if_neg (by omega)).symm (if_pos (by simp only [wrap_u64, c3] at c2 ⊢; omega)).symm
    simp only [wrap_u64, c3] at key ⊢
    rw [key]
    clear key c1 c2 c3
    go_wp2
    go_ret
    exact ⟨rfl, HBel.out _⟩
  · refine (of_any _ _ (by rw [wrap_u64]; omega) (by rw [wrap_u64]; omega)).mono ?_
    rintro e w' ⟨rfl, rfl⟩
    have c1 : hi / 4294967296 ≤ lo := by assumption
    have c2 : hi % 4294967296 * 4294967295 ≤ IntKind.u64.wrap (lo - hi / 4294967296 + hi % 4294967296 * 4294967295) := by assumption
    have c3 : (lo - hi / 4294967296) % 18446744073709551616 = lo - hi / 4294967296 := by omega
    have key := red_of hi lo _ _ h0 h1 l0 l1 (if_neg (by omega)).symm (if_neg (by simp only [wrap_u64, c3] at c2 ⊢; omega)).symm
    simp only [wrap_u64, c3] at key ⊢
    rw [key]
    clear key c1 c2 c3
    go_wp2
    go_ret
    exact ⟨rfl, HBel.out _⟩
theorem ofI_mod (a : Int) (h0 : 0 ≤ a) (h1 : a < 18446744073709551616) : ofI a = a % 18446744069414584321 := by unfold ofI; split <;> omega
theorem of_mod (a : Int) (w : World) (h0 : 0 ≤ a) (h1 : a < 18446744073709551616) : Calls Tryd.prog 86 #[.int .u64 a] w fun e w' => e = .returned (.int .u64 (a % 18446744069414584321)) ∧ w = w' := by
  have := of_any a w h0 h1
  rwa [ofI_mod a h0 h1] at this
theorem mul64_int (x y : Int) (w : World) (hx0 : 0 ≤ x) (hx : x < 18446744073709551616) (hy0 : 0 ≤ y) (hy : y < 18446744073709551616) :
    Calls Tryd.prog 97 #[.int .u64 x, .int .u64 y] w fun e w' => e = .returned (.tuple #[.int .u64 (x * y / 18446744073709551616), .int .u64 (x * y % 18446744073709551616)]) ∧ w = w' := by
  obtain ⟨a, rfl⟩ := Int.eq_ofNat_of_zero_le hx0
  obtain ⟨b, rfl⟩ := Int.eq_ofNat_of_zero_le hy0
  refine (Tryd.bits_Mul64 a b (by omega) (by omega) w).mono ?_
  rintro e w' ⟨rfl, rfl⟩
  exact ⟨by rw [Int.natCast_ediv, Int.natCast_emod, Int.natCast_mul]; rfl, rfl⟩
theorem wideMul_any (x y : Int) (w : World) (hx0 : 0 ≤ x) (hx : x < 18446744073709551616) (hy0 : 0 ≤ y) (hy : y < 18446744073709551616) :
    Calls Tryd.prog 88 #[.int .u64 x, .int .u64 y] w fun e w' => e = .returned (.agg #[.int .u64 (x * y / 18446744073709551616), .int .u64 (x * y % 18446744073709551616)]) ∧ Below w.heap.size w w' := by
  go_enter Tryd.func88, Tryd.ntmps88
  go_wp2_with fail
  refine (mul64_int x y _ hx0 hx hy0 hy).mono ?_
  rintro e w' ⟨rfl, rfl⟩
  go_wp2
  refine bodyPost_ret (v := .agg #[.int .u64 (x * y / 18446744073709551616), .int .u64 (x * y % 18446744073709551616)]) (by simp [results, Tryd.results88, go_sem]) rfl ⟨rfl, ?_⟩
  exact (Below.refl _ _).alloc (Nat.le_refl _) _
theorem add_red (x y : Int) (hx0 : 0 ≤ x) (hy0 : 0 ≤ y) : ((0 + 0 + (x % 18446744069414584321 + y % 18446744069414584321) / 18446744073709551616) % 18446744073709551616 * 18446744073709551616 + (x % 18446744069414584321 + y % 18446744069414584321) % 18446744073709551616) % 18446744069414584321 = (x + y) % 18446744069414584321 := by
  have key : ∀ a b : Int, 0 ≤ a → a < 18446744069414584321 → 0 ≤ b → b < 18446744069414584321 → (0 + 0 + (a + b) / 18446744073709551616) % 18446744073709551616 * 18446744073709551616 + (a + b) % 18446744073709551616 = a + b := fun a b h1 h2 h3 h4 => by omega
  rw [key _ _ (by omega) (by omega) (by omega) (by omega), ← Int.add_emod]
theorem goldAdd_any (x y : Int) (w : World) (hx0 : 0 ≤ x) (hx : x < 18446744073709551616) (hy0 : 0 ≤ y) (hy : y < 18446744073709551616) :
    Calls Tryd.prog 63 #[.int .u64 x, .int .u64 y] w fun e w' => e = .returned (.int .u64 ((x + y) % 18446744069414584321)) ∧ Below w.heap.size w w' := by
  obtain ⟨a, ha⟩ : ∃ a, a = x % 18446744069414584321 := ⟨_, rfl⟩
  obtain ⟨b, hb⟩ : ∃ b, b = y % 18446744069414584321 := ⟨_, rfl⟩
  have a0 : 0 ≤ a := by omega
  have a1 : a < 18446744069414584321 := by omega
  have b0 : 0 ≤ b := by omega
  have b1 : b < 18446744069414584321 := by omega
  have hA := of_mod x w hx0 hx
  have hB := of_mod y w hy0 hy
  rw [← ha] at hA
  rw [← hb] at hB
  obtain ⟨hi, hhi⟩ : ∃ hi, hi = (0 + 0 + (a + b) / 18446744073709551616) % 18446744073709551616 := ⟨_, rfl⟩
  obtain ⟨lo, hlo⟩ : ∃ lo, lo = (a + b) % 18446744073709551616 := ⟨_, rfl⟩
  have hS := wideAdd_any 0 a 0 b w (by omega) a0 (by omega) b0 (by omega) (by omega) (by omega) (by omega)
  rw [← hhi, ← hlo] at hS
  have HE : Hid ((hi * 18446744073709551616 + lo) % 18446744069414584321 = (x + y) % 18446744069414584321) := by show _ = _; rw [hhi, hlo, ha, hb]; exact add_red x y hx0 hy0
  have hr := fun W => reduce_any hi lo W (by omega) (by omega) (by omega) (by omega)
  have HA := Lib.hid hA
  have HB := Lib.hid hB
  have HS := Lib.hid hS
  have HR := Lib.hid hr
  clear hA hB hS ha hb hhi hlo hr
  go_enter Tryd.func63, Tryd.ntmps63
  go_wp2_with fail
  refine HA.out.mono ?_
  rintro e w' ⟨rfl, rfl⟩
  go_wp2_with fail
  refine HB.out.mono ?_
  rintro e w' ⟨rfl, rfl⟩
  go_wp2_with fail
  refine HS.out.mono ?_
  rintro e w1 ⟨rfl, hb1⟩
  have HB1 := Lib.hid hb1
  clear hb1
  go_wp2_with fail
  refine (HR.out _).mono ?_
  rintro e w2 ⟨rfl, hb2⟩
  rw [HE.out]
  have HB2 : Hid (Below w.heap.size w w2) := (HB1.out.alloc HB1.out.size _).trans (hb2.mono (by have := HB1.out.size; simp; omega))
  clear hb2
  go_wp2
  go_ret
  exact ⟨rfl, HB2.out⟩
theorem goldMul_any (x y : Int) (w : World) (hx0 : 0 ≤ x) (hx : x < 18446744073709551616) (hy0 : 0 ≤ y) (hy : y < 18446744073709551616) :
    Calls Tryd.prog 64 #[.int .u64 x, .int .u64 y] w fun e w' => e = .returned (.int .u64 (x * y % 18446744069414584321)) ∧ Below w.heap.size w w' := by
  obtain ⟨p, hp⟩ : ∃ p, p = x * y := ⟨_, rfl⟩
  have hm := wideMul_any x y w hx0 hx hy0 hy
  have p0 : 0 ≤ p := by rw [hp]; exact Int.mul_nonneg hx0 hy0
  have p1 : p < 18446744073709551616 * 18446744073709551616 := by
    rw [hp]; exact Int.lt_of_le_of_lt (Int.mul_le_mul_of_nonneg_right (Int.le_of_lt hx) hy0) (Int.mul_lt_mul_of_pos_left hy (by decide))
  rw [← hp] at hm
  obtain ⟨hi, hhi⟩ : ∃ hi, hi = p / 18446744073709551616 := ⟨_, rfl⟩
  obtain ⟨lo, hlo⟩ : ∃ lo, lo = p % 18446744073709551616 := ⟨_, rfl⟩
  rw [← hhi, ← hlo] at hm
  have HE : Hid ((hi * 18446744073709551616 + lo) % 18446744069414584321 = x * y % 18446744069414584321) := by show _ = _; rw [← hp]; congr 1; omega
  have hr := fun W => reduce_any hi lo W (by omega) (by omega) (by omega) (by omega)
  have HM := Lib.hid hm
  have HR := Lib.hid hr
  clear hm hr hp hhi hlo p0 p1
  go_enter Tryd.func64, Tryd.ntmps64
  go_wp2_with fail
  refine HM.out.mono ?_
  rintro e w1 ⟨rfl, hb1⟩
  have HB1 := Lib.hid hb1
  clear hb1
  go_wp2_with fail
  refine (HR.out _).mono ?_
  rintro e w2 ⟨rfl, hb2⟩
  rw [HE.out]
  have HB2 : Hid (Below w.heap.size w w2) := HB1.out.trans (hb2.mono HB1.out.size)
  clear hb2
  go_wp2
  go_ret
  exact ⟨rfl, HB2.out⟩
end Go.Proofs.YtcdehndodgefnaaDoor
