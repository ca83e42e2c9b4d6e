/- Parts of a row's proof: arguments opened, a table read off the row's list. -/
import Derived.Test.YtcdehndodgefnaaDoorWd
import Derived.Test.YtcdehndodgefnaaDoorProg
import Derived.Test.YtcdehndodgefnaaDoorChecked
import Derived.Deep.DeepHandedRow
import Derived.ProofKit
import Derived.SizedLaws
import Derived.ChangeSlices
import Derived.Lay
import Derived.LaidOnce
import Derived.SevenTiedAt
import Derived.MakeChecks
import Derived.Lib.LaidTab
import Derived.Lib.ItoaMem
import Derived.Carry
import Derived.Shelf.LaysM
set_option linter.unusedVariables false
namespace Go.Proofs.YtcdehndodgefnaaDoor
open Go.ChangeShapes Go.WideShapes Go.ChangeAt Go.RowKit Ab

theorem ownNo : ownKnob Tryd.prog.godebug = none := by kernel_rfl
theorem laidOutOk : laidOutB Tryd.prog = true := by kernel_rfl
theorem cells_u64 : Tryd.prog.cellsOf 35 = 1 := by kernel_rfl
theorem cells_u8 : Tryd.prog.cellsOf 5 = 1 := by kernel_rfl

theorem open_rd {P : Program} {H : Type} {enc : TypeId × Value → H} {W : World} {base : Nat} {t e : TypeId} {k : IntKind} {v : Value} {d : DataW H} {p : List MemPlace} (ht : P.underlying t = some (.slice e)) (he : P.underlying e = some (.int k)) (hc : P.cellsOf e = 1)
    (hval : Value.okWide P W .any base t v) (h : DataW.Trod enc P W 0 (fun _ => true) true t v d p) :
    ∃ a n c xs, v = .slice a n c ∧ Rd W k a n xs ∧ n ≤ c ∧ ∀ x ∈ xs, (Lit.int k x).wf = true := by
  obtain ⟨a, n, c, rfl⟩ := okWide_slice ht hval
  obtain ⟨fuel, hf⟩ := h
  rcases open_ints ht he hc hf with ⟨hcs, _⟩ | ⟨ad, len, cap, zs, hcs, _, hl, hm, hz, _, hcell, hw⟩
  · simp [Value.cells] at hcs
    obtain ⟨rfl, rfl, rfl⟩ := hcs
    exact ⟨none, 0, 0, [], rfl, ⟨rfl, by omega, fun h => by omega⟩, Nat.le_refl _, fun x hx => by cases hx⟩
  · simp [Value.cells] at hcs
    obtain ⟨rfl, rfl, rfl⟩ := hcs
    simp only [if_true] at hz
    have hlz : n ≤ zs.length := by omega
    refine ⟨some ad, n, c, zs.take n, rfl, ⟨by rw [List.length_take]; omega, by unfold maxLen at hm; omega, fun _ => ⟨ad, rfl, fun j hj => ?_⟩⟩, hl, fun x hx => hw x (List.mem_of_mem_take hx)⟩
    rw [getD_take zs 0 hj]
    exact hcell j (by omega)
theorem words_of_wf {xs : List Int} (h : ∀ x ∈ xs, (Lit.int .u64 x).wf = true) : isWords xs := fun x hx => by
  have := h x hx
  simp [Lit.wf, IntKind.min, IntKind.max, IntKind.signed, IntKind.bits] at this
  omega
theorem bytes_of_wf {xs : List Int} (h : ∀ x ∈ xs, (Lit.int .u8 x).wf = true) : isBytes xs := fun x hx => by
  have := h x hx
  simp [Lit.wf, IntKind.min, IntKind.max, IntKind.signed, IntKind.bits] at this
  omega
theorem someMax (W : World) (hsh : W.ShapedOpen Tryd.prog) : ∃ m, W.cell? ⟨1, 0, none⟩ = some (.int .i64 m) :=
  cell_of_shapedOpen_int (P := Tryd.prog) (g := 1) (t := 3) (zero := #[.int .i64 0]) hsh (of_decide_eq_true (by kernel_rfl)) (by kernel_rfl) rfl (by kernel_rfl) (by kernel_rfl) Tryd.underlying3
theorem tab_pow10 {W : World} {rest : List (String × DataW Unit)} (h : laidMet Tryd.prog (("internal/strconv.uint64pow10", Lib.tabData .u64 Lib.pow10Tab) :: rest) W) : Lib.TabIs Tryd.prog W "internal/strconv.uint64pow10" .u64 Lib.pow10Tab :=
  Lib.tabIs_of_head (g := 2) (t := 117) (e := 35) (n := 20) (by kernel_rfl) (by kernel_rfl) Tryd.underlying117 Tryd.underlying35 cells_u64 (by kernel_rfl) h
end Go.Proofs.YtcdehndodgefnaaDoor
