/- Proved: whatever rule and whatever text come in, abacistlaw38.GenLines answers true and leaves both as they were. Conditions: the row lists the kinds' table of package gen and four tables of Go library packages, tied to the text of the program, and one pinned table; no other. -/
import Derived.Test.YtcdehndodgefnaaDoorRb
import Derived.Test.YtcdehndodgefnaaDoorLg
import Derived.Test.YtcdehndodgefnaaDoorTie
import Derived.Test.YtcdehndodgefnaaDoorCards
import Derived.Stop.LaidErr
import Derived.OpenShut
import Derived.Lib.SmallJoins
set_option linter.unusedVariables false
set_option linter.unusedSimpArgs false
namespace Go.Proofs.YtcdehndodgefnaaDoor
open Go.ChangeShapes Go.WideShapes Go.ChangeAt Go.RowKit Ab

theorem genLines_max (W : World) (hsh : W.ShapedOpen Tryd.prog) : ∃ m, W.cell? ⟨1, 0, none⟩ = some (.int .i64 m) := someMax W hsh
theorem genLines_tab {W : World} (hL : laidMet Tryd.prog Rows.genLinesRow.laid W) : Lib.TabIs Tryd.prog W "internal/strconv.uint64pow10" .u64 Lib.pow10Tab := tab_pow10 (laidMet.tail (laidMet.tail hL))

theorem kind_cells {H : Type} {enc : TypeId × Value → H} {W : World} {base : Nat} {sp : Nat → Bool} {held : Bool} {m : Nat} {c0 c1 : Value} {x : DataW H × List MemPlace} {s : List UInt8} {n : Int}
    (h : DataW.trod enc Tryd.prog W base sp held m 56 [c0, c1] = some x) (hx : x.1 = .agg [.lit (.string s), .lit (.int .i64 n)]) : c0 = .string ⟨s.toArray⟩ ∧ c1 = .int .i64 n := by
  obtain ⟨y0, y1, q, ex, _, h0, h1⟩ := trod_struct2 Tryd.underlying56 h
  have e0 : Tryd.prog.cellsOf 9 = 1 := by kernel_rfl
  have e1 : Tryd.prog.cellsOf 3 = 1 := by kernel_rfl
  simp only [e0, e1] at h0 h1
  obtain ⟨s', hs, hy0, _⟩ := DataW.trod_string Tryd.underlying9 h0
  obtain ⟨n', hn, hy1, _⟩ := DataW.trod_int Tryd.underlying3 h1
  rw [ex] at hx
  have e := DataW.agg.inj hx
  rw [hy0, hy1] at e
  simp only [List.cons.injEq, DataW.lit.injEq, Lit.string.injEq, Lit.int.injEq, true_and, and_true] at e
  simp at hs hn
  refine ⟨?_, by rw [hn, e.2]⟩
  rw [hs, ← e.1]
set_option maxRecDepth 100000 in
theorem genLines_kinds {W : World} (hL : laidMet Tryd.prog Rows.genLinesRow.laid W) : KindsAt W := by
  have h := laidMet.tail (laidMet.tail (laidMet.tail (laidMet.tail hL)))
  obtain ⟨ps, ⟨g, t, cs, fuel, p, q, hg, ht, hv, hd, _, _⟩, _, _⟩ := h
  obtain rfl := Option.some.inj ((show Tryd.prog.globalNamed "abacist/gen.kinds" = some 0 by kernel_rfl).symm.trans hg)
  obtain rfl := Option.some.inj ((show (Tryd.prog.globals[0]?).map (·.type) = some 57 by kernel_rfl).symm.trans ht)
  have c5 : Tryd.prog.cellsOf 56 = 2 := by kernel_rfl
  have c29 : Tryd.prog.cellsOf 57 = 12 := by kernel_rfl
  obtain ⟨xs, m, _, ex, hlen, hl, hel⟩ := DataW.trod_array Tryd.underlying57 hd
  rw [c29] at hlen
  obtain ⟨l⟩ := cs
  match l, hlen with
  | [a0, a1, a2, a3, a4, a5, a6, a7, a8, a9, a10, a11], _ =>
    match xs, hl with
    | [x0, x1, x2, x3, x4, x5], _ =>
      have e3 := (DataW.agg.inj (Prod.mk.inj ex).1)
      simp only [List.map_cons, List.map_nil, List.cons.injEq, and_true] at e3
      obtain ⟨e0, e1, e2, e4, e5, e6⟩ := e3
      have k0 := hel 0 (by omega); have k1 := hel 1 (by omega); have k2 := hel 2 (by omega); have k3 := hel 3 (by omega); have k4 := hel 4 (by omega); have k5 := hel 5 (by omega)
      rw [c5] at k0 k1 k2 k3 k4 k5
      obtain ⟨b0, b1⟩ := kind_cells (s := []) (n := 0) k0 e0.symm
      obtain ⟨b2, b3⟩ := kind_cells (s := [99, 111, 110, 115, 116]) (n := 1) k1 e1.symm
      obtain ⟨b4, b5⟩ := kind_cells (s := [108, 105, 110, 101]) (n := 2) k2 e2.symm
      obtain ⟨b6, b7⟩ := kind_cells (s := [112, 111, 119, 101, 114]) (n := 2) k3 e4.symm
      obtain ⟨b8, b9⟩ := kind_cells (s := [99, 104, 97, 105, 110]) (n := 3) k4 e5.symm
      obtain ⟨b10, b11⟩ := kind_cells (s := [112, 117, 108, 115, 101]) (n := 3) k5 e6.symm
      have hc := fun j => World.var?_cell (show Tryd.prog.globalNamed "abacist/gen.kinds" = some 0 by kernel_rfl) hv j
      intro j v hj
      rw [hc]
      rw [b0, b1, b2, b3, b4, b5, b6, b7, b8, b9, b10, b11]
      simpa [kindCells] using hj
set_option maxRecDepth 100000 in
theorem genLines_lifted (os : Os) (started : os.Started) (H : Type) (enc : TypeId × Value → H) (F : Stop.Interp) :
    ReturnsInHanded {} Tryd.checked os 4 .any ((OpenSpec.ofChange Rows.genLinesSpec).preRow enc Tryd.prog Tryd.f4 Rows.genLinesRow.domain false Rows.genLinesRow.laid) (((OpenSpec.ofChange Rows.genLinesSpec).at F).post enc Tryd.prog Tryd.f4 false true false false) := by
  refine returnsInHanded_of_row (C := Tryd.checked) (s := OpenSpec.ofChange Rows.genLinesSpec) ownNo started (by kernel_rfl) Tryd.func4
    (witness_row_at (enc := enc) (C := Tryd.checked) false (World.laidAll Tryd.prog os Rows.genLinesRow.laid) #[.agg #[.int .i64 0, .int .u64 0, .int .u64 0, .int .u64 0], .string ⟨#[]⟩] (World.laidAll_os _ _ _) (by kernel_rfl) (by kernel_rfl) (by kernel_rfl)
      (OpenSpec.preRow_of_B rfl 8 (by kernel_rfl) (by kernel_rfl) (by rw [MakeChecks.laidMetH_plain _ _ _ (by kernel_rfl)]; exact laidMet_laidAll _ (by kernel_rfl) (by kernel_rfl)))) ?_
  intro W base args ds gs before hval0 hW _ _ _ hL hsh _
  have hval : ∀ (j : Nat) t v, Tryd.f4.params[j]? = some t → args[j]? = some v → Value.okWide Tryd.prog W .any base t v := hval0
  have hW' := hW
  obtain ⟨p, q, hA0, hV0, rfl, _, _⟩ := hW
  have hA : DataW.TrodAll enc Tryd.prog W 0 (fun _ => true) true Tryd.f4.params.toList args.toList ds p := hA0
  rw [Tryd.params4] at hA hval
  obtain ⟨v0, v1, d0, d1, p0, p1, rfl, rfl, rfl, h0, h1⟩ := trodAll_two hA
  obtain ⟨rfl, rfl⟩ := trodVars_none hV0
  obtain ⟨y0, y1, y2, y3, z0, z1, z2, z3, n, rfl, _, _, g0, g1, g2, g3⟩ := Go.Joins.open_agg4 Tryd.underlying38 (by kernel_rfl) (by kernel_rfl) (hval 0 38 v0 rfl rfl) h0
  obtain ⟨k, ek, _, wk⟩ := DataW.trod_int Tryd.underlying3 g0
  obtain ⟨a, ea, _, wa⟩ := DataW.trod_int Tryd.underlying35 g1
  obtain ⟨b, eb, _, wb⟩ := DataW.trod_int Tryd.underlying35 g2
  obtain ⟨c, ec, _, wc⟩ := DataW.trod_int Tryd.underlying35 g3
  injection ek with ek
  injection ea with ea
  injection eb with eb
  injection ec with ec
  subst ek
  subst ea
  subst eb
  subst ec
  obtain ⟨s, rfl, hd1, hp1, hs⟩ := Go.ChangeMaps.open_string Tryd.underlying9 (hval 1 9 v1 rfl rfl) h1
  simp only [List.append_nil] at hW'
  have hlt : ∀ x ∈ p0 ++ p1, x.block < W.heap.size := fun x hx => by simpa using hW'.lt x hx
  rw [MakeChecks.laidMetH_plain _ _ _ (by kernel_rfl)] at hL
  obtain ⟨m, hm⟩ := genLines_max W hsh
  have hww : isWords [a, b, c] := words_of_wf (fun x hx => by
    simp at hx
    rcases hx with rfl | rfl | rfl
    · exact wa
    · exact wb
    · exact wc)
  refine (genLines_any k a b c s m W hww (by unfold maxLen at hs; omega) (genLines_kinds hL) hm (genLines_tab hL)).mono ?_
  rintro e W' ⟨rfl, bel⟩
  have e1 : ((OpenSpec.ofChange Rows.genLinesSpec).at F).fn H ([d0, d1] ++ []) = { results := [.lit (.bool true)], args := [d0, d1] } := rfl
  refine ⟨_, rfl, _, _, _, [], p0 ++ p1, [], hW', ?_, ?_, ?_, bel.frame _, fun h => by cases h⟩
  · rw [e1]; exact trodAll_mk1 (shut_bool Tryd.underlying4 _)
  · rw [e1]; exact trodAll_mk2 (Below.trod laidOutOk (by kernel_rfl) (of_decide_eq_true (by kernel_rfl)) h0 bel (fun x hx => hlt x (by simp [hx]))) (Below.trod laidOutOk (by kernel_rfl) (of_decide_eq_true (by kernel_rfl)) h1 bel (fun x hx => hlt x (by simp [hx])))
  · rw [e1]; rfl

theorem genLines_holds : Rows.GenLinesSaid :=
  OpenClaim.holds_of_cond 4 Tryd.f4 rfl rfl rfl rfl rfl rfl rfl ⟨rfl, rfl, rfl, rfl, rfl⟩ rfl rfl rfl rfl rfl (by kernel_rfl) Tryd.func4 (by kernel_rfl)
    (of_decide_eq_true (by kernel_rfl)) (by unfold Func.isWrapper; first | (rw [if_pos (by decide +kernel)]; kernel_rfl) | (rw [if_neg (by decide +kernel)]; exact ⟨rfl, rfl⟩))
    (fun os started H enc _ F0 => by rw [OpenClaim.pre_eq_preRow]; exact genLines_lifted os started H enc F0)

theorem genLines_card : Rows.GenLinesCardSaid :=
  Claim7.holds_tied_plain_at .later [] [.data, .data, .data, .data, .data, .pinned] true _ false genLines_holds (fun _ h => by cases h) (by kernel_rfl) (fun _ h => by cases h) genLines_row_tie rfl ⟨rfl, rfl⟩ (by kernel_rfl) rfl
    (fun f fn hf hfn => by
      obtain rfl : f = 4 := Option.some.inj ((show Tryd.prog.funcNamed "abacist/abacistlaw38.GenLines" = some 4 by kernel_rfl).symm.trans hf) |>.symm
      obtain rfl : fn = Tryd.f4 := (Option.some.inj (Tryd.func4.symm.trans hfn)).symm
      exact ⟨by kernel_rfl, fun j t ht => by
        rw [Tryd.params4] at ht
        have hm : t ∈ [38, 9] := by simpa using Array.mem_of_getElem? ht
        have hall : ([38, 9].all fun u => !Tryd.prog.wantsStandIn u) = true := by kernel_rfl
        exact (show Tryd.prog.wantsStandIn t = false by simpa using List.all_eq_true.1 hall t hm)⟩)
    (by kernel_rfl)
#print axioms genLines_card
end Go.Proofs.YtcdehndodgefnaaDoor
