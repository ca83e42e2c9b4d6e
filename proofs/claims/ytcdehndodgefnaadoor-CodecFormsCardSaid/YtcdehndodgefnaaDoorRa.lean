/- Proved: whatever row of words and whatever row of bytes come in, abacistlaw04.CodecForms answers true and leaves both as they were. Conditions: the row lists four tables of Go library packages, tied to the text of the program, and one pinned table; no other. -/
import Derived.Test.YtcdehndodgefnaaDoorRb
import Derived.Test.YtcdehndodgefnaaDoorLa
import Derived.Test.YtcdehndodgefnaaDoorTie
import Derived.Test.YtcdehndodgefnaaDoorCards
import Derived.Stop.LaidErr
namespace Go.Proofs.YtcdehndodgefnaaDoor
open Go.ChangeShapes Go.WideShapes Go.ChangeAt Go.RowKit Ab

theorem codecForms_max (W : World) (hsh : W.ShapedOpen Tryd.prog) : ∃ m, W.cell? ⟨1, 0, none⟩ = some (.int .i64 m) := someMax W hsh
theorem codecForms_tab {W : World} (hL : laidMet Tryd.prog Rows.codecFormsRow.laid W) : Lib.TabIs Tryd.prog W "internal/strconv.uint64pow10" .u64 Lib.pow10Tab := tab_pow10 (laidMet.tail (laidMet.tail hL))

set_option maxRecDepth 100000 in
theorem codecForms_lifted (os : Os) (started : os.Started) (H : Type) (enc : TypeId × Value → H) (F : Stop.Interp) :
    ReturnsInHanded {} Tryd.checked os 3 .any ((OpenSpec.ofChange Rows.codecFormsSpec).preRow enc Tryd.prog Tryd.f3 Rows.codecFormsRow.domain false Rows.codecFormsRow.laid) (((OpenSpec.ofChange Rows.codecFormsSpec).at F).post enc Tryd.prog Tryd.f3 false true false false) := by
  refine returnsInHanded_of_row (C := Tryd.checked) (s := OpenSpec.ofChange Rows.codecFormsSpec) ownNo started (by kernel_rfl) Tryd.func3
    (witness_row_at (enc := enc) (C := Tryd.checked) false (World.laidAll Tryd.prog os Rows.codecFormsRow.laid) #[.slice none 0 0, .slice none 0 0] (World.laidAll_os _ _ _) (by kernel_rfl) (by kernel_rfl) (by kernel_rfl)
      (OpenSpec.preRow_of_B rfl 8 (by kernel_rfl) (by kernel_rfl) (by rw [MakeChecks.laidMetH_plain _ _ _ (by kernel_rfl)]; exact laidMet_laidAll _ (by kernel_rfl) (by kernel_rfl)))) ?_
  intro W base args ds gs before hval0 hW _ _ _ hL hsh _
  have hval : ∀ (j : Nat) t v, Tryd.f3.params[j]? = some t → args[j]? = some v → Value.okWide Tryd.prog W .any base t v := hval0
  have hW' := hW
  obtain ⟨p, q, hA0, hV0, rfl, _, _⟩ := hW
  have hA : DataW.TrodAll enc Tryd.prog W 0 (fun _ => true) true Tryd.f3.params.toList args.toList ds p := hA0
  rw [Tryd.params3] at hA hval
  obtain ⟨v0, v1, d0, d1, p0, p1, rfl, rfl, rfl, h0, h1⟩ := trodAll_two hA
  obtain ⟨rfl, rfl⟩ := trodVars_none hV0
  obtain ⟨a0, n0, c0, l, rfl, hr0, _, hw0⟩ := open_rd Tryd.underlying22 Tryd.underlying35 cells_u64 (hval 0 22 v0 rfl rfl) h0
  obtain ⟨a1, n1, c1, bs, rfl, hr1, hc1, hw1⟩ := open_rd Tryd.underlying23 Tryd.underlying5 cells_u8 (hval 1 23 v1 rfl rfl) h1
  simp only [List.append_nil] at hW'
  have hlt : ∀ x ∈ p0 ++ p1, x.block < W.heap.size := fun x hx => by simpa using hW'.lt x hx
  rw [MakeChecks.laidMetH_plain _ _ _ (by kernel_rfl)] at hL
  obtain ⟨m, hm⟩ := codecForms_max W hsh
  refine (codecForms a0 a1 n0 n1 c0 c1 l bs m W hr0 hr1 (words_of_wf hw0) (bytes_of_wf hw1) hc1 hm (codecForms_tab hL)).mono ?_
  rintro e W' ⟨rfl, bel⟩
  have e1 : ((OpenSpec.ofChange Rows.codecFormsSpec).at F).fn H ([d0, d1] ++ []) = { results := [.lit (.bool true)], args := [d0, d1] } := rfl
  refine ⟨_, rfl, _, _, _, [], p0 ++ p1, [], hW', ?_, ?_, ?_, bel.frame _, fun h => by cases h⟩
  · rw [e1]; exact trodAll_mk1 (shut_bool Tryd.underlying4 _)
  · rw [e1]; exact trodAll_mk2 (Below.trod laidOutOk (by kernel_rfl) (of_decide_eq_true (by kernel_rfl)) h0 bel (fun x hx => hlt x (by simp [hx]))) (Below.trod laidOutOk (by kernel_rfl) (of_decide_eq_true (by kernel_rfl)) h1 bel (fun x hx => hlt x (by simp [hx])))
  · rw [e1]; rfl

theorem codecForms_holds : Rows.CodecFormsSaid :=
  OpenClaim.holds_of_cond 3 Tryd.f3 rfl rfl rfl rfl rfl rfl rfl ⟨rfl, rfl, rfl, rfl, rfl⟩ rfl rfl rfl rfl rfl (by kernel_rfl) Tryd.func3 (by kernel_rfl)
    (of_decide_eq_true (by kernel_rfl)) (by unfold Func.isWrapper; first | (rw [if_pos (by decide +kernel)]; kernel_rfl) | (rw [if_neg (by decide +kernel)]; exact ⟨rfl, rfl⟩))
    (fun os started H enc _ F0 => by rw [OpenClaim.pre_eq_preRow]; exact codecForms_lifted os started H enc F0)

theorem codecForms_card : Rows.CodecFormsCardSaid :=
  Claim7.holds_tied_plain_at .later [] [.data, .data, .data, .data, .pinned] true _ false codecForms_holds (fun _ h => by cases h) (by kernel_rfl) (fun _ h => by cases h) codecForms_row_tie rfl ⟨rfl, rfl⟩ (by kernel_rfl) rfl
    (fun f fn hf hfn => by
      obtain rfl : f = 3 := Option.some.inj ((show Tryd.prog.funcNamed "abacist/abacistlaw04.CodecForms" = some 3 by kernel_rfl).symm.trans hf) |>.symm
      obtain rfl : fn = Tryd.f3 := (Option.some.inj (Tryd.func3.symm.trans hfn)).symm
      exact ⟨by kernel_rfl, fun j t ht => by
        rw [Tryd.params3] at ht
        have hm : t ∈ [22, 23] := by simpa using Array.mem_of_getElem? ht
        have hall : ([22, 23].all fun u => !Tryd.prog.wantsStandIn u) = true := by kernel_rfl
        exact (show Tryd.prog.wantsStandIn t = false by simpa using List.all_eq_true.1 hall t hm)⟩)
    (by kernel_rfl)
#print axioms codecForms_card
end Go.Proofs.YtcdehndodgefnaaDoor
