/- Law 4, CodecForms: the walk. -/
import Derived.Test.YtcdehndodgefnaaDoorTa
import Derived.Deep.RegionHeld
import Derived.Outline
namespace Go.Proofs.YtcdehndodgefnaaDoor
open Go.RowKit Ab Go.Proofs

set_option maxRecDepth 100000 in
set_option maxHeartbeats 2000000 in
theorem codecForms (a0 a1 : Option Addr) (n0 n1 c0 c1 : Nat) (l bs : List Int) (m : Int) (w : World) (h0 : Rd w .u64 a0 n0 l) (h1 : Rd w .u8 a1 n1 bs) (hw : isWords l) (hb : isBytes bs) (hcap : n1 ≤ c1)
    (hm : w.cell? ⟨1, 0, none⟩ = some (.int .i64 m)) (htab : Lib.TabIs Tryd.prog w "internal/strconv.uint64pow10" .u64 Lib.pow10Tab) :
    Calls Tryd.prog 3 #[.slice a0 n0 c0, .slice a1 n1 c1] w fun e w' => e = .returned (.bool true) ∧ Below w.heap.size w w' := by
  have HA := Lib.hid (awake04 m w hm htab)
  have H0 := Lib.hid h0
  have H1 := Lib.hid h1
  have HW := Lib.hid hw
  have HY := Lib.hid hb
  have hn0 := h0.2.1
  have hn1 := h1.2.1
  clear hm htab h0 h1 hw hb
  go_enter Tryd.func3, Tryd.ntmps3
  go_wp2_with fail
  refine HA.out.mono ?_
  rintro e w1 ⟨rfl, hb1⟩
  have HB1 := Lib.hid hb1
  clear hb1
  by_cases hbig : n0 ≤ 40 ∧ n1 ≤ 300
  · obtain ⟨hl0, hl1⟩ := hbig
    go_wp2_with fail
    have hu1 : Upd (fun _ => False) w w1 := .of_below HB1.out
    have h0 := hu1.rd (fun _ _ q => q) H0.out
    have h1 := hu1.rd (fun _ _ q => q) H1.out
    have hP := put_any a0 n0 c0 l w1 h0 (by have := h0.1; omega) HW.out
    refine hP.mono ?_
    rintro e w2 ⟨vf, rfl, hf2, hb2⟩
    have hu2 : Upd (fun _ => False) w1 w2 := .of_below hb2
    have h0 := hu2.rd (fun _ _ q => q) h0
    have h1 := hu2.rd (fun _ _ q => q) h1
    have HF := Lib.hid hf2
    have HU2 := Lib.hid hu2
    have H02 := Lib.hid h0
    have H12 := Lib.hid h1
    clear hP hf2 hb2 hu2 h0 h1 hu1
    go_wp2_with fail
    refine (take_any a1 n1 c1 bs w2 H12.out (by omega) hcap HY.out).mono ?_
    rintro e w3 ⟨vm, rfl, hm3, hb3⟩
    have hu3 : Upd (fun _ => False) w2 w3 := .of_below hb3
    have h0 := hu3.rd (fun _ _ q => q) H02.out
    have h1 := hu3.rd (fun _ _ q => q) H12.out
    have hcv := rd_text h1 c1 23 9 Tryd.underlying23 Tryd.underlying5 Tryd.underlying9
    have HM := Lib.hid hm3
    have HU3 := Lib.hid (HU2.out.trans hu3)
    have HU23 := Lib.hid hu3
    have H03 := Lib.hid h0
    have H13 := Lib.hid h1
    clear hm3 hb3 hu3 h0 h1
    go_wp2_with fail
    have hR := refTake_any (strOfNums bs) w3 (by rw [strOfNums_size]; have := H13.out.1; omega)
    rw [nm_strOfNums HY.out] at hR
    refine hR.mono ?_
    rintro e w4 ⟨vr, rfl, hr4, hb4⟩
    have hu4 : Upd (fun _ => False) w3 w4 := .of_below hb4
    have HU4 := Lib.hid (HU3.out.trans hu4)
    have HU24 := Lib.hid (HU23.out.trans hu4)
    have H04 := Lib.hid (hu4.rd (fun _ _ q => q) H03.out)
    have H14 := Lib.hid (hu4.rd (fun _ _ q => q) H13.out)
    have HM4 := Lib.hid (HM.out.upd hu4 (fun _ _ q => q))
    have HR4 := Lib.hid hr4
    obtain ⟨am, cm, rfl, hrm, _⟩ := HM4.out.rd
    obtain ⟨ar, cr, rfl, hrr, _⟩ := HR4.out.rd
    have HRM := Lib.hid hrm
    have HRR := Lib.hid hrr
    clear hR hr4 hb4 hu4 hcv hrm hrr
    go_wp2_with fail
    have CF : ∀ w', Below w4.heap.size w4 w' → (convert 23 9 vf).run Tryd.prog w' = .ok (.string (strOfNums (form l))) w' := fun w' hb =>
      own_text (HF.out.upd (HU24.out.trans (Upd.of_below (S := fun _ => False) hb)) (fun _ _ q => q)) _ _ Tryd.underlying23 Tryd.underlying5 Tryd.underlying9
    have CB : ∀ w', Below w4.heap.size w4 w' → (convert 23 9 (.slice a1 n1 c1)).run Tryd.prog w' = .ok (.string (strOfNums bs)) w' := fun w' hb =>
      rd_text ((Upd.of_below (S := fun _ => False) hb).rd (fun _ _ q => q) H14.out) _ _ _ Tryd.underlying23 Tryd.underlying5 Tryd.underlying9
    have FP : Hid (∀ w', Below w4.heap.size w4 w' → Calls Tryd.prog 9 #[.slice a0 n0 c0] w' fun e w'' => e = .returned (.string (strOfNums (form l))) ∧ Below w'.heap.size w' w'') := fun w' hb =>
      refPut_any a0 n0 c0 l w' ((Upd.of_below (S := fun _ => False) hb).rd (fun _ _ q => q) H04.out) (by have := H04.out.1; omega) HW.out
    have FS : Hid (∀ w', Below w4.heap.size w4 w' → Calls Tryd.prog 10 #[.slice am (takeL bs).1.length cm, .slice ar (takeL bs).1.length cr] w' fun e w'' => e = .returned (.bool true) ∧ ∃ m, w'' = w'.drewN m) := fun w' hb => by
      have h := refSame_any am ar _ _ cm cr _ _ w' ((Upd.of_below (S := fun _ => False) hb).rd (fun _ _ q => q) HRM.out) ((Upd.of_below (S := fun _ => False) hb).rd (fun _ _ q => q) HRR.out)
      rwa [beq_self_eq_true] at h
    have FM : Hid (∀ w', Below w4.heap.size w4 w' → Calls Tryd.prog 6 #[.slice am (takeL bs).1.length cm] w' fun e w'' => ∃ v, e = .returned v ∧ (convert 23 9 v).run Tryd.prog w'' = .ok (.string (strOfNums (form (takeL bs).1))) w'' ∧ Below w'.heap.size w' w'') := fun w' hb => by
      refine (put_any am _ cm _ w' ((Upd.of_below (S := fun _ => False) hb).rd (fun _ _ q => q) HRM.out) (by have := takeL_length bs; have := H14.out.1; omega) (takeL_words bs HY.out)).mono ?_
      rintro e w'' ⟨v, rfl, ho, hb⟩
      exact ⟨v, rfl, own_text ho _ _ Tryd.underlying23 Tryd.underlying5 Tryd.underlying9, hb⟩
    have hd0 := (Below.refl w4.heap.size w4).drew
    have FPq := fun w' (hb : Below w4.heap.size w4 w') => (FP.out w' hb).mono fun e w'' h => (⟨h.1, hb.trans (h.2.mono hb.size)⟩ : e = .returned (.string (strOfNums (form l))) ∧ Below w4.heap.size w4 w'')
    have FSq := fun w' (hb : Below w4.heap.size w4 w') => (FS.out w' hb).mono fun e w'' h => (⟨h.1, let ⟨m, hm⟩ := h.2; hm ▸ below_drewN hb m⟩ : e = .returned (.bool true) ∧ Below w4.heap.size w4 w'')
    rcases Bool.eq_false_or_eq_true ((takeL bs).2.2 == 0) with hE | hE
    · have hform := takeL_ok bs HY.out (by simpa using hE)
      rw [hform] at FM
      first | go_region_held (fun w' => Below w4.heap.size w4 w') (assumption) (first
        | (go_at_call 9; refine (FP.out _ (by assumption)).mono ?_; rintro e w5 ⟨rfl, hb5⟩; have hS5 := Below.trans ‹Below w4.heap.size w4 _› (hb5.mono (Below.size ‹Below w4.heap.size w4 _›)))
        | (go_at_call 10; refine (FS.out _ (by assumption)).mono ?_; rintro e w6 ⟨rfl, m6, rfl⟩; have hS6 := below_drewN ‹Below w4.heap.size w4 _› m6)
        | (go_at_call 6; refine (FM.out _ (by assumption)).mono ?_; rintro e w7 ⟨v7, rfl, hcv7, hb7⟩; have hS7 := Below.trans ‹Below w4.heap.size w4 _› (hb7.mono (Below.size ‹Below w4.heap.size w4 _›))))
      rename Below w4.heap.size w4 _ => hb5
      have HB5 := Lib.hid hb5
      obtain ⟨af, cf, rfl, hrf, _, hcf⟩ := HF.out.rdc
      have hu25 := HU24.out.trans (Upd.of_below (S := fun _ => False) HB5.out)
      have hT := take_any af _ cf (form l) _ (hu25.rd (fun _ _ q => q) hrf) (by rw [form_length]; have := H14.out.1; have := H04.out.1; omega) hcf (form_bytes l)
      have H05 := Lib.hid ((Upd.of_below (S := fun _ => False) HB5.out).rd (fun _ _ q => q) H04.out)
      have HB05 := Lib.hid (HB1.out.trans ((HU2.out.trans (HU24.out.trans (Upd.of_below (S := fun _ => False) HB5.out))).below.mono HB1.out.size))
      clear hrf hu25 hb5 CB CF FP FS FM FPq FSq hd0 HR4 HM HM4 HRM HRR H0 H1 H02 H12 H03 H13 HU3 HU23 HU4 H14
      by_cases hbad : badIdx l < 0
      · simp only [takeL_form l HW.out, if_pos hbad] at hT
        have HT := Lib.hid hT
        clear hT
        go_wp2_with fail
        refine HT.out.mono ?_
        rintro e w6 ⟨vo, rfl, ho6, hb6⟩
        obtain ⟨ao, co, rfl, hro, _⟩ := ho6.rd
        have H06 := Lib.hid ((Upd.of_below (S := fun _ => False) hb6).rd (fun _ _ q => q) H05.out)
        have HB06 := Lib.hid (HB05.out.trans (hb6.mono HB05.out.size))
        have HCh := Lib.hid (check_ok a0 n0 c0 l w6 H06.out hbad)
        have hS := refSame_any ao a0 _ n0 co c0 l l w6 hro H06.out
        rw [beq_self_eq_true] at hS
        have HS := Lib.hid hS
        clear ho6 hb6 hro HT hS
        go_wp2_with fail
        refine HCh.out.mono ?_
        rintro e w7 ⟨rfl, rfl⟩
        go_wp2_with fail
        refine HS.out.mono ?_
        rintro e w7 ⟨rfl, m7, rfl⟩
        go_wp2
        go_ret
        exact ⟨rfl, below_drewN HB06.out _⟩
      · simp only [takeL_form l HW.out, if_neg hbad] at hT
        have HT := Lib.hid hT
        clear hT
        go_wp2_with fail
        refine HT.out.mono ?_
        rintro e w6 ⟨vo, rfl, ho6, hb6⟩
        obtain ⟨ao, co, rfl, hro, _⟩ := ho6.rd
        have H06 := Lib.hid ((Upd.of_below (S := fun _ => False) hb6).rd (fun _ _ q => q) H05.out)
        have HB06 := Lib.hid (HB05.out.trans (hb6.mono HB05.out.size))
        have HCh := Lib.hid (check_no a0 n0 c0 l w6 H06.out (by omega))
        clear ho6 hb6 hro HT
        go_wp2_with fail
        refine HCh.out.mono ?_
        rintro e w7 ⟨rfl, rfl⟩
        obtain ⟨k, hk, hkk, hP, _⟩ : ∃ k : Nat, k < l.length ∧ badIdx l = k ∧ 18446744069414584321 ≤ l.getD k 0 ∧ ∀ j, j < k → l.getD j 0 < 18446744069414584321 := by
          rcases badIdx_cases l with h | h
          · omega
          · exact h
        rw [hkk]
        obtain ⟨hln, _, hc0⟩ := H06.out
        obtain ⟨ad0, ea0, hc1⟩ := hc0 (by omega)
        subst ea0
        obtain ⟨x, hx⟩ : ∃ x, x = l.getD k 0 := ⟨_, rfl⟩
        have hcell := hc1 k (by omega)
        rw [← hx] at hP hcell
        have hk0 : (0 : Int) ≤ (k : Int) := by omega
        have hk1 : (k : Int) < (n0 : Int) := by omega
        clear hc0 hc1 hkk hx hln H06
        go_wp2
        go_ret
        exact ⟨rfl, HB06.out⟩
    · have hE2 : ¬ (takeL bs).2.2 = 0 := by simpa using hE
      have hE3 : decide ((takeL bs).2.2 = 0) = false := decide_eq_false hE2
      refine wp_region_cls (fun w' => Below w4.heap.size w4 w') (by kernel_rfl) (by kernel_rfl) hd0 ?_
      repeat (go_big_quiet_step ((intro hq; first | exact rfl | with_reducible exact FPq _ hq | with_reducible exact FSq _ hq | (rw [CF _ hq]; exact ⟨rfl, rfl⟩) | (rw [CB _ hq]; exact ⟨rfl, rfl⟩))))
      refine wpQuiet_nil ?_
      intro w5 hb5
      have HB5 := Lib.hid hb5
      obtain ⟨af, cf, rfl, hrf, _, hcf⟩ := HF.out.rdc
      have hu25 := HU24.out.trans (Upd.of_below (S := fun _ => False) HB5.out)
      have hT := take_any af _ cf (form l) _ (hu25.rd (fun _ _ q => q) hrf) (by rw [form_length]; have := H14.out.1; have := H04.out.1; omega) hcf (form_bytes l)
      have H05 := Lib.hid ((Upd.of_below (S := fun _ => False) HB5.out).rd (fun _ _ q => q) H04.out)
      have HB05 := Lib.hid (HB1.out.trans ((HU2.out.trans (HU24.out.trans (Upd.of_below (S := fun _ => False) HB5.out))).below.mono HB1.out.size))
      clear hrf hu25 hb5 CB CF FP FS FM FPq FSq hd0 HR4 HM HM4 HRM HRR H0 H1 H02 H12 H03 H13 HU3 HU23 HU4 H14
      by_cases hbad : badIdx l < 0
      · simp only [takeL_form l HW.out, if_pos hbad] at hT
        have HT := Lib.hid hT
        clear hT
        go_wp2_with fail
        refine HT.out.mono ?_
        rintro e w6 ⟨vo, rfl, ho6, hb6⟩
        obtain ⟨ao, co, rfl, hro, _⟩ := ho6.rd
        have H06 := Lib.hid ((Upd.of_below (S := fun _ => False) hb6).rd (fun _ _ q => q) H05.out)
        have HB06 := Lib.hid (HB05.out.trans (hb6.mono HB05.out.size))
        have HCh := Lib.hid (check_ok a0 n0 c0 l w6 H06.out hbad)
        have hS := refSame_any ao a0 _ n0 co c0 l l w6 hro H06.out
        rw [beq_self_eq_true] at hS
        have HS := Lib.hid hS
        clear ho6 hb6 hro HT hS
        go_wp2_with fail
        refine HCh.out.mono ?_
        rintro e w7 ⟨rfl, rfl⟩
        go_wp2_with fail
        refine HS.out.mono ?_
        rintro e w7 ⟨rfl, m7, rfl⟩
        go_wp2
        go_ret
        exact ⟨rfl, below_drewN HB06.out _⟩
      · simp only [takeL_form l HW.out, if_neg hbad] at hT
        have HT := Lib.hid hT
        clear hT
        go_wp2_with fail
        refine HT.out.mono ?_
        rintro e w6 ⟨vo, rfl, ho6, hb6⟩
        obtain ⟨ao, co, rfl, hro, _⟩ := ho6.rd
        have H06 := Lib.hid ((Upd.of_below (S := fun _ => False) hb6).rd (fun _ _ q => q) H05.out)
        have HB06 := Lib.hid (HB05.out.trans (hb6.mono HB05.out.size))
        have HCh := Lib.hid (check_no a0 n0 c0 l w6 H06.out (by omega))
        clear ho6 hb6 hro HT
        go_wp2_with fail
        refine HCh.out.mono ?_
        rintro e w7 ⟨rfl, rfl⟩
        obtain ⟨k, hk, hkk, hP, _⟩ : ∃ k : Nat, k < l.length ∧ badIdx l = k ∧ 18446744069414584321 ≤ l.getD k 0 ∧ ∀ j, j < k → l.getD j 0 < 18446744069414584321 := by
          rcases badIdx_cases l with h | h
          · omega
          · exact h
        rw [hkk]
        obtain ⟨hln, _, hc0⟩ := H06.out
        obtain ⟨ad0, ea0, hc1⟩ := hc0 (by omega)
        subst ea0
        obtain ⟨x, hx⟩ : ∃ x, x = l.getD k 0 := ⟨_, rfl⟩
        have hcell := hc1 k (by omega)
        rw [← hx] at hP hcell
        have hk0 : (0 : Int) ≤ (k : Int) := by omega
        have hk1 : (k : Int) < (n0 : Int) := by omega
        clear hc0 hc1 hkk hx hln H06
        go_wp2
        go_ret
        exact ⟨rfl, HB06.out⟩
  · by_cases h40 : n0 ≤ 40
    · have h300 : 300 < n1 := by omega
      clear hbig
      go_wp2
      go_ret
      exact ⟨rfl, HB1.out⟩
    · clear hbig
      go_wp2
      go_ret
      exact ⟨rfl, HB1.out⟩
end Go.Proofs.YtcdehndodgefnaaDoor
