/- Lean functions that say what functions of the given program compute, and proofs by walking the code that each call does just that; no condition but those that each statement names. -/
import Derived.Test.YtllmfahkiabkcaaPCondTellsx0
import Derived.Test.YtllmfahkiabkcaaPCondTellsx1
import Derived.Test.YtllmfahkiabkcaaPCondTellsx2
import Derived.Test.YtllmfahkiabkcaaPCondTellsx3
namespace Go.Proofs.Ytllmfahkiabkcaa.PCondTells
open Go.RowKit Go.Proofs.YtllmfahkiabkcaaW.PrintWords Go.Proofs.YtllmfahkiabkcaaW.PrintLast Go.Proofs.YtllmfahkiabkcaaW.PrintMore
attribute [local go_sem] max2_int min2_int max_two min_two max_three min_three max_four min_four   -- for this text's walks alone
set_option linter.unusedVariables false
set_option linter.unusedSimpArgs false

/-! ### handshakerlaw20_awake: function 9 -/
def handshakerlaw20_awake.f (k : Nat)  : Option (Bool) := (cond_Wait.f k ([] : List Int) ([] : List Int) 1).bind fun bt183 => ((cond_Wait.f k bt183.1 bt183.2.1 2).bind fun bt191 => ((cond_Signal.f k bt191.1 bt191.2.1 1).bind fun bt198 => ((cond_Leave.f k bt198.1 bt198.2.1 1).bind fun bt208 => ((cond_Go.f k bt198.1 bt198.2.1 2).bind fun bt217 => ((cond_Go.f k bt208.1 bt208.2.1 2).bind fun bt225 => ((cond_Wait.f k bt198.1 bt198.2.1 1).bind fun bt233 => ((cond_Go.f k bt225.1 bt225.2.1 2).bind fun bt241 => (if bt183.2.2 = 0 then (if bt191.2.2 = 0 then ((handshakerref03_Numbers.f k bt198.2.2 (([1] : List Int))).bind fun t252 => (if t252 = true then (if bt208.2.2.1 = true then (if bt208.2.2.2 = 0 then ((handshakerref03_Numbers.f k bt208.2.1 (([2] : List Int))).bind fun t256 => (if t256 = true then (if (bt208.1.length : Int) = 0 then (if bt217.2.2 = 9 then (if bt225.2.2 = 0 then (if (bt225.2.1.length : Int) = 0 then (if bt233.2.2 = 9 then (if bt241.2.2 = 3 then ((cond_Right.f k bt208.1 bt208.2.1).bind fun t257 => (some t257)) else (none)) else (none)) else (none)) else (none)) else (none)) else (none)) else (none))) else (none)) else (none)) else (none))) else (none)) else (none)))))))))
theorem handshakerlaw20_awake.mono : ∀ k, LeO (handshakerlaw20_awake.f k ) (handshakerlaw20_awake.f (k + 1) ) := by
 intro  k
 unfold handshakerlaw20_awake.f
 repeat' first
   | (with_reducible exact cond_Go.mono _ _ _ _)
   | (with_reducible exact cond_Leave.mono _ _ _ _)
   | (with_reducible exact cond_Right.mono _ _ _)
   | (with_reducible exact cond_Signal.mono _ _ _ _)
   | (with_reducible exact cond_Wait.mono _ _ _ _)
   | (with_reducible exact handshakerref03_Numbers.mono _ _ _)
   | (with_reducible exact LeO.refl _)
   | (with_reducible exact LeO.none _)
   | (with_reducible refine LeO.ite ?_ ?_)
   | (with_reducible refine LeO.bind ?_ (fun _ => ?_))
   | exact cond_Go.mono _ _ _ _
   | exact cond_Leave.mono _ _ _ _
   | exact cond_Right.mono _ _ _
   | exact cond_Signal.mono _ _ _ _
   | exact cond_Wait.mono _ _ _ _
   | exact handshakerref03_Numbers.mono _ _ _
   | exact LeO.none _
   | refine LeO.ite ?_ ?_
   | refine LeO.bind ?_ (fun _ => ?_)
set_option maxHeartbeats 8000000 in
set_option maxRecDepth 100000 in
theorem handshakerlaw20_awake.calls (k : Nat)  (r : Bool) (w : World) (h : handshakerlaw20_awake.f k  = some r) :
  Calls Try.prog 9 #[] w fun e w' => e = .returned (.bool r) ∧ Below w.heap.size w w' := by
 have hu24 := Try.underlying24
 have HB := am (Below.refl w.heap.size w)
 have H : ((cond_Wait.f k ([] : List Int) ([] : List Int) 1).bind fun bt183 => ((cond_Wait.f k bt183.1 bt183.2.1 2).bind fun bt191 => ((cond_Signal.f k bt191.1 bt191.2.1 1).bind fun bt198 => ((cond_Leave.f k bt198.1 bt198.2.1 1).bind fun bt208 => ((cond_Go.f k bt198.1 bt198.2.1 2).bind fun bt217 => ((cond_Go.f k bt208.1 bt208.2.1 2).bind fun bt225 => ((cond_Wait.f k bt198.1 bt198.2.1 1).bind fun bt233 => ((cond_Go.f k bt225.1 bt225.2.1 2).bind fun bt241 => (if bt183.2.2 = 0 then (if bt191.2.2 = 0 then ((handshakerref03_Numbers.f k bt198.2.2 (([1] : List Int))).bind fun t252 => (if t252 = true then (if bt208.2.2.1 = true then (if bt208.2.2.2 = 0 then ((handshakerref03_Numbers.f k bt208.2.1 (([2] : List Int))).bind fun t256 => (if t256 = true then (if (bt208.1.length : Int) = 0 then (if bt217.2.2 = 9 then (if bt225.2.2 = 0 then (if (bt225.2.1.length : Int) = 0 then (if bt233.2.2 = 9 then (if bt241.2.2 = 3 then ((cond_Right.f k bt208.1 bt208.2.1).bind fun t257 => (some t257)) else (none)) else (none)) else (none)) else (none)) else (none)) else (none)) else (none))) else (none)) else (none)) else (none))) else (none)) else (none)))))))))) = some r := h
 clear h
 replace H := Option.bind_eq_some_iff.mp H
 obtain ⟨⟨t183, t186, t189⟩, A10, H⟩ := H
 try dsimp only at H
 have A1 := am A10
 clear A10
 replace H := Option.bind_eq_some_iff.mp H
 obtain ⟨⟨t191, t194, t197⟩, A20, H⟩ := H
 try dsimp only at H
 have A2 := am A20
 clear A20
 replace H := Option.bind_eq_some_iff.mp H
 obtain ⟨⟨t198, t201, t204⟩, A30, H⟩ := H
 try dsimp only at H
 have A3 := am A30
 clear A30
 replace H := Option.bind_eq_some_iff.mp H
 obtain ⟨⟨t208, t211, t214, t215⟩, A40, H⟩ := H
 try dsimp only at H
 have A4 := am A40
 clear A40
 replace H := Option.bind_eq_some_iff.mp H
 obtain ⟨⟨t217, t220, t223⟩, A50, H⟩ := H
 try dsimp only at H
 have A5 := am A50
 clear A50
 replace H := Option.bind_eq_some_iff.mp H
 obtain ⟨⟨t225, t228, t231⟩, A60, H⟩ := H
 try dsimp only at H
 have A6 := am A60
 clear A60
 replace H := Option.bind_eq_some_iff.mp H
 obtain ⟨⟨t233, t236, t239⟩, A70, H⟩ := H
 try dsimp only at H
 have A7 := am A70
 clear A70
 replace H := Option.bind_eq_some_iff.mp H
 obtain ⟨⟨t241, t244, t247⟩, A80, H⟩ := H
 try dsimp only at H
 have A8 := am A80
 clear A80
 by_cases c9 : t189 = 0
 ·rw [if_pos c9] at H
  have c9b0 : (t189 == 0) = true := beq_iff_eq.mpr c9
  have c9b1 : (t189 != 0) = false := bne_eq_false_iff_eq.mpr c9
  clear c9
  by_cases c10 : t197 = 0
  ·rw [if_pos c10] at H
   have c10b0 : (t197 == 0) = true := beq_iff_eq.mpr c10
   have c10b1 : (t197 != 0) = false := bne_eq_false_iff_eq.mpr c10
   clear c10
   obtain ⟨y249, hy249⟩ : ∃ y_ : List Int, y_ = (([1] : List Int)) := ⟨_, rfl⟩
   replace H : ((handshakerref03_Numbers.f k t204 y249).bind fun t252 => (if t252 = true then (if t214 = true then (if t215 = 0 then ((handshakerref03_Numbers.f k t211 (([2] : List Int))).bind fun t256 => (if t256 = true then (if (t208.length : Int) = 0 then (if t223 = 9 then (if t231 = 0 then (if (t228.length : Int) = 0 then (if t239 = 9 then (if t247 = 3 then ((cond_Right.f k t208 t211).bind fun t257 => (some t257)) else (none)) else (none)) else (none)) else (none)) else (none)) else (none)) else (none))) else (none)) else (none)) else (none))) = some r := by first | (rw [hy249]; with_reducible exact H) | (have H2_ := (Option.bind_some _ _).symm.trans H; rw [hy249]; with_reducible exact H2_) | (have H2_ := (Option.bind_some _ _).symm.trans H; with_reducible exact H2_) | with_reducible exact H | (rw [hy249]; exact H) | exact H
   have Ny249 := am hy249
   clear hy249
   replace H := Option.bind_eq_some_iff.mp H
   obtain ⟨t252, A110, H⟩ := H
   try dsimp only at H
   have A11 := am A110
   clear A110
   by_cases c12 : t252 = true
   ·subst c12
    have H1 : (if t214 = true then (if t215 = 0 then ((handshakerref03_Numbers.f k t211 (([2] : List Int))).bind fun t256 => (if t256 = true then (if (t208.length : Int) = 0 then (if t223 = 9 then (if t231 = 0 then (if (t228.length : Int) = 0 then (if t239 = 9 then (if t247 = 3 then ((cond_Right.f k t208 t211).bind fun t257 => (some t257)) else (none)) else (none)) else (none)) else (none)) else (none)) else (none)) else (none))) else (none)) else (none)) = some r := by rw [if_pos rfl] at H; exact H
    clear H
    have H := H1
    clear H1
    by_cases c13 : t214 = true
    ·subst c13
     have H1 : (if t215 = 0 then ((handshakerref03_Numbers.f k t211 (([2] : List Int))).bind fun t256 => (if t256 = true then (if (t208.length : Int) = 0 then (if t223 = 9 then (if t231 = 0 then (if (t228.length : Int) = 0 then (if t239 = 9 then (if t247 = 3 then ((cond_Right.f k t208 t211).bind fun t257 => (some t257)) else (none)) else (none)) else (none)) else (none)) else (none)) else (none)) else (none))) else (none)) = some r := by rw [if_pos rfl] at H; exact H
     clear H
     have H := H1
     clear H1
     by_cases c14 : t215 = 0
     ·rw [if_pos c14] at H
      have c14b0 : (t215 == 0) = true := beq_iff_eq.mpr c14
      have c14b1 : (t215 != 0) = false := bne_eq_false_iff_eq.mpr c14
      clear c14
      obtain ⟨y253, hy253⟩ : ∃ y_ : List Int, y_ = (([2] : List Int)) := ⟨_, rfl⟩
      replace H : ((handshakerref03_Numbers.f k t211 y253).bind fun t256 => (if t256 = true then (if (t208.length : Int) = 0 then (if t223 = 9 then (if t231 = 0 then (if (t228.length : Int) = 0 then (if t239 = 9 then (if t247 = 3 then ((cond_Right.f k t208 t211).bind fun t257 => (some t257)) else (none)) else (none)) else (none)) else (none)) else (none)) else (none)) else (none))) = some r := by first | (rw [hy253]; with_reducible exact H) | (have H2_ := (Option.bind_some _ _).symm.trans H; rw [hy253]; with_reducible exact H2_) | (have H2_ := (Option.bind_some _ _).symm.trans H; with_reducible exact H2_) | with_reducible exact H | (rw [hy253]; exact H) | exact H
      have Ny253 := am hy253
      clear hy253
      replace H := Option.bind_eq_some_iff.mp H
      obtain ⟨t256, A150, H⟩ := H
      try dsimp only at H
      have A15 := am A150
      clear A150
      by_cases c16 : t256 = true
      ·subst c16
       have H1 : (if (t208.length : Int) = 0 then (if t223 = 9 then (if t231 = 0 then (if (t228.length : Int) = 0 then (if t239 = 9 then (if t247 = 3 then ((cond_Right.f k t208 t211).bind fun t257 => (some t257)) else (none)) else (none)) else (none)) else (none)) else (none)) else (none)) = some r := by rw [if_pos rfl] at H; exact H
       clear H
       have H := H1
       clear H1
       by_cases c17 : (t208.length : Int) = 0
       ·rw [if_pos c17] at H
        have c17b0 : ((t208.length : Int) == 0) = true := beq_iff_eq.mpr c17
        have c17b1 : ((t208.length : Int) != 0) = false := bne_eq_false_iff_eq.mpr c17
        clear c17
        by_cases c18 : t223 = 9
        ·rw [if_pos c18] at H
         have c18b0 : (t223 == 9) = true := beq_iff_eq.mpr c18
         have c18b1 : (t223 != 9) = false := bne_eq_false_iff_eq.mpr c18
         clear c18
         by_cases c19 : t231 = 0
         ·rw [if_pos c19] at H
          have c19b0 : (t231 == 0) = true := beq_iff_eq.mpr c19
          have c19b1 : (t231 != 0) = false := bne_eq_false_iff_eq.mpr c19
          clear c19
          by_cases c20 : (t228.length : Int) = 0
          ·rw [if_pos c20] at H
           have c20b0 : ((t228.length : Int) == 0) = true := beq_iff_eq.mpr c20
           have c20b1 : ((t228.length : Int) != 0) = false := bne_eq_false_iff_eq.mpr c20
           clear c20
           by_cases c21 : t239 = 9
           ·rw [if_pos c21] at H
            have c21b0 : (t239 == 9) = true := beq_iff_eq.mpr c21
            have c21b1 : (t239 != 9) = false := bne_eq_false_iff_eq.mpr c21
            clear c21
            by_cases c22 : t247 = 3
            ·rw [if_pos c22] at H
             have c22b0 : (t247 == 3) = true := beq_iff_eq.mpr c22
             have c22b1 : (t247 != 3) = false := bne_eq_false_iff_eq.mpr c22
             clear c22
             replace H := Option.bind_eq_some_iff.mp H
             obtain ⟨t257, A230, H⟩ := H
             try dsimp only at H
             have A23 := am A230
             clear A230
             obtain rfl := Option.some.inj H
             go_enter Try.func9, Try.ntmps9
             go_wp2_with (first | ((with_reducible refine gate_callee (f := 10) rfl ?_); refine goesL_ (some 19) rfl rfl Try.func10 (by kernel_rfl) rfl #[.agg #[.slice none 0 0, .slice none 0 0], .int .i64 1] rfl zm ?_; (refine (cond_Wait.calls k (fun k_ => False) _ _ ([] : List Int) (fun k_ => False) _ _ ([] : List Int) 1 t183 t186 t189 _ ?side1 ?side2 A1.out).mono ?_); (case side1 => exact Kd.V_nil _ _ _ _ _); (case side2 => exact Kd.V_nil _ _ _ _ _); rintro e w24 ⟨v184, v187, rfl, ho0, ho1, hb⟩; refine ⟨_, rfl, ?_⟩; have HO185 := am (Kd.V_lower (Kd.V_mono (ok' := fun k_ => True) ho0 (fun k_ hk_ => trivial)) (below_size (zc0 HB))); have HO188 := am (Kd.V_lower (Kd.V_mono (ok' := fun k_ => True) ho1 (fun k_ hk_ => trivial)) (below_size (zc0 HB))); replace HB := am (below_step (zc0 HB) hb); (try clear hb); (try clear hb2); (try clear hk); (try clear hi); (try clear ho0); (try clear ho1)) | ((with_reducible refine gate_dst (N := 1) rfl ?_); (try (refine gate_guard (by rfl) ?_; dsimp only)); refine box_event ?hg (N := 1) ?hd (cs := #[.slice none 0 0, .slice none 0 0]) (t := 24) ?hr ?_; (case hd => rfl); (case hg => rfl); (case hr => first | (go_simp; done) | (go_simp; rfl)); intro gb190 hg w25 hbox hb; replace HO185 := zVe HO185 hg hb; replace HO188 := zVe HO188 hg hb; have BK190 := am (hbox); have GW190 := zsz hg (zc0 HB); have GE190 := zsz hg (zc0 HB); replace HB := am (below_step (zc0 HB) hb); clear hb hbox hg; obtain ⟨Ao26, co26, eo26⟩ := Kd.V_slice HO185.out; subst eo26; have hcz27_0 : w25.cell? ⟨gb190, 0, none⟩ = some (.slice none 0 0) := (blk_cell BK190.out 0).trans rfl; have hcz27_1 : w25.cell? ⟨gb190, 1, none⟩ = some (.slice none 0 0) := (blk_cell BK190.out 1).trans rfl; have hfz27_0 := blk_frozen BK190.out 0; have hfz27_1 := blk_frozen BK190.out 1; obtain ⟨Ao28, co28, eo28⟩ := Kd.V_slice HO188.out; subst eo28) | ((with_reducible refine gate_store (t := 24) (p := 1) rfl ?_); refine store_event (t := 24) (p := 1) (v := ?vo_w29) (w1 := ((w25.setCell ⟨gb190, 0, none⟩ (.slice Ao26 t183.length co26)).setCell ⟨gb190, 1, none⟩ (.slice Ao28 t186.length co28))) ?hg ?ho ?hn ?hr ?_; (case ho => rfl); (case hg => rfl); (case hn => rfl); (case hr => first | (go_simp; done) | (go_simp; rfl)); intro w29 hw; replace HO185 := zVm hw HO185 (fun k_ => k_ ≠ gb190) (fun _ hk => hk.2) (fun _ hk => hk.1.2); replace HO188 := zVm hw HO188 (fun k_ => k_ ≠ gb190) (fun _ hk => hk.2) (fun _ hk => hk.1.2); replace BK190 : Aside0 (w29.heap[gb190]? = some (.cells #[.slice Ao26 t183.length co26, .slice Ao28 t186.length co28] 24 (0, 0))) := ⟨(by rw [hw]; exact (by (with_reducible repeat (first | refine blk_drewN ?_ _ | refine blk_drew ?_ | refine blk_alloc ?_ _)); refine blk_put (cs := #[.slice Ao26 t183.length co26, .slice none 0 0]) ?_ 1 _ rfl; (with_reducible repeat (first | refine blk_drewN ?_ _ | refine blk_drew ?_ | refine blk_alloc ?_ _)); refine blk_put (cs := #[.slice none 0 0, .slice none 0 0]) ?_ 0 _ rfl; (with_reducible repeat (first | refine blk_drewN ?_ _ | refine blk_drew ?_ | refine blk_alloc ?_ _)); exact BK190.out))⟩; replace HB : Aside0 (Below w.heap.size w w29) := ⟨(by rw [hw]; exact (zc1 HB GE190))⟩; clear hw; have hcz30_0 : w29.cell? ⟨gb190, 0, none⟩ = some (.slice Ao26 t183.length co26) := (blk_cell BK190.out 0).trans rfl; have hcz30_1 : w29.cell? ⟨gb190, 1, none⟩ = some (.slice Ao28 t186.length co28) := (blk_cell BK190.out 1).trans rfl; have hfz30_0 := blk_frozen BK190.out 0; have hfz30_1 := blk_frozen BK190.out 1) | ((with_reducible refine gate_callee (f := 10) rfl ?_); refine goesL_ (some 24) rfl rfl Try.func10 (by kernel_rfl) rfl #[.agg #[.slice Ao26 t183.length co26, .slice Ao28 t186.length co28], .int .i64 2] rfl zm ?_; (with_reducible refine (cond_Wait.calls k (fun k_ => k_ ≠ gb190) _ _ t183 (fun k_ => k_ ≠ gb190) _ _ t186 2 t191 t194 t197 _ ?side1 ?side2 A2.out).mono ?_); (case side1 => exact HO185.out); (case side2 => exact HO188.out); rintro e w31 ⟨v192, v195, rfl, ho0, ho1, hb⟩; refine ⟨_, rfl, ?_⟩; replace HO185 := zVb HO185 hb; replace HO188 := zVb HO188 hb; have HO193 := am (Kd.V_lower (Kd.V_mono (ok' := fun k_ => k_ ≠ gb190) ho0 (fun k_ hk_ => Or.elim hk_ (fun hs_ => Or.elim hs_ (fun hs_ => hs_) (fun hs_ => hs_)) (fun hn_ => (zfr gb190 BK190 hn_)))) (below_size (zc1 HB GE190))); have HO196 := am (Kd.V_lower (Kd.V_mono (ok' := fun k_ => k_ ≠ gb190) ho1 (fun k_ hk_ => Or.elim hk_ (fun hs_ => Or.elim hs_ (fun hs_ => hs_) (fun hs_ => hs_)) (fun hn_ => (zfr gb190 BK190 hn_)))) (below_size (zc1 HB GE190))); replace BK190 := zbb BK190 hb; replace HB := am (below_step (zc1 HB GE190) hb); (try clear hb); (try clear hb2); (try clear hk); (try clear hi); (try clear ho0); (try clear ho1); obtain ⟨Ao32, co32, eo32⟩ := Kd.V_slice HO193.out; subst eo32; have hcz33_0 : w31.cell? ⟨gb190, 0, none⟩ = some (.slice Ao26 t183.length co26) := (blk_cell BK190.out 0).trans rfl; have hcz33_1 : w31.cell? ⟨gb190, 1, none⟩ = some (.slice Ao28 t186.length co28) := (blk_cell BK190.out 1).trans rfl; have hfz33_0 := blk_frozen BK190.out 0; have hfz33_1 := blk_frozen BK190.out 1; obtain ⟨Ao34, co34, eo34⟩ := Kd.V_slice HO196.out; subst eo34) | ((with_reducible refine gate_store (t := 24) (p := 1) rfl ?_); refine store_event (t := 24) (p := 1) (v := ?vo_w35) (w1 := ((w31.setCell ⟨gb190, 0, none⟩ (.slice Ao32 t191.length co32)).setCell ⟨gb190, 1, none⟩ (.slice Ao34 t194.length co34))) ?hg ?ho ?hn ?hr ?_; (case ho => rfl); (case hg => rfl); (case hn => rfl); (case hr => first | (go_simp; done) | (go_simp; rfl)); intro w35 hw; replace HO185 := zVs hw HO185 (fun _ hk => hk); replace HO188 := zVs hw HO188 (fun _ hk => hk); replace HO193 := zVs hw HO193 (fun _ hk => hk); replace HO196 := zVs hw HO196 (fun _ hk => hk); replace BK190 : Aside0 (w35.heap[gb190]? = some (.cells #[.slice Ao32 t191.length co32, .slice Ao34 t194.length co34] 24 (0, 0))) := ⟨(by rw [hw]; exact (by (with_reducible repeat (first | refine blk_drewN ?_ _ | refine blk_drew ?_ | refine blk_alloc ?_ _)); refine blk_put (cs := #[.slice Ao32 t191.length co32, .slice Ao28 t186.length co28]) ?_ 1 _ rfl; (with_reducible repeat (first | refine blk_drewN ?_ _ | refine blk_drew ?_ | refine blk_alloc ?_ _)); refine blk_put (cs := #[.slice Ao26 t183.length co26, .slice Ao28 t186.length co28]) ?_ 0 _ rfl; (with_reducible repeat (first | refine blk_drewN ?_ _ | refine blk_drew ?_ | refine blk_alloc ?_ _)); exact BK190.out))⟩; replace HB : Aside0 (Below w.heap.size w w35) := ⟨(by rw [hw]; exact (zc1 HB GE190))⟩; clear hw; have hcz36_0 : w35.cell? ⟨gb190, 0, none⟩ = some (.slice Ao32 t191.length co32) := (blk_cell BK190.out 0).trans rfl; have hcz36_1 : w35.cell? ⟨gb190, 1, none⟩ = some (.slice Ao34 t194.length co34) := (blk_cell BK190.out 1).trans rfl; have hfz36_0 := blk_frozen BK190.out 0; have hfz36_1 := blk_frozen BK190.out 1) | ((with_reducible refine gate_callee (f := 13) rfl ?_); refine goesL_ (some 29) rfl rfl Try.func13 (by kernel_rfl) rfl #[.agg #[.slice Ao32 t191.length co32, .slice Ao34 t194.length co34], .int .i64 1] rfl zm ?_; (with_reducible refine (cond_Signal.calls k (fun k_ => k_ ≠ gb190) _ _ t191 (fun k_ => k_ ≠ gb190) _ _ t194 1 t198 t201 t204 _ ?side1 ?side2 A3.out).mono ?_); (case side1 => exact HO193.out); (case side2 => exact HO196.out); rintro e w37 ⟨v199, v202, v205, rfl, ho0, ho1, ho2, hb⟩; refine ⟨_, rfl, ?_⟩; replace HO185 := zVb HO185 hb; replace HO188 := zVb HO188 hb; replace HO193 := zVb HO193 hb; replace HO196 := zVb HO196 hb; have HO200 := am (Kd.V_lower (Kd.V_mono (ok' := fun k_ => k_ ≠ gb190) ho0 (fun k_ hk_ => Or.elim hk_ (fun hs_ => Or.elim hs_ (fun hs_ => hs_) (fun hs_ => hs_)) (fun hn_ => (zfr gb190 BK190 hn_)))) (below_size (zc1 HB GE190))); have HO203 := am (Kd.V_lower (Kd.V_mono (ok' := fun k_ => k_ ≠ gb190) ho1 (fun k_ hk_ => Or.elim hk_ (fun hs_ => Or.elim hs_ (fun hs_ => hs_) (fun hs_ => hs_)) (fun hn_ => (zfr gb190 BK190 hn_)))) (below_size (zc1 HB GE190))); have HO206 := am (Kd.V_lower (Kd.V_mono (ok' := fun k_ => k_ ≠ gb190) ho2 (fun k_ hk_ => Or.elim hk_ (fun hs_ => Or.elim hs_ (fun hs_ => hs_) (fun hs_ => hs_)) (fun hn_ => (zfr gb190 BK190 hn_)))) (below_size (zc1 HB GE190))); replace BK190 := zbb BK190 hb; replace HB := am (below_step (zc1 HB GE190) hb); (try clear hb); (try clear hb2); (try clear hk); (try clear hi); (try clear ho0); (try clear ho1); (try clear ho2)) | ((with_reducible refine gate_dst (N := 4) rfl ?_); (try (refine gate_guard (by rfl) ?_; dsimp only)); refine box_event ?hg (N := 4) ?hd (cs := #[.slice none 0 0, .slice none 0 0]) (t := 24) ?hr ?_; (case hd => rfl); (case hg => rfl); (case hr => first | (go_simp; done) | (go_simp; rfl)); intro gb207 hg w38 hbox hb; replace HO185 := zVe HO185 hg hb; replace HO188 := zVe HO188 hg hb; replace HO193 := zVe HO193 hg hb; replace HO196 := zVe HO196 hg hb; replace HO200 := zVe HO200 hg hb; replace HO203 := zVe HO203 hg hb; replace HO206 := zVe HO206 hg hb; have BK207 := am (hbox); have GW207 := zsz hg (zc1 HB GE190); have GE207 := zsz hg (zc1 HB GE190); replace HB := am (below_step (zc1 HB GE190) hb); have NB190_207 := znt BK190 hg; have NB207_190 := zng BK190 hg; replace BK190 := zbb BK190 hb; clear hb hbox hg; obtain ⟨Ao39, co39, eo39⟩ := Kd.V_slice HO200.out; subst eo39; have hnb40 := NB207_190.out; have hnc40 := NB190_207.out; have hcz41_0 : w38.cell? ⟨gb207, 0, none⟩ = some (.slice none 0 0) := (blk_cell BK207.out 0).trans rfl; have hcz41_1 : w38.cell? ⟨gb207, 1, none⟩ = some (.slice none 0 0) := (blk_cell BK207.out 1).trans rfl; have hfz41_0 := blk_frozen BK207.out 0; have hfz41_1 := blk_frozen BK207.out 1; obtain ⟨Ao42, co42, eo42⟩ := Kd.V_slice HO203.out; subst eo42) | ((with_reducible refine gate_store (t := 24) (p := 4) rfl ?_); refine store_event (t := 24) (p := 4) (v := ?vo_w43) (w1 := ((w38.setCell ⟨gb207, 0, none⟩ (.slice Ao39 t198.length co39)).setCell ⟨gb207, 1, none⟩ (.slice Ao42 t201.length co42))) ?hg ?ho ?hn ?hr ?_; (case ho => rfl); (case hg => rfl); (case hn => rfl); (case hr => first | (go_simp; done) | (go_simp; rfl)); intro w43 hw; replace HO185 := zVs hw HO185 (fun _ hk => hk.2); replace HO188 := zVs hw HO188 (fun _ hk => hk.2); replace HO193 := zVs hw HO193 (fun _ hk => hk.2); replace HO196 := zVs hw HO196 (fun _ hk => hk.2); replace HO200 := zVs hw HO200 (fun _ hk => hk.2); replace HO203 := zVs hw HO203 (fun _ hk => hk.2); replace HO206 := zVs hw HO206 (fun _ hk => hk.2); replace BK190 := zks hw BK190 NB190_207; replace BK207 : Aside0 (w43.heap[gb207]? = some (.cells #[.slice Ao39 t198.length co39, .slice Ao42 t201.length co42] 24 (0, 0))) := ⟨(by rw [hw]; exact (by (with_reducible repeat (first | refine blk_drewN ?_ _ | refine blk_drew ?_ | refine blk_alloc ?_ _)); refine blk_put (cs := #[.slice Ao39 t198.length co39, .slice none 0 0]) ?_ 1 _ rfl; (with_reducible repeat (first | refine blk_drewN ?_ _ | refine blk_drew ?_ | refine blk_alloc ?_ _)); refine blk_put (cs := #[.slice none 0 0, .slice none 0 0]) ?_ 0 _ rfl; (with_reducible repeat (first | refine blk_drewN ?_ _ | refine blk_drew ?_ | refine blk_alloc ?_ _)); exact BK207.out))⟩; replace HB : Aside0 (Below w.heap.size w w43) := ⟨(by rw [hw]; exact (zc2 HB GE190 GE207))⟩; clear hw; have hcz44_0 : w43.cell? ⟨gb207, 0, none⟩ = some (.slice Ao39 t198.length co39) := (blk_cell BK207.out 0).trans rfl; have hcz44_1 : w43.cell? ⟨gb207, 1, none⟩ = some (.slice Ao42 t201.length co42) := (blk_cell BK207.out 1).trans rfl; have hfz44_0 := blk_frozen BK207.out 0; have hfz44_1 := blk_frozen BK207.out 1) | ((with_reducible refine gate_callee (f := 17) rfl ?_); refine goesL_ (some 34) rfl rfl Try.func17 (by kernel_rfl) rfl #[.agg #[.slice Ao39 t198.length co39, .slice Ao42 t201.length co42], .int .i64 1] rfl zm ?_; (with_reducible refine (cond_Leave.calls k (fun k_ => (k_ ≠ gb190 ∧ k_ ≠ gb207)) _ _ t198 (fun k_ => (k_ ≠ gb190 ∧ k_ ≠ gb207)) _ _ t201 1 t208 t211 true t215 _ ?side1 ?side2 A4.out).mono ?_); (case side1 => exact HO200.out); (case side2 => exact HO203.out); rintro e w45 ⟨v209, v212, rfl, ho0, ho1, hb⟩; refine ⟨_, rfl, ?_⟩; replace HO185 := zVb HO185 hb; replace HO188 := zVb HO188 hb; replace HO193 := zVb HO193 hb; replace HO196 := zVb HO196 hb; replace HO200 := zVb HO200 hb; replace HO203 := zVb HO203 hb; replace HO206 := zVb HO206 hb; have HO210 := am (Kd.V_lower (Kd.V_mono (ok' := fun k_ => k_ ≠ gb190 ∧ k_ ≠ gb207) ho0 (fun k_ hk_ => ⟨Or.elim hk_ (fun hs_ => Or.elim hs_ (fun hs_ => hs_.1) (fun hs_ => hs_.1)) (fun hn_ => (zfr gb190 BK190 hn_)), Or.elim hk_ (fun hs_ => Or.elim hs_ (fun hs_ => hs_.2) (fun hs_ => hs_.2)) (fun hn_ => (zfr gb207 BK207 hn_))⟩)) (below_size (zc2 HB GE190 GE207))); have HO213 := am (Kd.V_lower (Kd.V_mono (ok' := fun k_ => k_ ≠ gb190 ∧ k_ ≠ gb207) ho1 (fun k_ hk_ => ⟨Or.elim hk_ (fun hs_ => Or.elim hs_ (fun hs_ => hs_.1) (fun hs_ => hs_.1)) (fun hn_ => (zfr gb190 BK190 hn_)), Or.elim hk_ (fun hs_ => Or.elim hs_ (fun hs_ => hs_.2) (fun hs_ => hs_.2)) (fun hn_ => (zfr gb207 BK207 hn_))⟩)) (below_size (zc2 HB GE190 GE207))); replace BK190 := zbb BK190 hb; replace BK207 := zbb BK207 hb; replace HB := am (below_step (zc2 HB GE190 GE207) hb); (try clear hb); (try clear hb2); (try clear hk); (try clear hi); (try clear ho0); (try clear ho1)) | ((with_reducible refine gate_dst (N := 6) rfl ?_); (try (refine gate_guard (by rfl) ?_; dsimp only)); refine box_event ?hg (N := 6) ?hd (cs := #[.slice none 0 0, .slice none 0 0]) (t := 24) ?hr ?_; (case hd => rfl); (case hg => rfl); (case hr => first | (go_simp; done) | (go_simp; rfl)); intro gb216 hg w46 hbox hb; replace HO185 := zVe HO185 hg hb; replace HO188 := zVe HO188 hg hb; replace HO193 := zVe HO193 hg hb; replace HO196 := zVe HO196 hg hb; replace HO200 := zVe HO200 hg hb; replace HO203 := zVe HO203 hg hb; replace HO206 := zVe HO206 hg hb; replace HO210 := zVe HO210 hg hb; replace HO213 := zVe HO213 hg hb; have BK216 := am (hbox); have GW216 := zsz hg (zc2 HB GE190 GE207); have GE216 := zsz hg (zc2 HB GE190 GE207); replace HB := am (below_step (zc2 HB GE190 GE207) hb); have NB190_216 := znt BK190 hg; have NB216_190 := zng BK190 hg; replace BK190 := zbb BK190 hb; have NB207_216 := znt BK207 hg; have NB216_207 := zng BK207 hg; replace BK207 := zbb BK207 hb; clear hb hbox hg; obtain ⟨Ao47, co47, eo47⟩ := Kd.V_slice HO210.out; subst eo47; have hnb48 := NB216_190.out; have hnc48 := NB190_216.out; have hnb49 := NB216_207.out; have hnc49 := NB207_216.out; have hcz50_0 : w46.cell? ⟨gb216, 0, none⟩ = some (.slice none 0 0) := (blk_cell BK216.out 0).trans rfl; have hcz50_1 : w46.cell? ⟨gb216, 1, none⟩ = some (.slice none 0 0) := (blk_cell BK216.out 1).trans rfl; have hfz50_0 := blk_frozen BK216.out 0; have hfz50_1 := blk_frozen BK216.out 1; obtain ⟨Ao51, co51, eo51⟩ := Kd.V_slice HO213.out; subst eo51) | ((with_reducible refine gate_store (t := 24) (p := 6) rfl ?_); refine store_event (t := 24) (p := 6) (v := ?vo_w52) (w1 := ((w46.setCell ⟨gb216, 0, none⟩ (.slice Ao47 t208.length co47)).setCell ⟨gb216, 1, none⟩ (.slice Ao51 t211.length co51))) ?hg ?ho ?hn ?hr ?_; (case ho => rfl); (case hg => rfl); (case hn => rfl); (case hr => first | (go_simp; done) | (go_simp; rfl)); intro w52 hw; replace HO185 := zVm hw HO185 (fun k_ => k_ ≠ gb190 ∧ k_ ≠ gb207 ∧ k_ ≠ gb216) (fun _ hk => hk.2) (fun _ hk => ⟨hk.1.1.1, ⟨hk.1.1.2, hk.1.2⟩⟩); replace HO188 := zVm hw HO188 (fun k_ => k_ ≠ gb190 ∧ k_ ≠ gb207 ∧ k_ ≠ gb216) (fun _ hk => hk.2) (fun _ hk => ⟨hk.1.1.1, ⟨hk.1.1.2, hk.1.2⟩⟩); replace HO193 := zVm hw HO193 (fun k_ => k_ ≠ gb190 ∧ k_ ≠ gb207 ∧ k_ ≠ gb216) (fun _ hk => hk.2) (fun _ hk => ⟨hk.1.1.1, ⟨hk.1.1.2, hk.1.2⟩⟩); replace HO196 := zVm hw HO196 (fun k_ => k_ ≠ gb190 ∧ k_ ≠ gb207 ∧ k_ ≠ gb216) (fun _ hk => hk.2) (fun _ hk => ⟨hk.1.1.1, ⟨hk.1.1.2, hk.1.2⟩⟩); replace HO200 := zVm hw HO200 (fun k_ => k_ ≠ gb190 ∧ k_ ≠ gb207 ∧ k_ ≠ gb216) (fun _ hk => hk.2) (fun _ hk => ⟨hk.1.1.1, ⟨hk.1.1.2, hk.1.2⟩⟩); replace HO203 := zVm hw HO203 (fun k_ => k_ ≠ gb190 ∧ k_ ≠ gb207 ∧ k_ ≠ gb216) (fun _ hk => hk.2) (fun _ hk => ⟨hk.1.1.1, ⟨hk.1.1.2, hk.1.2⟩⟩); replace HO206 := zVm hw HO206 (fun k_ => k_ ≠ gb190 ∧ k_ ≠ gb207 ∧ k_ ≠ gb216) (fun _ hk => hk.2) (fun _ hk => ⟨hk.1.1.1, ⟨hk.1.1.2, hk.1.2⟩⟩); replace HO210 := zVm hw HO210 (fun k_ => k_ ≠ gb190 ∧ k_ ≠ gb207 ∧ k_ ≠ gb216) (fun _ hk => hk.2) (fun _ hk => ⟨hk.1.1.1, ⟨hk.1.1.2, hk.1.2⟩⟩); replace HO213 := zVm hw HO213 (fun k_ => k_ ≠ gb190 ∧ k_ ≠ gb207 ∧ k_ ≠ gb216) (fun _ hk => hk.2) (fun _ hk => ⟨hk.1.1.1, ⟨hk.1.1.2, hk.1.2⟩⟩); replace BK190 := zks hw BK190 NB190_216; replace BK207 := zks hw BK207 NB207_216; replace BK216 : Aside0 (w52.heap[gb216]? = some (.cells #[.slice Ao47 t208.length co47, .slice Ao51 t211.length co51] 24 (0, 0))) := ⟨(by rw [hw]; exact (by (with_reducible repeat (first | refine blk_drewN ?_ _ | refine blk_drew ?_ | refine blk_alloc ?_ _)); refine blk_put (cs := #[.slice Ao47 t208.length co47, .slice none 0 0]) ?_ 1 _ rfl; (with_reducible repeat (first | refine blk_drewN ?_ _ | refine blk_drew ?_ | refine blk_alloc ?_ _)); refine blk_put (cs := #[.slice none 0 0, .slice none 0 0]) ?_ 0 _ rfl; (with_reducible repeat (first | refine blk_drewN ?_ _ | refine blk_drew ?_ | refine blk_alloc ?_ _)); exact BK216.out))⟩; replace HB : Aside0 (Below w.heap.size w w52) := ⟨(by rw [hw]; exact (zc3 HB GE190 GE207 GE216))⟩; clear hw; have hcz53_0 : w52.cell? ⟨gb207, 0, none⟩ = some (.slice Ao39 t198.length co39) := (blk_cell BK207.out 0).trans rfl; have hcz53_1 : w52.cell? ⟨gb207, 1, none⟩ = some (.slice Ao42 t201.length co42) := (blk_cell BK207.out 1).trans rfl; have hfz53_0 := blk_frozen BK207.out 0; have hfz53_1 := blk_frozen BK207.out 1) | ((with_reducible refine gate_callee (f := 15) rfl ?_); refine goesL_ (some 40) rfl rfl Try.func15 (by kernel_rfl) rfl #[.agg #[.slice Ao39 t198.length co39, .slice Ao42 t201.length co42], .int .i64 2] rfl zm ?_; (with_reducible refine (cond_Go.calls k (fun k_ => (k_ ≠ gb190 ∧ (k_ ≠ gb207 ∧ k_ ≠ gb216))) _ _ t198 (fun k_ => (k_ ≠ gb190 ∧ (k_ ≠ gb207 ∧ k_ ≠ gb216))) _ _ t201 2 t217 t220 t223 _ ?side1 ?side2 A5.out).mono ?_); (case side1 => exact HO200.out); (case side2 => exact HO203.out); rintro e w54 ⟨v218, v221, rfl, ho0, ho1, hb⟩; refine ⟨_, rfl, ?_⟩; replace HO185 := zVb HO185 hb; replace HO188 := zVb HO188 hb; replace HO193 := zVb HO193 hb; replace HO196 := zVb HO196 hb; replace HO200 := zVb HO200 hb; replace HO203 := zVb HO203 hb; replace HO206 := zVb HO206 hb; replace HO210 := zVb HO210 hb; replace HO213 := zVb HO213 hb; have HO219 := am (Kd.V_lower (Kd.V_mono (ok' := fun k_ => k_ ≠ gb190 ∧ k_ ≠ gb207 ∧ k_ ≠ gb216) ho0 (fun k_ hk_ => ⟨Or.elim hk_ (fun hs_ => Or.elim hs_ (fun hs_ => hs_.1) (fun hs_ => hs_.1)) (fun hn_ => (zfr gb190 BK190 hn_)), Or.elim hk_ (fun hs_ => Or.elim hs_ (fun hs_ => hs_.2.1) (fun hs_ => hs_.2.1)) (fun hn_ => (zfr gb207 BK207 hn_)), Or.elim hk_ (fun hs_ => Or.elim hs_ (fun hs_ => hs_.2.2) (fun hs_ => hs_.2.2)) (fun hn_ => (zfr gb216 BK216 hn_))⟩)) (below_size (zc3 HB GE190 GE207 GE216))); have HO222 := am (Kd.V_lower (Kd.V_mono (ok' := fun k_ => k_ ≠ gb190 ∧ k_ ≠ gb207 ∧ k_ ≠ gb216) ho1 (fun k_ hk_ => ⟨Or.elim hk_ (fun hs_ => Or.elim hs_ (fun hs_ => hs_.1) (fun hs_ => hs_.1)) (fun hn_ => (zfr gb190 BK190 hn_)), Or.elim hk_ (fun hs_ => Or.elim hs_ (fun hs_ => hs_.2.1) (fun hs_ => hs_.2.1)) (fun hn_ => (zfr gb207 BK207 hn_)), Or.elim hk_ (fun hs_ => Or.elim hs_ (fun hs_ => hs_.2.2) (fun hs_ => hs_.2.2)) (fun hn_ => (zfr gb216 BK216 hn_))⟩)) (below_size (zc3 HB GE190 GE207 GE216))); replace BK190 := zbb BK190 hb; replace BK207 := zbb BK207 hb; replace BK216 := zbb BK216 hb; replace HB := am (below_step (zc3 HB GE190 GE207 GE216) hb); (try clear hb); (try clear hb2); (try clear hk); (try clear hi); (try clear ho0); (try clear ho1)) | ((with_reducible refine gate_dst (N := 9) rfl ?_); (try (refine gate_guard (by rfl) ?_; dsimp only)); refine box_event ?hg (N := 9) ?hd (cs := #[.slice none 0 0, .slice none 0 0]) (t := 24) ?hr ?_; (case hd => rfl); (case hg => rfl); (case hr => first | (go_simp; done) | (go_simp; rfl)); intro gb224 hg w55 hbox hb; replace HO185 := zVe HO185 hg hb; replace HO188 := zVe HO188 hg hb; replace HO193 := zVe HO193 hg hb; replace HO196 := zVe HO196 hg hb; replace HO200 := zVe HO200 hg hb; replace HO203 := zVe HO203 hg hb; replace HO206 := zVe HO206 hg hb; replace HO210 := zVe HO210 hg hb; replace HO213 := zVe HO213 hg hb; replace HO219 := zVe HO219 hg hb; replace HO222 := zVe HO222 hg hb; have BK224 := am (hbox); have GW224 := zsz hg (zc3 HB GE190 GE207 GE216); have GE224 := zsz hg (zc3 HB GE190 GE207 GE216); replace HB := am (below_step (zc3 HB GE190 GE207 GE216) hb); have NB190_224 := znt BK190 hg; have NB224_190 := zng BK190 hg; replace BK190 := zbb BK190 hb; have NB207_224 := znt BK207 hg; have NB224_207 := zng BK207 hg; replace BK207 := zbb BK207 hb; have NB216_224 := znt BK216 hg; have NB224_216 := zng BK216 hg; replace BK216 := zbb BK216 hb; clear hb hbox hg; obtain ⟨Ao56, co56, eo56⟩ := Kd.V_slice HO219.out; subst eo56; have hnb57 := NB224_190.out; have hnc57 := NB190_224.out; have hnb58 := NB224_207.out; have hnc58 := NB207_224.out; have hnb59 := NB224_216.out; have hnc59 := NB216_224.out; have hcz60_0 : w55.cell? ⟨gb224, 0, none⟩ = some (.slice none 0 0) := (blk_cell BK224.out 0).trans rfl; have hcz60_1 : w55.cell? ⟨gb224, 1, none⟩ = some (.slice none 0 0) := (blk_cell BK224.out 1).trans rfl; have hfz60_0 := blk_frozen BK224.out 0; have hfz60_1 := blk_frozen BK224.out 1; obtain ⟨Ao61, co61, eo61⟩ := Kd.V_slice HO222.out; subst eo61) | ((with_reducible refine gate_store (t := 24) (p := 9) rfl ?_); refine store_event (t := 24) (p := 9) (v := ?vo_w62) (w1 := ((w55.setCell ⟨gb224, 0, none⟩ (.slice Ao56 t217.length co56)).setCell ⟨gb224, 1, none⟩ (.slice Ao61 t220.length co61))) ?hg ?ho ?hn ?hr ?_; (case ho => rfl); (case hg => rfl); (case hn => rfl); (case hr => first | (go_simp; done) | (go_simp; rfl)); intro w62 hw; replace HO185 := zVm hw HO185 (fun k_ => k_ ≠ gb190 ∧ k_ ≠ gb207 ∧ k_ ≠ gb216 ∧ k_ ≠ gb224) (fun _ hk => hk.2) (fun _ hk => ⟨hk.1.1.1, ⟨hk.1.1.2.1, ⟨hk.1.1.2.2, hk.1.2⟩⟩⟩); replace HO188 := zVm hw HO188 (fun k_ => k_ ≠ gb190 ∧ k_ ≠ gb207 ∧ k_ ≠ gb216 ∧ k_ ≠ gb224) (fun _ hk => hk.2) (fun _ hk => ⟨hk.1.1.1, ⟨hk.1.1.2.1, ⟨hk.1.1.2.2, hk.1.2⟩⟩⟩); replace HO193 := zVm hw HO193 (fun k_ => k_ ≠ gb190 ∧ k_ ≠ gb207 ∧ k_ ≠ gb216 ∧ k_ ≠ gb224) (fun _ hk => hk.2) (fun _ hk => ⟨hk.1.1.1, ⟨hk.1.1.2.1, ⟨hk.1.1.2.2, hk.1.2⟩⟩⟩); replace HO196 := zVm hw HO196 (fun k_ => k_ ≠ gb190 ∧ k_ ≠ gb207 ∧ k_ ≠ gb216 ∧ k_ ≠ gb224) (fun _ hk => hk.2) (fun _ hk => ⟨hk.1.1.1, ⟨hk.1.1.2.1, ⟨hk.1.1.2.2, hk.1.2⟩⟩⟩); replace HO200 := zVm hw HO200 (fun k_ => k_ ≠ gb190 ∧ k_ ≠ gb207 ∧ k_ ≠ gb216 ∧ k_ ≠ gb224) (fun _ hk => hk.2) (fun _ hk => ⟨hk.1.1.1, ⟨hk.1.1.2.1, ⟨hk.1.1.2.2, hk.1.2⟩⟩⟩); replace HO203 := zVm hw HO203 (fun k_ => k_ ≠ gb190 ∧ k_ ≠ gb207 ∧ k_ ≠ gb216 ∧ k_ ≠ gb224) (fun _ hk => hk.2) (fun _ hk => ⟨hk.1.1.1, ⟨hk.1.1.2.1, ⟨hk.1.1.2.2, hk.1.2⟩⟩⟩); replace HO206 := zVm hw HO206 (fun k_ => k_ ≠ gb190 ∧ k_ ≠ gb207 ∧ k_ ≠ gb216 ∧ k_ ≠ gb224) (fun _ hk => hk.2) (fun _ hk => ⟨hk.1.1.1, ⟨hk.1.1.2.1, ⟨hk.1.1.2.2, hk.1.2⟩⟩⟩); replace HO210 := zVm hw HO210 (fun k_ => k_ ≠ gb190 ∧ k_ ≠ gb207 ∧ k_ ≠ gb216 ∧ k_ ≠ gb224) (fun _ hk => hk.2) (fun _ hk => ⟨hk.1.1.1, ⟨hk.1.1.2.1, ⟨hk.1.1.2.2, hk.1.2⟩⟩⟩); replace HO213 := zVm hw HO213 (fun k_ => k_ ≠ gb190 ∧ k_ ≠ gb207 ∧ k_ ≠ gb216 ∧ k_ ≠ gb224) (fun _ hk => hk.2) (fun _ hk => ⟨hk.1.1.1, ⟨hk.1.1.2.1, ⟨hk.1.1.2.2, hk.1.2⟩⟩⟩); replace HO219 := zVm hw HO219 (fun k_ => k_ ≠ gb190 ∧ k_ ≠ gb207 ∧ k_ ≠ gb216 ∧ k_ ≠ gb224) (fun _ hk => hk.2) (fun _ hk => ⟨hk.1.1.1, ⟨hk.1.1.2.1, ⟨hk.1.1.2.2, hk.1.2⟩⟩⟩); replace HO222 := zVm hw HO222 (fun k_ => k_ ≠ gb190 ∧ k_ ≠ gb207 ∧ k_ ≠ gb216 ∧ k_ ≠ gb224) (fun _ hk => hk.2) (fun _ hk => ⟨hk.1.1.1, ⟨hk.1.1.2.1, ⟨hk.1.1.2.2, hk.1.2⟩⟩⟩); replace BK190 := zks hw BK190 NB190_224; replace BK207 := zks hw BK207 NB207_224; replace BK216 := zks hw BK216 NB216_224; replace BK224 : Aside0 (w62.heap[gb224]? = some (.cells #[.slice Ao56 t217.length co56, .slice Ao61 t220.length co61] 24 (0, 0))) := ⟨(by rw [hw]; exact (by (with_reducible repeat (first | refine blk_drewN ?_ _ | refine blk_drew ?_ | refine blk_alloc ?_ _)); refine blk_put (cs := #[.slice Ao56 t217.length co56, .slice none 0 0]) ?_ 1 _ rfl; (with_reducible repeat (first | refine blk_drewN ?_ _ | refine blk_drew ?_ | refine blk_alloc ?_ _)); refine blk_put (cs := #[.slice none 0 0, .slice none 0 0]) ?_ 0 _ rfl; (with_reducible repeat (first | refine blk_drewN ?_ _ | refine blk_drew ?_ | refine blk_alloc ?_ _)); exact BK224.out))⟩; replace HB : Aside0 (Below w.heap.size w w62) := ⟨(by rw [hw]; exact (zc4 HB GE190 GE207 GE216 GE224))⟩; clear hw; have hcz63_0 : w62.cell? ⟨gb216, 0, none⟩ = some (.slice Ao47 t208.length co47) := (blk_cell BK216.out 0).trans rfl; have hcz63_1 : w62.cell? ⟨gb216, 1, none⟩ = some (.slice Ao51 t211.length co51) := (blk_cell BK216.out 1).trans rfl; have hfz63_0 := blk_frozen BK216.out 0; have hfz63_1 := blk_frozen BK216.out 1) | ((with_reducible refine gate_callee (f := 15) rfl ?_); refine goesL_ (some 45) rfl rfl Try.func15 (by kernel_rfl) rfl #[.agg #[.slice Ao47 t208.length co47, .slice Ao51 t211.length co51], .int .i64 2] rfl zm ?_; (with_reducible refine (cond_Go.calls k (fun k_ => (k_ ≠ gb190 ∧ (k_ ≠ gb207 ∧ (k_ ≠ gb216 ∧ k_ ≠ gb224)))) _ _ t208 (fun k_ => (k_ ≠ gb190 ∧ (k_ ≠ gb207 ∧ (k_ ≠ gb216 ∧ k_ ≠ gb224)))) _ _ t211 2 t225 t228 t231 _ ?side1 ?side2 A6.out).mono ?_); (case side1 => exact HO210.out); (case side2 => exact HO213.out); rintro e w64 ⟨v226, v229, rfl, ho0, ho1, hb⟩; refine ⟨_, rfl, ?_⟩; replace HO185 := zVb HO185 hb; replace HO188 := zVb HO188 hb; replace HO193 := zVb HO193 hb; replace HO196 := zVb HO196 hb; replace HO200 := zVb HO200 hb; replace HO203 := zVb HO203 hb; replace HO206 := zVb HO206 hb; replace HO210 := zVb HO210 hb; replace HO213 := zVb HO213 hb; replace HO219 := zVb HO219 hb; replace HO222 := zVb HO222 hb; have HO227 := am (Kd.V_lower (Kd.V_mono (ok' := fun k_ => k_ ≠ gb190 ∧ k_ ≠ gb207 ∧ k_ ≠ gb216 ∧ k_ ≠ gb224) ho0 (fun k_ hk_ => ⟨Or.elim hk_ (fun hs_ => Or.elim hs_ (fun hs_ => hs_.1) (fun hs_ => hs_.1)) (fun hn_ => (zfr gb190 BK190 hn_)), Or.elim hk_ (fun hs_ => Or.elim hs_ (fun hs_ => hs_.2.1) (fun hs_ => hs_.2.1)) (fun hn_ => (zfr gb207 BK207 hn_)), Or.elim hk_ (fun hs_ => Or.elim hs_ (fun hs_ => hs_.2.2.1) (fun hs_ => hs_.2.2.1)) (fun hn_ => (zfr gb216 BK216 hn_)), Or.elim hk_ (fun hs_ => Or.elim hs_ (fun hs_ => hs_.2.2.2) (fun hs_ => hs_.2.2.2)) (fun hn_ => (zfr gb224 BK224 hn_))⟩)) (below_size (zc4 HB GE190 GE207 GE216 GE224))); have HO230 := am (Kd.V_lower (Kd.V_mono (ok' := fun k_ => k_ ≠ gb190 ∧ k_ ≠ gb207 ∧ k_ ≠ gb216 ∧ k_ ≠ gb224) ho1 (fun k_ hk_ => ⟨Or.elim hk_ (fun hs_ => Or.elim hs_ (fun hs_ => hs_.1) (fun hs_ => hs_.1)) (fun hn_ => (zfr gb190 BK190 hn_)), Or.elim hk_ (fun hs_ => Or.elim hs_ (fun hs_ => hs_.2.1) (fun hs_ => hs_.2.1)) (fun hn_ => (zfr gb207 BK207 hn_)), Or.elim hk_ (fun hs_ => Or.elim hs_ (fun hs_ => hs_.2.2.1) (fun hs_ => hs_.2.2.1)) (fun hn_ => (zfr gb216 BK216 hn_)), Or.elim hk_ (fun hs_ => Or.elim hs_ (fun hs_ => hs_.2.2.2) (fun hs_ => hs_.2.2.2)) (fun hn_ => (zfr gb224 BK224 hn_))⟩)) (below_size (zc4 HB GE190 GE207 GE216 GE224))); replace BK190 := zbb BK190 hb; replace BK207 := zbb BK207 hb; replace BK216 := zbb BK216 hb; replace BK224 := zbb BK224 hb; replace HB := am (below_step (zc4 HB GE190 GE207 GE216 GE224) hb); (try clear hb); (try clear hb2); (try clear hk); (try clear hi); (try clear ho0); (try clear ho1)) | ((with_reducible refine gate_dst (N := 11) rfl ?_); (try (refine gate_guard (by rfl) ?_; dsimp only)); refine box_event ?hg (N := 11) ?hd (cs := #[.slice none 0 0, .slice none 0 0]) (t := 24) ?hr ?_; (case hd => rfl); (case hg => rfl); (case hr => first | (go_simp; done) | (go_simp; rfl)); intro gb232 hg w65 hbox hb; replace HO185 := zVe HO185 hg hb; replace HO188 := zVe HO188 hg hb; replace HO193 := zVe HO193 hg hb; replace HO196 := zVe HO196 hg hb; replace HO200 := zVe HO200 hg hb; replace HO203 := zVe HO203 hg hb; replace HO206 := zVe HO206 hg hb; replace HO210 := zVe HO210 hg hb; replace HO213 := zVe HO213 hg hb; replace HO219 := zVe HO219 hg hb; replace HO222 := zVe HO222 hg hb; replace HO227 := zVe HO227 hg hb; replace HO230 := zVe HO230 hg hb; have BK232 := am (hbox); have GW232 := zsz hg (zc4 HB GE190 GE207 GE216 GE224); have GE232 := zsz hg (zc4 HB GE190 GE207 GE216 GE224); replace HB := am (below_step (zc4 HB GE190 GE207 GE216 GE224) hb); have NB190_232 := znt BK190 hg; have NB232_190 := zng BK190 hg; replace BK190 := zbb BK190 hb; have NB207_232 := znt BK207 hg; have NB232_207 := zng BK207 hg; replace BK207 := zbb BK207 hb; have NB216_232 := znt BK216 hg; have NB232_216 := zng BK216 hg; replace BK216 := zbb BK216 hb; have NB224_232 := znt BK224 hg; have NB232_224 := zng BK224 hg; replace BK224 := zbb BK224 hb; clear hb hbox hg; obtain ⟨Ao66, co66, eo66⟩ := Kd.V_slice HO227.out; subst eo66; have hnb67 := NB232_190.out; have hnc67 := NB190_232.out; have hnb68 := NB232_207.out; have hnc68 := NB207_232.out; have hnb69 := NB232_216.out; have hnc69 := NB216_232.out; have hnb70 := NB232_224.out; have hnc70 := NB224_232.out; have hcz71_0 : w65.cell? ⟨gb232, 0, none⟩ = some (.slice none 0 0) := (blk_cell BK232.out 0).trans rfl; have hcz71_1 : w65.cell? ⟨gb232, 1, none⟩ = some (.slice none 0 0) := (blk_cell BK232.out 1).trans rfl; have hfz71_0 := blk_frozen BK232.out 0; have hfz71_1 := blk_frozen BK232.out 1; obtain ⟨Ao72, co72, eo72⟩ := Kd.V_slice HO230.out; subst eo72) | ((with_reducible refine gate_store (t := 24) (p := 11) rfl ?_); refine store_event (t := 24) (p := 11) (v := ?vo_w73) (w1 := ((w65.setCell ⟨gb232, 0, none⟩ (.slice Ao66 t225.length co66)).setCell ⟨gb232, 1, none⟩ (.slice Ao72 t228.length co72))) ?hg ?ho ?hn ?hr ?_; (case ho => rfl); (case hg => rfl); (case hn => rfl); (case hr => first | (go_simp; done) | (go_simp; rfl)); intro w73 hw; replace HO185 := zVm hw HO185 (fun k_ => k_ ≠ gb190 ∧ k_ ≠ gb207 ∧ k_ ≠ gb216 ∧ k_ ≠ gb224 ∧ k_ ≠ gb232) (fun _ hk => hk.2) (fun _ hk => ⟨hk.1.1.1, ⟨hk.1.1.2.1, ⟨hk.1.1.2.2.1, ⟨hk.1.1.2.2.2, hk.1.2⟩⟩⟩⟩); replace HO188 := zVm hw HO188 (fun k_ => k_ ≠ gb190 ∧ k_ ≠ gb207 ∧ k_ ≠ gb216 ∧ k_ ≠ gb224 ∧ k_ ≠ gb232) (fun _ hk => hk.2) (fun _ hk => ⟨hk.1.1.1, ⟨hk.1.1.2.1, ⟨hk.1.1.2.2.1, ⟨hk.1.1.2.2.2, hk.1.2⟩⟩⟩⟩); replace HO193 := zVm hw HO193 (fun k_ => k_ ≠ gb190 ∧ k_ ≠ gb207 ∧ k_ ≠ gb216 ∧ k_ ≠ gb224 ∧ k_ ≠ gb232) (fun _ hk => hk.2) (fun _ hk => ⟨hk.1.1.1, ⟨hk.1.1.2.1, ⟨hk.1.1.2.2.1, ⟨hk.1.1.2.2.2, hk.1.2⟩⟩⟩⟩); replace HO196 := zVm hw HO196 (fun k_ => k_ ≠ gb190 ∧ k_ ≠ gb207 ∧ k_ ≠ gb216 ∧ k_ ≠ gb224 ∧ k_ ≠ gb232) (fun _ hk => hk.2) (fun _ hk => ⟨hk.1.1.1, ⟨hk.1.1.2.1, ⟨hk.1.1.2.2.1, ⟨hk.1.1.2.2.2, hk.1.2⟩⟩⟩⟩); replace HO200 := zVm hw HO200 (fun k_ => k_ ≠ gb190 ∧ k_ ≠ gb207 ∧ k_ ≠ gb216 ∧ k_ ≠ gb224 ∧ k_ ≠ gb232) (fun _ hk => hk.2) (fun _ hk => ⟨hk.1.1.1, ⟨hk.1.1.2.1, ⟨hk.1.1.2.2.1, ⟨hk.1.1.2.2.2, hk.1.2⟩⟩⟩⟩); replace HO203 := zVm hw HO203 (fun k_ => k_ ≠ gb190 ∧ k_ ≠ gb207 ∧ k_ ≠ gb216 ∧ k_ ≠ gb224 ∧ k_ ≠ gb232) (fun _ hk => hk.2) (fun _ hk => ⟨hk.1.1.1, ⟨hk.1.1.2.1, ⟨hk.1.1.2.2.1, ⟨hk.1.1.2.2.2, hk.1.2⟩⟩⟩⟩); replace HO206 := zVm hw HO206 (fun k_ => k_ ≠ gb190 ∧ k_ ≠ gb207 ∧ k_ ≠ gb216 ∧ k_ ≠ gb224 ∧ k_ ≠ gb232) (fun _ hk => hk.2) (fun _ hk => ⟨hk.1.1.1, ⟨hk.1.1.2.1, ⟨hk.1.1.2.2.1, ⟨hk.1.1.2.2.2, hk.1.2⟩⟩⟩⟩); replace HO210 := zVm hw HO210 (fun k_ => k_ ≠ gb190 ∧ k_ ≠ gb207 ∧ k_ ≠ gb216 ∧ k_ ≠ gb224 ∧ k_ ≠ gb232) (fun _ hk => hk.2) (fun _ hk => ⟨hk.1.1.1, ⟨hk.1.1.2.1, ⟨hk.1.1.2.2.1, ⟨hk.1.1.2.2.2, hk.1.2⟩⟩⟩⟩); replace HO213 := zVm hw HO213 (fun k_ => k_ ≠ gb190 ∧ k_ ≠ gb207 ∧ k_ ≠ gb216 ∧ k_ ≠ gb224 ∧ k_ ≠ gb232) (fun _ hk => hk.2) (fun _ hk => ⟨hk.1.1.1, ⟨hk.1.1.2.1, ⟨hk.1.1.2.2.1, ⟨hk.1.1.2.2.2, hk.1.2⟩⟩⟩⟩); replace HO219 := zVm hw HO219 (fun k_ => k_ ≠ gb190 ∧ k_ ≠ gb207 ∧ k_ ≠ gb216 ∧ k_ ≠ gb224 ∧ k_ ≠ gb232) (fun _ hk => hk.2) (fun _ hk => ⟨hk.1.1.1, ⟨hk.1.1.2.1, ⟨hk.1.1.2.2.1, ⟨hk.1.1.2.2.2, hk.1.2⟩⟩⟩⟩); replace HO222 := zVm hw HO222 (fun k_ => k_ ≠ gb190 ∧ k_ ≠ gb207 ∧ k_ ≠ gb216 ∧ k_ ≠ gb224 ∧ k_ ≠ gb232) (fun _ hk => hk.2) (fun _ hk => ⟨hk.1.1.1, ⟨hk.1.1.2.1, ⟨hk.1.1.2.2.1, ⟨hk.1.1.2.2.2, hk.1.2⟩⟩⟩⟩); replace HO227 := zVm hw HO227 (fun k_ => k_ ≠ gb190 ∧ k_ ≠ gb207 ∧ k_ ≠ gb216 ∧ k_ ≠ gb224 ∧ k_ ≠ gb232) (fun _ hk => hk.2) (fun _ hk => ⟨hk.1.1.1, ⟨hk.1.1.2.1, ⟨hk.1.1.2.2.1, ⟨hk.1.1.2.2.2, hk.1.2⟩⟩⟩⟩); replace HO230 := zVm hw HO230 (fun k_ => k_ ≠ gb190 ∧ k_ ≠ gb207 ∧ k_ ≠ gb216 ∧ k_ ≠ gb224 ∧ k_ ≠ gb232) (fun _ hk => hk.2) (fun _ hk => ⟨hk.1.1.1, ⟨hk.1.1.2.1, ⟨hk.1.1.2.2.1, ⟨hk.1.1.2.2.2, hk.1.2⟩⟩⟩⟩); replace BK190 := zks hw BK190 NB190_232; replace BK207 := zks hw BK207 NB207_232; replace BK216 := zks hw BK216 NB216_232; replace BK224 := zks hw BK224 NB224_232; replace BK232 : Aside0 (w73.heap[gb232]? = some (.cells #[.slice Ao66 t225.length co66, .slice Ao72 t228.length co72] 24 (0, 0))) := ⟨(by rw [hw]; exact (by (with_reducible repeat (first | refine blk_drewN ?_ _ | refine blk_drew ?_ | refine blk_alloc ?_ _)); refine blk_put (cs := #[.slice Ao66 t225.length co66, .slice none 0 0]) ?_ 1 _ rfl; (with_reducible repeat (first | refine blk_drewN ?_ _ | refine blk_drew ?_ | refine blk_alloc ?_ _)); refine blk_put (cs := #[.slice none 0 0, .slice none 0 0]) ?_ 0 _ rfl; (with_reducible repeat (first | refine blk_drewN ?_ _ | refine blk_drew ?_ | refine blk_alloc ?_ _)); exact BK232.out))⟩; replace HB : Aside0 (Below w.heap.size w w73) := ⟨(by rw [hw]; exact (zc5 HB GE190 GE207 GE216 GE224 GE232))⟩; clear hw; have hcz74_0 : w73.cell? ⟨gb207, 0, none⟩ = some (.slice Ao39 t198.length co39) := (blk_cell BK207.out 0).trans rfl; have hcz74_1 : w73.cell? ⟨gb207, 1, none⟩ = some (.slice Ao42 t201.length co42) := (blk_cell BK207.out 1).trans rfl; have hfz74_0 := blk_frozen BK207.out 0; have hfz74_1 := blk_frozen BK207.out 1) | ((with_reducible refine gate_callee (f := 10) rfl ?_); refine goesL_ (some 50) rfl rfl Try.func10 (by kernel_rfl) rfl #[.agg #[.slice Ao39 t198.length co39, .slice Ao42 t201.length co42], .int .i64 1] rfl zm ?_; (with_reducible refine (cond_Wait.calls k (fun k_ => (k_ ≠ gb190 ∧ (k_ ≠ gb207 ∧ (k_ ≠ gb216 ∧ (k_ ≠ gb224 ∧ k_ ≠ gb232))))) _ _ t198 (fun k_ => (k_ ≠ gb190 ∧ (k_ ≠ gb207 ∧ (k_ ≠ gb216 ∧ (k_ ≠ gb224 ∧ k_ ≠ gb232))))) _ _ t201 1 t233 t236 t239 _ ?side1 ?side2 A7.out).mono ?_); (case side1 => exact HO200.out); (case side2 => exact HO203.out); rintro e w75 ⟨v234, v237, rfl, ho0, ho1, hb⟩; refine ⟨_, rfl, ?_⟩; replace HO185 := zVb HO185 hb; replace HO188 := zVb HO188 hb; replace HO193 := zVb HO193 hb; replace HO196 := zVb HO196 hb; replace HO200 := zVb HO200 hb; replace HO203 := zVb HO203 hb; replace HO206 := zVb HO206 hb; replace HO210 := zVb HO210 hb; replace HO213 := zVb HO213 hb; replace HO219 := zVb HO219 hb; replace HO222 := zVb HO222 hb; replace HO227 := zVb HO227 hb; replace HO230 := zVb HO230 hb; have HO235 := am (Kd.V_lower (Kd.V_mono (ok' := fun k_ => k_ ≠ gb190 ∧ k_ ≠ gb207 ∧ k_ ≠ gb216 ∧ k_ ≠ gb224 ∧ k_ ≠ gb232) ho0 (fun k_ hk_ => ⟨Or.elim hk_ (fun hs_ => Or.elim hs_ (fun hs_ => hs_.1) (fun hs_ => hs_.1)) (fun hn_ => (zfr gb190 BK190 hn_)), Or.elim hk_ (fun hs_ => Or.elim hs_ (fun hs_ => hs_.2.1) (fun hs_ => hs_.2.1)) (fun hn_ => (zfr gb207 BK207 hn_)), Or.elim hk_ (fun hs_ => Or.elim hs_ (fun hs_ => hs_.2.2.1) (fun hs_ => hs_.2.2.1)) (fun hn_ => (zfr gb216 BK216 hn_)), Or.elim hk_ (fun hs_ => Or.elim hs_ (fun hs_ => hs_.2.2.2.1) (fun hs_ => hs_.2.2.2.1)) (fun hn_ => (zfr gb224 BK224 hn_)), Or.elim hk_ (fun hs_ => Or.elim hs_ (fun hs_ => hs_.2.2.2.2) (fun hs_ => hs_.2.2.2.2)) (fun hn_ => (zfr gb232 BK232 hn_))⟩)) (below_size (zc5 HB GE190 GE207 GE216 GE224 GE232))); have HO238 := am (Kd.V_lower (Kd.V_mono (ok' := fun k_ => k_ ≠ gb190 ∧ k_ ≠ gb207 ∧ k_ ≠ gb216 ∧ k_ ≠ gb224 ∧ k_ ≠ gb232) ho1 (fun k_ hk_ => ⟨Or.elim hk_ (fun hs_ => Or.elim hs_ (fun hs_ => hs_.1) (fun hs_ => hs_.1)) (fun hn_ => (zfr gb190 BK190 hn_)), Or.elim hk_ (fun hs_ => Or.elim hs_ (fun hs_ => hs_.2.1) (fun hs_ => hs_.2.1)) (fun hn_ => (zfr gb207 BK207 hn_)), Or.elim hk_ (fun hs_ => Or.elim hs_ (fun hs_ => hs_.2.2.1) (fun hs_ => hs_.2.2.1)) (fun hn_ => (zfr gb216 BK216 hn_)), Or.elim hk_ (fun hs_ => Or.elim hs_ (fun hs_ => hs_.2.2.2.1) (fun hs_ => hs_.2.2.2.1)) (fun hn_ => (zfr gb224 BK224 hn_)), Or.elim hk_ (fun hs_ => Or.elim hs_ (fun hs_ => hs_.2.2.2.2) (fun hs_ => hs_.2.2.2.2)) (fun hn_ => (zfr gb232 BK232 hn_))⟩)) (below_size (zc5 HB GE190 GE207 GE216 GE224 GE232))); replace BK190 := zbb BK190 hb; replace BK207 := zbb BK207 hb; replace BK216 := zbb BK216 hb; replace BK224 := zbb BK224 hb; replace BK232 := zbb BK232 hb; replace HB := am (below_step (zc5 HB GE190 GE207 GE216 GE224 GE232) hb); (try clear hb); (try clear hb2); (try clear hk); (try clear hi); (try clear ho0); (try clear ho1)) | ((with_reducible refine gate_dst (N := 13) rfl ?_); (try (refine gate_guard (by rfl) ?_; dsimp only)); refine box_event ?hg (N := 13) ?hd (cs := #[.slice none 0 0, .slice none 0 0]) (t := 24) ?hr ?_; (case hd => rfl); (case hg => rfl); (case hr => first | (go_simp; done) | (go_simp; rfl)); intro gb240 hg w76 hbox hb; replace HO185 := zVe HO185 hg hb; replace HO188 := zVe HO188 hg hb; replace HO193 := zVe HO193 hg hb; replace HO196 := zVe HO196 hg hb; replace HO200 := zVe HO200 hg hb; replace HO203 := zVe HO203 hg hb; replace HO206 := zVe HO206 hg hb; replace HO210 := zVe HO210 hg hb; replace HO213 := zVe HO213 hg hb; replace HO219 := zVe HO219 hg hb; replace HO222 := zVe HO222 hg hb; replace HO227 := zVe HO227 hg hb; replace HO230 := zVe HO230 hg hb; replace HO235 := zVe HO235 hg hb; replace HO238 := zVe HO238 hg hb; have BK240 := am (hbox); have GW240 := zsz hg (zc5 HB GE190 GE207 GE216 GE224 GE232); have GE240 := zsz hg (zc5 HB GE190 GE207 GE216 GE224 GE232); replace HB := am (below_step (zc5 HB GE190 GE207 GE216 GE224 GE232) hb); have NB190_240 := znt BK190 hg; have NB240_190 := zng BK190 hg; replace BK190 := zbb BK190 hb; have NB207_240 := znt BK207 hg; have NB240_207 := zng BK207 hg; replace BK207 := zbb BK207 hb; have NB216_240 := znt BK216 hg; have NB240_216 := zng BK216 hg; replace BK216 := zbb BK216 hb; have NB224_240 := znt BK224 hg; have NB240_224 := zng BK224 hg; replace BK224 := zbb BK224 hb; have NB232_240 := znt BK232 hg; have NB240_232 := zng BK232 hg; replace BK232 := zbb BK232 hb; clear hb hbox hg; obtain ⟨Ao77, co77, eo77⟩ := Kd.V_slice HO235.out; subst eo77; have hnb78 := NB240_190.out; have hnc78 := NB190_240.out; have hnb79 := NB240_207.out; have hnc79 := NB207_240.out; have hnb80 := NB240_216.out; have hnc80 := NB216_240.out; have hnb81 := NB240_224.out; have hnc81 := NB224_240.out; have hnb82 := NB240_232.out; have hnc82 := NB232_240.out; have hcz83_0 : w76.cell? ⟨gb240, 0, none⟩ = some (.slice none 0 0) := (blk_cell BK240.out 0).trans rfl; have hcz83_1 : w76.cell? ⟨gb240, 1, none⟩ = some (.slice none 0 0) := (blk_cell BK240.out 1).trans rfl; have hfz83_0 := blk_frozen BK240.out 0; have hfz83_1 := blk_frozen BK240.out 1; obtain ⟨Ao84, co84, eo84⟩ := Kd.V_slice HO238.out; subst eo84) | ((with_reducible refine gate_store (t := 24) (p := 13) rfl ?_); refine store_event (t := 24) (p := 13) (v := ?vo_w85) (w1 := ((w76.setCell ⟨gb240, 0, none⟩ (.slice Ao77 t233.length co77)).setCell ⟨gb240, 1, none⟩ (.slice Ao84 t236.length co84))) ?hg ?ho ?hn ?hr ?_; (case ho => rfl); (case hg => rfl); (case hn => rfl); (case hr => first | (go_simp; done) | (go_simp; rfl)); intro w85 hw; replace HO185 := zVm hw HO185 (fun k_ => k_ ≠ gb190 ∧ k_ ≠ gb207 ∧ k_ ≠ gb216 ∧ k_ ≠ gb224 ∧ k_ ≠ gb232 ∧ k_ ≠ gb240) (fun _ hk => hk.2) (fun _ hk => ⟨hk.1.1.1, ⟨hk.1.1.2.1, ⟨hk.1.1.2.2.1, ⟨hk.1.1.2.2.2.1, ⟨hk.1.1.2.2.2.2, hk.1.2⟩⟩⟩⟩⟩); replace HO188 := zVm hw HO188 (fun k_ => k_ ≠ gb190 ∧ k_ ≠ gb207 ∧ k_ ≠ gb216 ∧ k_ ≠ gb224 ∧ k_ ≠ gb232 ∧ k_ ≠ gb240) (fun _ hk => hk.2) (fun _ hk => ⟨hk.1.1.1, ⟨hk.1.1.2.1, ⟨hk.1.1.2.2.1, ⟨hk.1.1.2.2.2.1, ⟨hk.1.1.2.2.2.2, hk.1.2⟩⟩⟩⟩⟩); replace HO193 := zVm hw HO193 (fun k_ => k_ ≠ gb190 ∧ k_ ≠ gb207 ∧ k_ ≠ gb216 ∧ k_ ≠ gb224 ∧ k_ ≠ gb232 ∧ k_ ≠ gb240) (fun _ hk => hk.2) (fun _ hk => ⟨hk.1.1.1, ⟨hk.1.1.2.1, ⟨hk.1.1.2.2.1, ⟨hk.1.1.2.2.2.1, ⟨hk.1.1.2.2.2.2, hk.1.2⟩⟩⟩⟩⟩); replace HO196 := zVm hw HO196 (fun k_ => k_ ≠ gb190 ∧ k_ ≠ gb207 ∧ k_ ≠ gb216 ∧ k_ ≠ gb224 ∧ k_ ≠ gb232 ∧ k_ ≠ gb240) (fun _ hk => hk.2) (fun _ hk => ⟨hk.1.1.1, ⟨hk.1.1.2.1, ⟨hk.1.1.2.2.1, ⟨hk.1.1.2.2.2.1, ⟨hk.1.1.2.2.2.2, hk.1.2⟩⟩⟩⟩⟩); replace HO200 := zVm hw HO200 (fun k_ => k_ ≠ gb190 ∧ k_ ≠ gb207 ∧ k_ ≠ gb216 ∧ k_ ≠ gb224 ∧ k_ ≠ gb232 ∧ k_ ≠ gb240) (fun _ hk => hk.2) (fun _ hk => ⟨hk.1.1.1, ⟨hk.1.1.2.1, ⟨hk.1.1.2.2.1, ⟨hk.1.1.2.2.2.1, ⟨hk.1.1.2.2.2.2, hk.1.2⟩⟩⟩⟩⟩); replace HO203 := zVm hw HO203 (fun k_ => k_ ≠ gb190 ∧ k_ ≠ gb207 ∧ k_ ≠ gb216 ∧ k_ ≠ gb224 ∧ k_ ≠ gb232 ∧ k_ ≠ gb240) (fun _ hk => hk.2) (fun _ hk => ⟨hk.1.1.1, ⟨hk.1.1.2.1, ⟨hk.1.1.2.2.1, ⟨hk.1.1.2.2.2.1, ⟨hk.1.1.2.2.2.2, hk.1.2⟩⟩⟩⟩⟩); replace HO206 := zVm hw HO206 (fun k_ => k_ ≠ gb190 ∧ k_ ≠ gb207 ∧ k_ ≠ gb216 ∧ k_ ≠ gb224 ∧ k_ ≠ gb232 ∧ k_ ≠ gb240) (fun _ hk => hk.2) (fun _ hk => ⟨hk.1.1.1, ⟨hk.1.1.2.1, ⟨hk.1.1.2.2.1, ⟨hk.1.1.2.2.2.1, ⟨hk.1.1.2.2.2.2, hk.1.2⟩⟩⟩⟩⟩); replace HO210 := zVm hw HO210 (fun k_ => k_ ≠ gb190 ∧ k_ ≠ gb207 ∧ k_ ≠ gb216 ∧ k_ ≠ gb224 ∧ k_ ≠ gb232 ∧ k_ ≠ gb240) (fun _ hk => hk.2) (fun _ hk => ⟨hk.1.1.1, ⟨hk.1.1.2.1, ⟨hk.1.1.2.2.1, ⟨hk.1.1.2.2.2.1, ⟨hk.1.1.2.2.2.2, hk.1.2⟩⟩⟩⟩⟩); replace HO213 := zVm hw HO213 (fun k_ => k_ ≠ gb190 ∧ k_ ≠ gb207 ∧ k_ ≠ gb216 ∧ k_ ≠ gb224 ∧ k_ ≠ gb232 ∧ k_ ≠ gb240) (fun _ hk => hk.2) (fun _ hk => ⟨hk.1.1.1, ⟨hk.1.1.2.1, ⟨hk.1.1.2.2.1, ⟨hk.1.1.2.2.2.1, ⟨hk.1.1.2.2.2.2, hk.1.2⟩⟩⟩⟩⟩); replace HO219 := zVm hw HO219 (fun k_ => k_ ≠ gb190 ∧ k_ ≠ gb207 ∧ k_ ≠ gb216 ∧ k_ ≠ gb224 ∧ k_ ≠ gb232 ∧ k_ ≠ gb240) (fun _ hk => hk.2) (fun _ hk => ⟨hk.1.1.1, ⟨hk.1.1.2.1, ⟨hk.1.1.2.2.1, ⟨hk.1.1.2.2.2.1, ⟨hk.1.1.2.2.2.2, hk.1.2⟩⟩⟩⟩⟩); replace HO222 := zVm hw HO222 (fun k_ => k_ ≠ gb190 ∧ k_ ≠ gb207 ∧ k_ ≠ gb216 ∧ k_ ≠ gb224 ∧ k_ ≠ gb232 ∧ k_ ≠ gb240) (fun _ hk => hk.2) (fun _ hk => ⟨hk.1.1.1, ⟨hk.1.1.2.1, ⟨hk.1.1.2.2.1, ⟨hk.1.1.2.2.2.1, ⟨hk.1.1.2.2.2.2, hk.1.2⟩⟩⟩⟩⟩); replace HO227 := zVm hw HO227 (fun k_ => k_ ≠ gb190 ∧ k_ ≠ gb207 ∧ k_ ≠ gb216 ∧ k_ ≠ gb224 ∧ k_ ≠ gb232 ∧ k_ ≠ gb240) (fun _ hk => hk.2) (fun _ hk => ⟨hk.1.1.1, ⟨hk.1.1.2.1, ⟨hk.1.1.2.2.1, ⟨hk.1.1.2.2.2.1, ⟨hk.1.1.2.2.2.2, hk.1.2⟩⟩⟩⟩⟩); replace HO230 := zVm hw HO230 (fun k_ => k_ ≠ gb190 ∧ k_ ≠ gb207 ∧ k_ ≠ gb216 ∧ k_ ≠ gb224 ∧ k_ ≠ gb232 ∧ k_ ≠ gb240) (fun _ hk => hk.2) (fun _ hk => ⟨hk.1.1.1, ⟨hk.1.1.2.1, ⟨hk.1.1.2.2.1, ⟨hk.1.1.2.2.2.1, ⟨hk.1.1.2.2.2.2, hk.1.2⟩⟩⟩⟩⟩); replace HO235 := zVm hw HO235 (fun k_ => k_ ≠ gb190 ∧ k_ ≠ gb207 ∧ k_ ≠ gb216 ∧ k_ ≠ gb224 ∧ k_ ≠ gb232 ∧ k_ ≠ gb240) (fun _ hk => hk.2) (fun _ hk => ⟨hk.1.1.1, ⟨hk.1.1.2.1, ⟨hk.1.1.2.2.1, ⟨hk.1.1.2.2.2.1, ⟨hk.1.1.2.2.2.2, hk.1.2⟩⟩⟩⟩⟩); replace HO238 := zVm hw HO238 (fun k_ => k_ ≠ gb190 ∧ k_ ≠ gb207 ∧ k_ ≠ gb216 ∧ k_ ≠ gb224 ∧ k_ ≠ gb232 ∧ k_ ≠ gb240) (fun _ hk => hk.2) (fun _ hk => ⟨hk.1.1.1, ⟨hk.1.1.2.1, ⟨hk.1.1.2.2.1, ⟨hk.1.1.2.2.2.1, ⟨hk.1.1.2.2.2.2, hk.1.2⟩⟩⟩⟩⟩); replace BK190 := zks hw BK190 NB190_240; replace BK207 := zks hw BK207 NB207_240; replace BK216 := zks hw BK216 NB216_240; replace BK224 := zks hw BK224 NB224_240; replace BK232 := zks hw BK232 NB232_240; replace BK240 : Aside0 (w85.heap[gb240]? = some (.cells #[.slice Ao77 t233.length co77, .slice Ao84 t236.length co84] 24 (0, 0))) := ⟨(by rw [hw]; exact (by (with_reducible repeat (first | refine blk_drewN ?_ _ | refine blk_drew ?_ | refine blk_alloc ?_ _)); refine blk_put (cs := #[.slice Ao77 t233.length co77, .slice none 0 0]) ?_ 1 _ rfl; (with_reducible repeat (first | refine blk_drewN ?_ _ | refine blk_drew ?_ | refine blk_alloc ?_ _)); refine blk_put (cs := #[.slice none 0 0, .slice none 0 0]) ?_ 0 _ rfl; (with_reducible repeat (first | refine blk_drewN ?_ _ | refine blk_drew ?_ | refine blk_alloc ?_ _)); exact BK240.out))⟩; replace HB : Aside0 (Below w.heap.size w w85) := ⟨(by rw [hw]; exact (zc6 HB GE190 GE207 GE216 GE224 GE232 GE240))⟩; clear hw; have hcz86_0 : w85.cell? ⟨gb232, 0, none⟩ = some (.slice Ao66 t225.length co66) := (blk_cell BK232.out 0).trans rfl; have hcz86_1 : w85.cell? ⟨gb232, 1, none⟩ = some (.slice Ao72 t228.length co72) := (blk_cell BK232.out 1).trans rfl; have hfz86_0 := blk_frozen BK232.out 0; have hfz86_1 := blk_frozen BK232.out 1) | ((with_reducible refine gate_callee (f := 15) rfl ?_); refine goesL_ (some 55) rfl rfl Try.func15 (by kernel_rfl) rfl #[.agg #[.slice Ao66 t225.length co66, .slice Ao72 t228.length co72], .int .i64 2] rfl zm ?_; (with_reducible refine (cond_Go.calls k (fun k_ => (k_ ≠ gb190 ∧ (k_ ≠ gb207 ∧ (k_ ≠ gb216 ∧ (k_ ≠ gb224 ∧ (k_ ≠ gb232 ∧ k_ ≠ gb240)))))) _ _ t225 (fun k_ => (k_ ≠ gb190 ∧ (k_ ≠ gb207 ∧ (k_ ≠ gb216 ∧ (k_ ≠ gb224 ∧ (k_ ≠ gb232 ∧ k_ ≠ gb240)))))) _ _ t228 2 t241 t244 t247 _ ?side1 ?side2 A8.out).mono ?_); (case side1 => exact HO227.out); (case side2 => exact HO230.out); rintro e w87 ⟨v242, v245, rfl, ho0, ho1, hb⟩; refine ⟨_, rfl, ?_⟩; replace HO185 := zVb HO185 hb; replace HO188 := zVb HO188 hb; replace HO193 := zVb HO193 hb; replace HO196 := zVb HO196 hb; replace HO200 := zVb HO200 hb; replace HO203 := zVb HO203 hb; replace HO206 := zVb HO206 hb; replace HO210 := zVb HO210 hb; replace HO213 := zVb HO213 hb; replace HO219 := zVb HO219 hb; replace HO222 := zVb HO222 hb; replace HO227 := zVb HO227 hb; replace HO230 := zVb HO230 hb; replace HO235 := zVb HO235 hb; replace HO238 := zVb HO238 hb; have HO243 := am (Kd.V_lower (Kd.V_mono (ok' := fun k_ => k_ ≠ gb190 ∧ k_ ≠ gb207 ∧ k_ ≠ gb216 ∧ k_ ≠ gb224 ∧ k_ ≠ gb232 ∧ k_ ≠ gb240) ho0 (fun k_ hk_ => ⟨Or.elim hk_ (fun hs_ => Or.elim hs_ (fun hs_ => hs_.1) (fun hs_ => hs_.1)) (fun hn_ => (zfr gb190 BK190 hn_)), Or.elim hk_ (fun hs_ => Or.elim hs_ (fun hs_ => hs_.2.1) (fun hs_ => hs_.2.1)) (fun hn_ => (zfr gb207 BK207 hn_)), Or.elim hk_ (fun hs_ => Or.elim hs_ (fun hs_ => hs_.2.2.1) (fun hs_ => hs_.2.2.1)) (fun hn_ => (zfr gb216 BK216 hn_)), Or.elim hk_ (fun hs_ => Or.elim hs_ (fun hs_ => hs_.2.2.2.1) (fun hs_ => hs_.2.2.2.1)) (fun hn_ => (zfr gb224 BK224 hn_)), Or.elim hk_ (fun hs_ => Or.elim hs_ (fun hs_ => hs_.2.2.2.2.1) (fun hs_ => hs_.2.2.2.2.1)) (fun hn_ => (zfr gb232 BK232 hn_)), Or.elim hk_ (fun hs_ => Or.elim hs_ (fun hs_ => hs_.2.2.2.2.2) (fun hs_ => hs_.2.2.2.2.2)) (fun hn_ => (zfr gb240 BK240 hn_))⟩)) (below_size (zc6 HB GE190 GE207 GE216 GE224 GE232 GE240))); have HO246 := am (Kd.V_lower (Kd.V_mono (ok' := fun k_ => k_ ≠ gb190 ∧ k_ ≠ gb207 ∧ k_ ≠ gb216 ∧ k_ ≠ gb224 ∧ k_ ≠ gb232 ∧ k_ ≠ gb240) ho1 (fun k_ hk_ => ⟨Or.elim hk_ (fun hs_ => Or.elim hs_ (fun hs_ => hs_.1) (fun hs_ => hs_.1)) (fun hn_ => (zfr gb190 BK190 hn_)), Or.elim hk_ (fun hs_ => Or.elim hs_ (fun hs_ => hs_.2.1) (fun hs_ => hs_.2.1)) (fun hn_ => (zfr gb207 BK207 hn_)), Or.elim hk_ (fun hs_ => Or.elim hs_ (fun hs_ => hs_.2.2.1) (fun hs_ => hs_.2.2.1)) (fun hn_ => (zfr gb216 BK216 hn_)), Or.elim hk_ (fun hs_ => Or.elim hs_ (fun hs_ => hs_.2.2.2.1) (fun hs_ => hs_.2.2.2.1)) (fun hn_ => (zfr gb224 BK224 hn_)), Or.elim hk_ (fun hs_ => Or.elim hs_ (fun hs_ => hs_.2.2.2.2.1) (fun hs_ => hs_.2.2.2.2.1)) (fun hn_ => (zfr gb232 BK232 hn_)), Or.elim hk_ (fun hs_ => Or.elim hs_ (fun hs_ => hs_.2.2.2.2.2) (fun hs_ => hs_.2.2.2.2.2)) (fun hn_ => (zfr gb240 BK240 hn_))⟩)) (below_size (zc6 HB GE190 GE207 GE216 GE224 GE232 GE240))); replace BK190 := zbb BK190 hb; replace BK207 := zbb BK207 hb; replace BK216 := zbb BK216 hb; replace BK224 := zbb BK224 hb; replace BK232 := zbb BK232 hb; replace BK240 := zbb BK240 hb; replace HB := am (below_step (zc6 HB GE190 GE207 GE216 GE224 GE232 GE240) hb); (try clear hb); (try clear hb2); (try clear hk); (try clear hi); (try clear ho0); (try clear ho1)) | ((with_reducible refine gate_dst (N := 15) rfl ?_); (try (refine gate_guard (by rfl) ?_; dsimp only)); refine box_event ?hg (N := 15) ?hd (cs := #[.slice none 0 0, .slice none 0 0]) (t := 24) ?hr ?_; (case hd => rfl); (case hg => rfl); (case hr => first | (go_simp; done) | (go_simp; rfl)); intro gb248 hg w88 hbox hb; replace HO185 := zVe HO185 hg hb; replace HO188 := zVe HO188 hg hb; replace HO193 := zVe HO193 hg hb; replace HO196 := zVe HO196 hg hb; replace HO200 := zVe HO200 hg hb; replace HO203 := zVe HO203 hg hb; replace HO206 := zVe HO206 hg hb; replace HO210 := zVe HO210 hg hb; replace HO213 := zVe HO213 hg hb; replace HO219 := zVe HO219 hg hb; replace HO222 := zVe HO222 hg hb; replace HO227 := zVe HO227 hg hb; replace HO230 := zVe HO230 hg hb; replace HO235 := zVe HO235 hg hb; replace HO238 := zVe HO238 hg hb; replace HO243 := zVe HO243 hg hb; replace HO246 := zVe HO246 hg hb; have BK248 := am (hbox); have GW248 := zsz hg (zc6 HB GE190 GE207 GE216 GE224 GE232 GE240); have GE248 := zsz hg (zc6 HB GE190 GE207 GE216 GE224 GE232 GE240); replace HB := am (below_step (zc6 HB GE190 GE207 GE216 GE224 GE232 GE240) hb); have NB190_248 := znt BK190 hg; have NB248_190 := zng BK190 hg; replace BK190 := zbb BK190 hb; have NB207_248 := znt BK207 hg; have NB248_207 := zng BK207 hg; replace BK207 := zbb BK207 hb; have NB216_248 := znt BK216 hg; have NB248_216 := zng BK216 hg; replace BK216 := zbb BK216 hb; have NB224_248 := znt BK224 hg; have NB248_224 := zng BK224 hg; replace BK224 := zbb BK224 hb; have NB232_248 := znt BK232 hg; have NB248_232 := zng BK232 hg; replace BK232 := zbb BK232 hb; have NB240_248 := znt BK240 hg; have NB248_240 := zng BK240 hg; replace BK240 := zbb BK240 hb; clear hb hbox hg; obtain ⟨Ao89, co89, eo89⟩ := Kd.V_slice HO243.out; subst eo89; have hnb90 := NB248_190.out; have hnc90 := NB190_248.out; have hnb91 := NB248_207.out; have hnc91 := NB207_248.out; have hnb92 := NB248_216.out; have hnc92 := NB216_248.out; have hnb93 := NB248_224.out; have hnc93 := NB224_248.out; have hnb94 := NB248_232.out; have hnc94 := NB232_248.out; have hnb95 := NB248_240.out; have hnc95 := NB240_248.out; have hcz96_0 : w88.cell? ⟨gb248, 0, none⟩ = some (.slice none 0 0) := (blk_cell BK248.out 0).trans rfl; have hcz96_1 : w88.cell? ⟨gb248, 1, none⟩ = some (.slice none 0 0) := (blk_cell BK248.out 1).trans rfl; have hfz96_0 := blk_frozen BK248.out 0; have hfz96_1 := blk_frozen BK248.out 1; obtain ⟨Ao97, co97, eo97⟩ := Kd.V_slice HO246.out; subst eo97) | ((with_reducible refine gate_dst (N := 66) rfl ?_); (try (refine gate_guard (by rfl) ?_; dsimp only)); refine Kd.R_lit (Kd.int .i64) _ 3 ?hg (N := 66) ?hd (xs := ([1] : List Int)) (inner := [.int .i64 1]) (ok := fun _ => True) (okp := fun _ => True) ?hr ?hp (fun _ hk => hk) trivial (Below.refl _ _) (Nat.le_refl _) (by simp) ?_; (case hd => rfl); (case hg => rfl); (case hr => first | (go_simp; done) | (go_simp; rfl)); (case hp => exact (Reps.one (show Kd.M (Kd.int .i64) _ _ _ 1 [.int .i64 1] from rfl) (Reps.none _ _))); intro v250 w98 ho99 hb hg_ hnew_; clear hg_ hnew_; (first | rw [← Ny249.out] at ho99 | (simp only [Int.reduceToNat] at ho99; rw [← Ny249.out] at ho99)); replace HO185 := am (Kd.V_elder' (by (with_reducible repeat (first | apply Kd.V_alloc | apply Kd.V_drewN | apply Kd.V_drew)); exact (Kd.V_mono (Kd.V_far (p := ⟨gb248, 1, none⟩) (Kd.V_far (p := ⟨gb248, 0, none⟩) (Kd.V_mono HO185.out (fun k_ hk => (⟨hk, hk.2⟩ : _ ∧ k_ ≠ gb248))) (fun _ hk => hk.2) (.slice Ao89 t241.length co89)) (fun _ hk => hk.2) (.slice Ao97 t244.length co97)) (fun _ h_ => h_.1))) (Kd.R_base ho99) hb); replace HO188 := am (Kd.V_elder' (by (with_reducible repeat (first | apply Kd.V_alloc | apply Kd.V_drewN | apply Kd.V_drew)); exact (Kd.V_mono (Kd.V_far (p := ⟨gb248, 1, none⟩) (Kd.V_far (p := ⟨gb248, 0, none⟩) (Kd.V_mono HO188.out (fun k_ hk => (⟨hk, hk.2⟩ : _ ∧ k_ ≠ gb248))) (fun _ hk => hk.2) (.slice Ao89 t241.length co89)) (fun _ hk => hk.2) (.slice Ao97 t244.length co97)) (fun _ h_ => h_.1))) (Kd.R_base ho99) hb); replace HO193 := am (Kd.V_elder' (by (with_reducible repeat (first | apply Kd.V_alloc | apply Kd.V_drewN | apply Kd.V_drew)); exact (Kd.V_mono (Kd.V_far (p := ⟨gb248, 1, none⟩) (Kd.V_far (p := ⟨gb248, 0, none⟩) (Kd.V_mono HO193.out (fun k_ hk => (⟨hk, hk.2⟩ : _ ∧ k_ ≠ gb248))) (fun _ hk => hk.2) (.slice Ao89 t241.length co89)) (fun _ hk => hk.2) (.slice Ao97 t244.length co97)) (fun _ h_ => h_.1))) (Kd.R_base ho99) hb); replace HO196 := am (Kd.V_elder' (by (with_reducible repeat (first | apply Kd.V_alloc | apply Kd.V_drewN | apply Kd.V_drew)); exact (Kd.V_mono (Kd.V_far (p := ⟨gb248, 1, none⟩) (Kd.V_far (p := ⟨gb248, 0, none⟩) (Kd.V_mono HO196.out (fun k_ hk => (⟨hk, hk.2⟩ : _ ∧ k_ ≠ gb248))) (fun _ hk => hk.2) (.slice Ao89 t241.length co89)) (fun _ hk => hk.2) (.slice Ao97 t244.length co97)) (fun _ h_ => h_.1))) (Kd.R_base ho99) hb); replace HO200 := am (Kd.V_elder' (by (with_reducible repeat (first | apply Kd.V_alloc | apply Kd.V_drewN | apply Kd.V_drew)); exact (Kd.V_mono (Kd.V_far (p := ⟨gb248, 1, none⟩) (Kd.V_far (p := ⟨gb248, 0, none⟩) (Kd.V_mono HO200.out (fun k_ hk => (⟨hk, hk.2⟩ : _ ∧ k_ ≠ gb248))) (fun _ hk => hk.2) (.slice Ao89 t241.length co89)) (fun _ hk => hk.2) (.slice Ao97 t244.length co97)) (fun _ h_ => h_.1))) (Kd.R_base ho99) hb); replace HO203 := am (Kd.V_elder' (by (with_reducible repeat (first | apply Kd.V_alloc | apply Kd.V_drewN | apply Kd.V_drew)); exact (Kd.V_mono (Kd.V_far (p := ⟨gb248, 1, none⟩) (Kd.V_far (p := ⟨gb248, 0, none⟩) (Kd.V_mono HO203.out (fun k_ hk => (⟨hk, hk.2⟩ : _ ∧ k_ ≠ gb248))) (fun _ hk => hk.2) (.slice Ao89 t241.length co89)) (fun _ hk => hk.2) (.slice Ao97 t244.length co97)) (fun _ h_ => h_.1))) (Kd.R_base ho99) hb); replace HO206 := am (Kd.V_elder' (by (with_reducible repeat (first | apply Kd.V_alloc | apply Kd.V_drewN | apply Kd.V_drew)); exact (Kd.V_mono (Kd.V_far (p := ⟨gb248, 1, none⟩) (Kd.V_far (p := ⟨gb248, 0, none⟩) (Kd.V_mono HO206.out (fun k_ hk => (⟨hk, hk.2⟩ : _ ∧ k_ ≠ gb248))) (fun _ hk => hk.2) (.slice Ao89 t241.length co89)) (fun _ hk => hk.2) (.slice Ao97 t244.length co97)) (fun _ h_ => h_.1))) (Kd.R_base ho99) hb); replace HO210 := am (Kd.V_elder' (by (with_reducible repeat (first | apply Kd.V_alloc | apply Kd.V_drewN | apply Kd.V_drew)); exact (Kd.V_mono (Kd.V_far (p := ⟨gb248, 1, none⟩) (Kd.V_far (p := ⟨gb248, 0, none⟩) (Kd.V_mono HO210.out (fun k_ hk => (⟨hk, hk.2⟩ : _ ∧ k_ ≠ gb248))) (fun _ hk => hk.2) (.slice Ao89 t241.length co89)) (fun _ hk => hk.2) (.slice Ao97 t244.length co97)) (fun _ h_ => h_.1))) (Kd.R_base ho99) hb); replace HO213 := am (Kd.V_elder' (by (with_reducible repeat (first | apply Kd.V_alloc | apply Kd.V_drewN | apply Kd.V_drew)); exact (Kd.V_mono (Kd.V_far (p := ⟨gb248, 1, none⟩) (Kd.V_far (p := ⟨gb248, 0, none⟩) (Kd.V_mono HO213.out (fun k_ hk => (⟨hk, hk.2⟩ : _ ∧ k_ ≠ gb248))) (fun _ hk => hk.2) (.slice Ao89 t241.length co89)) (fun _ hk => hk.2) (.slice Ao97 t244.length co97)) (fun _ h_ => h_.1))) (Kd.R_base ho99) hb); replace HO219 := am (Kd.V_elder' (by (with_reducible repeat (first | apply Kd.V_alloc | apply Kd.V_drewN | apply Kd.V_drew)); exact (Kd.V_mono (Kd.V_far (p := ⟨gb248, 1, none⟩) (Kd.V_far (p := ⟨gb248, 0, none⟩) (Kd.V_mono HO219.out (fun k_ hk => (⟨hk, hk.2⟩ : _ ∧ k_ ≠ gb248))) (fun _ hk => hk.2) (.slice Ao89 t241.length co89)) (fun _ hk => hk.2) (.slice Ao97 t244.length co97)) (fun _ h_ => h_.1))) (Kd.R_base ho99) hb); replace HO222 := am (Kd.V_elder' (by (with_reducible repeat (first | apply Kd.V_alloc | apply Kd.V_drewN | apply Kd.V_drew)); exact (Kd.V_mono (Kd.V_far (p := ⟨gb248, 1, none⟩) (Kd.V_far (p := ⟨gb248, 0, none⟩) (Kd.V_mono HO222.out (fun k_ hk => (⟨hk, hk.2⟩ : _ ∧ k_ ≠ gb248))) (fun _ hk => hk.2) (.slice Ao89 t241.length co89)) (fun _ hk => hk.2) (.slice Ao97 t244.length co97)) (fun _ h_ => h_.1))) (Kd.R_base ho99) hb); replace HO227 := am (Kd.V_elder' (by (with_reducible repeat (first | apply Kd.V_alloc | apply Kd.V_drewN | apply Kd.V_drew)); exact (Kd.V_mono (Kd.V_far (p := ⟨gb248, 1, none⟩) (Kd.V_far (p := ⟨gb248, 0, none⟩) (Kd.V_mono HO227.out (fun k_ hk => (⟨hk, hk.2⟩ : _ ∧ k_ ≠ gb248))) (fun _ hk => hk.2) (.slice Ao89 t241.length co89)) (fun _ hk => hk.2) (.slice Ao97 t244.length co97)) (fun _ h_ => h_.1))) (Kd.R_base ho99) hb); replace HO230 := am (Kd.V_elder' (by (with_reducible repeat (first | apply Kd.V_alloc | apply Kd.V_drewN | apply Kd.V_drew)); exact (Kd.V_mono (Kd.V_far (p := ⟨gb248, 1, none⟩) (Kd.V_far (p := ⟨gb248, 0, none⟩) (Kd.V_mono HO230.out (fun k_ hk => (⟨hk, hk.2⟩ : _ ∧ k_ ≠ gb248))) (fun _ hk => hk.2) (.slice Ao89 t241.length co89)) (fun _ hk => hk.2) (.slice Ao97 t244.length co97)) (fun _ h_ => h_.1))) (Kd.R_base ho99) hb); replace HO235 := am (Kd.V_elder' (by (with_reducible repeat (first | apply Kd.V_alloc | apply Kd.V_drewN | apply Kd.V_drew)); exact (Kd.V_mono (Kd.V_far (p := ⟨gb248, 1, none⟩) (Kd.V_far (p := ⟨gb248, 0, none⟩) (Kd.V_mono HO235.out (fun k_ hk => (⟨hk, hk.2⟩ : _ ∧ k_ ≠ gb248))) (fun _ hk => hk.2) (.slice Ao89 t241.length co89)) (fun _ hk => hk.2) (.slice Ao97 t244.length co97)) (fun _ h_ => h_.1))) (Kd.R_base ho99) hb); replace HO238 := am (Kd.V_elder' (by (with_reducible repeat (first | apply Kd.V_alloc | apply Kd.V_drewN | apply Kd.V_drew)); exact (Kd.V_mono (Kd.V_far (p := ⟨gb248, 1, none⟩) (Kd.V_far (p := ⟨gb248, 0, none⟩) (Kd.V_mono HO238.out (fun k_ hk => (⟨hk, hk.2⟩ : _ ∧ k_ ≠ gb248))) (fun _ hk => hk.2) (.slice Ao89 t241.length co89)) (fun _ hk => hk.2) (.slice Ao97 t244.length co97)) (fun _ h_ => h_.1))) (Kd.R_base ho99) hb); replace HO243 := am (Kd.V_elder' (by (with_reducible repeat (first | apply Kd.V_alloc | apply Kd.V_drewN | apply Kd.V_drew)); exact (Kd.V_mono (Kd.V_far (p := ⟨gb248, 1, none⟩) (Kd.V_far (p := ⟨gb248, 0, none⟩) (Kd.V_mono HO243.out (fun k_ hk => (⟨hk, hk.2⟩ : _ ∧ k_ ≠ gb248))) (fun _ hk => hk.2) (.slice Ao89 t241.length co89)) (fun _ hk => hk.2) (.slice Ao97 t244.length co97)) (fun _ h_ => h_.1))) (Kd.R_base ho99) hb); replace HO246 := am (Kd.V_elder' (by (with_reducible repeat (first | apply Kd.V_alloc | apply Kd.V_drewN | apply Kd.V_drew)); exact (Kd.V_mono (Kd.V_far (p := ⟨gb248, 1, none⟩) (Kd.V_far (p := ⟨gb248, 0, none⟩) (Kd.V_mono HO246.out (fun k_ hk => (⟨hk, hk.2⟩ : _ ∧ k_ ≠ gb248))) (fun _ hk => hk.2) (.slice Ao89 t241.length co89)) (fun _ hk => hk.2) (.slice Ao97 t244.length co97)) (fun _ h_ => h_.1))) (Kd.R_base ho99) hb); have HO251 := am (Kd.R_lower ho99 (below_size (zc7 HB GE190 GE207 GE216 GE224 GE232 GE240 GE248))); replace BK190 := am (blk_below (g := gb190) (o := .cells #[.slice Ao32 t191.length co32, .slice Ao34 t194.length co34] 24 (0, 0)) (by (with_reducible repeat (first | refine blk_drewN ?_ _ | refine blk_drew ?_ | refine blk_alloc ?_ _)); refine blk_far ?_ NB190_248.out _; (with_reducible repeat (first | refine blk_drewN ?_ _ | refine blk_drew ?_ | refine blk_alloc ?_ _)); refine blk_far ?_ NB190_248.out _; (with_reducible repeat (first | refine blk_drewN ?_ _ | refine blk_drew ?_ | refine blk_alloc ?_ _)); exact BK190.out) hb); replace BK207 := am (blk_below (g := gb207) (o := .cells #[.slice Ao39 t198.length co39, .slice Ao42 t201.length co42] 24 (0, 0)) (by (with_reducible repeat (first | refine blk_drewN ?_ _ | refine blk_drew ?_ | refine blk_alloc ?_ _)); refine blk_far ?_ NB207_248.out _; (with_reducible repeat (first | refine blk_drewN ?_ _ | refine blk_drew ?_ | refine blk_alloc ?_ _)); refine blk_far ?_ NB207_248.out _; (with_reducible repeat (first | refine blk_drewN ?_ _ | refine blk_drew ?_ | refine blk_alloc ?_ _)); exact BK207.out) hb); replace BK216 := am (blk_below (g := gb216) (o := .cells #[.slice Ao47 t208.length co47, .slice Ao51 t211.length co51] 24 (0, 0)) (by (with_reducible repeat (first | refine blk_drewN ?_ _ | refine blk_drew ?_ | refine blk_alloc ?_ _)); refine blk_far ?_ NB216_248.out _; (with_reducible repeat (first | refine blk_drewN ?_ _ | refine blk_drew ?_ | refine blk_alloc ?_ _)); refine blk_far ?_ NB216_248.out _; (with_reducible repeat (first | refine blk_drewN ?_ _ | refine blk_drew ?_ | refine blk_alloc ?_ _)); exact BK216.out) hb); replace BK224 := am (blk_below (g := gb224) (o := .cells #[.slice Ao56 t217.length co56, .slice Ao61 t220.length co61] 24 (0, 0)) (by (with_reducible repeat (first | refine blk_drewN ?_ _ | refine blk_drew ?_ | refine blk_alloc ?_ _)); refine blk_far ?_ NB224_248.out _; (with_reducible repeat (first | refine blk_drewN ?_ _ | refine blk_drew ?_ | refine blk_alloc ?_ _)); refine blk_far ?_ NB224_248.out _; (with_reducible repeat (first | refine blk_drewN ?_ _ | refine blk_drew ?_ | refine blk_alloc ?_ _)); exact BK224.out) hb); replace BK232 := am (blk_below (g := gb232) (o := .cells #[.slice Ao66 t225.length co66, .slice Ao72 t228.length co72] 24 (0, 0)) (by (with_reducible repeat (first | refine blk_drewN ?_ _ | refine blk_drew ?_ | refine blk_alloc ?_ _)); refine blk_far ?_ NB232_248.out _; (with_reducible repeat (first | refine blk_drewN ?_ _ | refine blk_drew ?_ | refine blk_alloc ?_ _)); refine blk_far ?_ NB232_248.out _; (with_reducible repeat (first | refine blk_drewN ?_ _ | refine blk_drew ?_ | refine blk_alloc ?_ _)); exact BK232.out) hb); replace BK240 := am (blk_below (g := gb240) (o := .cells #[.slice Ao77 t233.length co77, .slice Ao84 t236.length co84] 24 (0, 0)) (by (with_reducible repeat (first | refine blk_drewN ?_ _ | refine blk_drew ?_ | refine blk_alloc ?_ _)); refine blk_far ?_ NB240_248.out _; (with_reducible repeat (first | refine blk_drewN ?_ _ | refine blk_drew ?_ | refine blk_alloc ?_ _)); refine blk_far ?_ NB240_248.out _; (with_reducible repeat (first | refine blk_drewN ?_ _ | refine blk_drew ?_ | refine blk_alloc ?_ _)); exact BK240.out) hb); replace BK248 := am (blk_below (g := gb248) (o := .cells #[.slice Ao89 t241.length co89, .slice Ao97 t244.length co97] 24 (0, 0)) (by (with_reducible repeat (first | refine blk_drewN ?_ _ | refine blk_drew ?_ | refine blk_alloc ?_ _)); refine blk_put (cs := #[.slice Ao89 t241.length co89, .slice none 0 0]) ?_ 1 _ rfl; (with_reducible repeat (first | refine blk_drewN ?_ _ | refine blk_drew ?_ | refine blk_alloc ?_ _)); refine blk_put (cs := #[.slice none 0 0, .slice none 0 0]) ?_ 0 _ rfl; (with_reducible repeat (first | refine blk_drewN ?_ _ | refine blk_drew ?_ | refine blk_alloc ?_ _)); exact BK248.out) hb); replace HB := am (below_step (zc7 HB GE190 GE207 GE216 GE224 GE232 GE240 GE248) hb); clear hb ho99; obtain ⟨Ao100, co100, eo100⟩ := Kd.V_slice HO206.out; subst eo100; obtain ⟨Ao101, co101, eo101⟩ := Kd.R_slice HO251.out; subst eo101) | (go_at_call 22; (with_reducible refine (handshakerref03_Numbers.calls k _ _ t204 _ _ y249 true _ ?side1 ?side2 ?side3 ?side4 A11.out).mono ?_); (case side1 => repeat (first | exact (Kd.V_reads' HO206.out).2.2 | (with_reducible refine Kd.C_alloc ?_ _) | (with_reducible refine Kd.C_drewN ?_ _) | (with_reducible refine Kd.C_drew ?_))); (case side2 => exact (Kd.V_reads' HO206.out).2.1); (case side3 => repeat (first | exact (Kd.R_reads' HO251.out).2.2 | (with_reducible refine Kd.C_alloc ?_ _) | (with_reducible refine Kd.C_drewN ?_ _) | (with_reducible refine Kd.C_drew ?_))); (case side4 => exact (Kd.R_reads' HO251.out).2.1); rintro e w' ⟨rfl, ⟨nd, rfl⟩⟩; have hcz102_0 : w98.cell? ⟨gb216, 0, none⟩ = some (.slice Ao47 t208.length co47) := (blk_cell BK216.out 0).trans rfl; have hcz102_1 : w98.cell? ⟨gb216, 1, none⟩ = some (.slice Ao51 t211.length co51) := (blk_cell BK216.out 1).trans rfl; have hfz102_0 := blk_frozen BK216.out 0; have hfz102_1 := blk_frozen BK216.out 1) | ((with_reducible refine gate_dst (N := 79) rfl ?_); (try (refine gate_guard (by rfl) ?_; dsimp only)); refine Kd.R_lit (Kd.int .i64) _ 3 ?hg (N := 79) ?hd (xs := ([2] : List Int)) (inner := [.int .i64 2]) (ok := fun _ => True) (okp := fun _ => True) ?hr ?hp (fun _ hk => hk) trivial (Below.refl _ _) (Nat.le_refl _) (by simp) ?_; (case hd => rfl); (case hg => rfl); (case hr => first | (go_simp; done) | (go_simp; rfl)); (case hp => exact (Reps.one (show Kd.M (Kd.int .i64) _ _ _ 2 [.int .i64 2] from rfl) (Reps.none _ _))); intro v254 w103 ho104 hb hg_ hnew_; clear hg_ hnew_; (first | rw [← Ny253.out] at ho104 | (simp only [Int.reduceToNat] at ho104; rw [← Ny253.out] at ho104)); replace HO185 := am (Kd.V_elder' (zV HO185) (Kd.R_base ho104) hb); replace HO188 := am (Kd.V_elder' (zV HO188) (Kd.R_base ho104) hb); replace HO193 := am (Kd.V_elder' (zV HO193) (Kd.R_base ho104) hb); replace HO196 := am (Kd.V_elder' (zV HO196) (Kd.R_base ho104) hb); replace HO200 := am (Kd.V_elder' (zV HO200) (Kd.R_base ho104) hb); replace HO203 := am (Kd.V_elder' (zV HO203) (Kd.R_base ho104) hb); replace HO206 := am (Kd.V_elder' (zV HO206) (Kd.R_base ho104) hb); replace HO210 := am (Kd.V_elder' (zV HO210) (Kd.R_base ho104) hb); replace HO213 := am (Kd.V_elder' (zV HO213) (Kd.R_base ho104) hb); replace HO219 := am (Kd.V_elder' (zV HO219) (Kd.R_base ho104) hb); replace HO222 := am (Kd.V_elder' (zV HO222) (Kd.R_base ho104) hb); replace HO227 := am (Kd.V_elder' (zV HO227) (Kd.R_base ho104) hb); replace HO230 := am (Kd.V_elder' (zV HO230) (Kd.R_base ho104) hb); replace HO235 := am (Kd.V_elder' (zV HO235) (Kd.R_base ho104) hb); replace HO238 := am (Kd.V_elder' (zV HO238) (Kd.R_base ho104) hb); replace HO243 := am (Kd.V_elder' (zV HO243) (Kd.R_base ho104) hb); replace HO246 := am (Kd.V_elder' (zV HO246) (Kd.R_base ho104) hb); have HO255 := am (Kd.R_lower (Kd.R_new' ho104 (Kd.R_lt (zR HO251))) (below_size (zc7 HB GE190 GE207 GE216 GE224 GE232 GE240 GE248))); replace HO251 := am (Kd.R_elder' (zR HO251) (Kd.R_base ho104) hb); replace BK190 := zbb BK190 hb; replace BK207 := zbb BK207 hb; replace BK216 := zbb BK216 hb; replace BK224 := zbb BK224 hb; replace BK232 := zbb BK232 hb; replace BK240 := zbb BK240 hb; replace BK248 := zbb BK248 hb; replace HB := am (below_step (zc7 HB GE190 GE207 GE216 GE224 GE232 GE240 GE248) hb); clear hb ho104; obtain ⟨Ao105, co105, eo105⟩ := Kd.R_slice HO255.out; subst eo105) | (go_at_call 22; (with_reducible refine (handshakerref03_Numbers.calls k _ _ t211 _ _ y253 true _ ?side1 ?side2 ?side3 ?side4 A15.out).mono ?_); (case side1 => repeat (first | exact (Kd.V_reads' HO213.out).2.2 | (with_reducible refine Kd.C_alloc ?_ _) | (with_reducible refine Kd.C_drewN ?_ _) | (with_reducible refine Kd.C_drew ?_))); (case side2 => exact (Kd.V_reads' HO213.out).2.1); (case side3 => repeat (first | exact (Kd.R_reads' HO255.out).2.2 | (with_reducible refine Kd.C_alloc ?_ _) | (with_reducible refine Kd.C_drewN ?_ _) | (with_reducible refine Kd.C_drew ?_))); (case side4 => exact (Kd.R_reads' HO255.out).2.1); rintro e w' ⟨rfl, ⟨nd, rfl⟩⟩; have hcz106_0 : w103.cell? ⟨gb216, 0, none⟩ = some (.slice Ao47 t208.length co47) := (blk_cell BK216.out 0).trans rfl; have hcz106_1 : w103.cell? ⟨gb216, 1, none⟩ = some (.slice Ao51 t211.length co51) := (blk_cell BK216.out 1).trans rfl; have hfz106_0 := blk_frozen BK216.out 0; have hfz106_1 := blk_frozen BK216.out 1; have hcz107_0 : w103.cell? ⟨gb232, 0, none⟩ = some (.slice Ao66 t225.length co66) := (blk_cell BK232.out 0).trans rfl; have hcz107_1 : w103.cell? ⟨gb232, 1, none⟩ = some (.slice Ao72 t228.length co72) := (blk_cell BK232.out 1).trans rfl; have hfz107_0 := blk_frozen BK232.out 0; have hfz107_1 := blk_frozen BK232.out 1) | (go_at_call 19; (with_reducible refine (cond_Right.calls k (fun k_ => ((((k_ ≠ gb190 ∧ (k_ ≠ gb207 ∧ (k_ ≠ gb216 ∧ (k_ ≠ gb224 ∧ (k_ ≠ gb232 ∧ k_ ≠ gb240))))) ∧ k_ ≠ gb248) ∧ some k_ ≠ (.slice Ao101 y249.length co101 : Value).ownBlock) ∧ some k_ ≠ (.slice Ao105 y253.length co105 : Value).ownBlock)) _ _ t208 (fun k_ => ((((k_ ≠ gb190 ∧ (k_ ≠ gb207 ∧ (k_ ≠ gb216 ∧ (k_ ≠ gb224 ∧ (k_ ≠ gb232 ∧ k_ ≠ gb240))))) ∧ k_ ≠ gb248) ∧ some k_ ≠ (.slice Ao101 y249.length co101 : Value).ownBlock) ∧ some k_ ≠ (.slice Ao105 y253.length co105 : Value).ownBlock)) _ _ t211 t257 _ ?side1 ?side2 A23.out).mono ?_); (case side1 => exact HO210.out); (case side2 => exact HO213.out); rintro e w108 ⟨rfl, hb⟩; replace HO185 := zVb HO185 hb; replace HO188 := zVb HO188 hb; replace HO193 := zVb HO193 hb; replace HO196 := zVb HO196 hb; replace HO200 := zVb HO200 hb; replace HO203 := zVb HO203 hb; replace HO206 := zVb HO206 hb; replace HO210 := zVb HO210 hb; replace HO213 := zVb HO213 hb; replace HO219 := zVb HO219 hb; replace HO222 := zVb HO222 hb; replace HO227 := zVb HO227 hb; replace HO230 := zVb HO230 hb; replace HO235 := zVb HO235 hb; replace HO238 := zVb HO238 hb; replace HO243 := zVb HO243 hb; replace HO246 := zVb HO246 hb; replace HO251 := zRb HO251 hb; replace HO255 := zRb HO255 hb; replace BK190 := zbb BK190 hb; replace BK207 := zbb BK207 hb; replace BK216 := zbb BK216 hb; replace BK224 := zbb BK224 hb; replace BK232 := zbb BK232 hb; replace BK240 := zbb BK240 hb; replace BK248 := zbb BK248 hb; replace HB := am (below_step (zc7 HB GE190 GE207 GE216 GE224 GE232 GE240 GE248) hb); (try clear hb); (try clear hb2); (try clear hk); (try clear hi)))
             go_ret
             exact ⟨by first | rfl | (simp [errW_none, errW_some] <;> rfl) | (simp [*, errW_none, errW_some] <;> rfl), by repeat (first | (with_reducible first | exact HB.out | apply below_alloc | apply pw_below_drewN | apply below_drew1 | refine below_set ?_ GE190.out | refine below_set ?_ GE207.out | refine below_set ?_ GE216.out | refine below_set ?_ GE224.out | refine below_set ?_ GE232.out | refine below_set ?_ GE240.out | refine below_set ?_ GE248.out) | exact HB.out)⟩
            ·rw [if_neg c22] at H
             exact absurd H (by simp)
           ·rw [if_neg c21] at H
            exact absurd H (by simp)
          ·rw [if_neg c20] at H
           exact absurd H (by simp)
         ·rw [if_neg c19] at H
          exact absurd H (by simp)
        ·rw [if_neg c18] at H
         exact absurd H (by simp)
       ·rw [if_neg c17] at H
        exact absurd H (by simp)
      ·replace c16 := Bool.eq_false_iff.mpr c16
       subst c16
       have H1 : (none) = some r := by rw [if_neg (show ¬ (false = true) by decide)] at H; exact H
       clear H
       have H := H1
       clear H1
       exact absurd H (by simp)
     ·rw [if_neg c14] at H
      exact absurd H (by simp)
    ·replace c13 := Bool.eq_false_iff.mpr c13
     subst c13
     have H1 : (none) = some r := by rw [if_neg (show ¬ (false = true) by decide)] at H; exact H
     clear H
     have H := H1
     clear H1
     exact absurd H (by simp)
   ·replace c12 := Bool.eq_false_iff.mpr c12
    subst c12
    have H1 : (none) = some r := by rw [if_neg (show ¬ (false = true) by decide)] at H; exact H
    clear H
    have H := H1
    clear H1
    exact absurd H (by simp)
  ·rw [if_neg c10] at H
   exact absurd H (by simp)
 ·rw [if_neg c9] at H
  exact absurd H (by simp)

/-! ### handshakerref03_Who: function 26 -/
def handshakerref03_Who.f (a0 : Int) : Option (Bool) := if a0 > 0 then (some (decide (a0 < 9))) else (some false)
set_option maxHeartbeats 8000000 in
set_option maxRecDepth 100000 in
theorem handshakerref03_Who.calls (a0 : Int) (r : Bool) (w : World) (h : handshakerref03_Who.f a0 = some r) :
  Calls Try.prog 26 #[.int .i64 a0] w fun e w' => e = .returned (.bool r) ∧ Drawn0 w w' := by
 have H : (if a0 > 0 then (some (decide (a0 < 9))) else (some false)) = some r := h
 clear h
 by_cases c2 : a0 > 0
 ·rw [if_pos c2] at H
  have c2b0 : decide (0 < a0) = true := decide_eq_true c2
  clear c2
  obtain rfl := Option.some.inj H
  go_enter Try.func26, Try.ntmps26
  go_wp2
  go_ret
  exact ⟨by first | rfl | (simp; done) | (simp [*]; done), by repeat (first | exact Drawn0.refl _ | apply Drawn0.step)⟩
 ·rw [if_neg c2] at H
  have c2b0 : decide (0 < a0) = false := decide_eq_false c2
  clear c2
  obtain rfl := Option.some.inj H
  go_enter Try.func26, Try.ntmps26
  go_wp2
  go_ret
  exact ⟨by first | rfl | (simp; done) | (simp [*]; done), by repeat (first | exact Drawn0.refl _ | apply Drawn0.step)⟩

/-- How often each number from 0 to 8 is in a row, as an array's cells. -/
def cnts (l : List Int) : Array Value := #[.int .i64 ((l.count 0 : Nat) : Int), .int .i64 ((l.count 1 : Nat) : Int), .int .i64 ((l.count 2 : Nat) : Int), .int .i64 ((l.count 3 : Nat) : Int), .int .i64 ((l.count 4 : Nat) : Int), .int .i64 ((l.count 5 : Nat) : Int), .int .i64 ((l.count 6 : Nat) : Int), .int .i64 ((l.count 7 : Nat) : Int), .int .i64 ((l.count 8 : Nat) : Int)]
theorem cnts_at (l : List Int) (x : Int) (h : 1 ≤ x ∧ x ≤ 8) : (cnts l)[x.toNat]? = some (.int .i64 ((l.count x : Nat) : Int)) := by
  have : x = 1 ∨ x = 2 ∨ x = 3 ∨ x = 4 ∨ x = 5 ∨ x = 6 ∨ x = 7 ∨ x = 8 := by omega
  rcases this with rfl | rfl | rfl | rfl | rfl | rfl | rfl | rfl <;> rfl
theorem cnts_set (l : List Int) (x : Int) (h : 1 ≤ x ∧ x ≤ 8) : (cnts l).setIfInBounds x.toNat (.int .i64 (((l.count x : Nat) : Int) + 1)) = cnts (l ++ [x]) := by
  have : x = 1 ∨ x = 2 ∨ x = 3 ∨ x = 4 ∨ x = 5 ∨ x = 6 ∨ x = 7 ∨ x = 8 := by omega
  rcases this with rfl | rfl | rfl | rfl | rfl | rfl | rfl | rfl <;> simp [cnts, List.count_append, List.count_cons]
/-- All are from 1 to 8, and no two are equal. -/
def Ones (l : List Int) : Prop := (∀ x ∈ l, 1 ≤ x ∧ x ≤ 8) ∧ l.Nodup
instance (l : List Int) : Decidable (Ones l) := by unfold Ones; infer_instance
theorem Ones.more {l : List Int} {i : Nat} (h : Ones (l.take i)) (hi : i < l.length) (hx : 1 ≤ l[i] ∧ l[i] ≤ 8) (hc : (l.take i).count l[i] = 0) : Ones (l.take (i + 1)) := by
  rw [List.take_succ_eq_append_getElem hi]
  refine ⟨fun x hm => ?_, ?_⟩
  · rcases List.mem_append.1 hm with hm | hm
    · exact h.1 x hm
    · rw [List.mem_singleton.1 hm]; exact hx
  · rw [List.nodup_append]
    refine ⟨h.2, by simp, fun a ha b hb e => ?_⟩
    rw [List.mem_singleton.1 hb] at e
    exact (List.count_eq_zero.1 hc) (e ▸ ha)
theorem Ones.twice {l : List Int} {i : Nat} (hi : i < l.length) (hc : (l.take i).count l[i] ≠ 0) : ¬ Ones l := by
  intro h
  have hm : l[i] ∈ l.take i := List.count_pos_iff.1 (by omega)
  have e : l = l.take i ++ l[i] :: l.drop (i + 1) := by simp
  have hn := h.2
  rw [e, List.nodup_append] at hn
  exact hn.2.2 _ hm _ (List.mem_cons_self ..) rfl
theorem Ones.count_le {l : List Int} {i : Nat} (h : Ones (l.take i)) (x : Int) : (l.take i).count x ≤ 1 := List.nodup_iff_count.1 h.2 x
theorem handshakerref03_Who.same (a0 : Int) (r : Bool) (w : World) (h : handshakerref03_Who.f a0 = some r) : Calls Try.prog 26 #[.int .i64 a0] w fun e w' => e = .returned (.bool r) ∧ w = w' := by
  unfold handshakerref03_Who.f at h
  by_cases c : a0 > 0
  · rw [if_pos c] at h
    obtain rfl := Option.some.inj h
    clear h
    have c2b0 : decide (0 < a0) = true := decide_eq_true c
    clear c
    go_enter Try.func26, Try.ntmps26
    go_wp2
    go_ret
    exact ⟨rfl, rfl⟩
  · rw [if_neg c] at h
    obtain rfl := Option.some.inj h
    clear h
    have c2b0 : decide (0 < a0) = false := decide_eq_false c
    clear c
    go_enter Try.func26, Try.ntmps26
    go_wp2
    go_ret
    exact ⟨rfl, rfl⟩
/-! ### handshakerref20_Right: function 20 (by hand) -/
def handshakerref20_Right.f (l0_0 : List Int) (l0_1 : List Int) : Option (Bool) := if l0_0.length + l0_1.length < 17592186044416 then some (decide (Ones (l0_0 ++ l0_1))) else none
set_option maxHeartbeats 8000000 in
set_option maxRecDepth 100000 in
theorem handshakerref20_Right.calls (A0 : Option Addr) (c0 : Nat) (l0 : List Int) (A1 : Option Addr) (c1 : Nat) (l1 : List Int) (r : Bool) (w : World) (hr0 : Kd.C (Kd.int .i64) w A0 l0.length l0) (hc0 : l0.length ≤ c0) (hr1 : Kd.C (Kd.int .i64) w A1 l1.length l1) (hc1 : l1.length ≤ c1) (h : handshakerref20_Right.f l0 l1 = some r) :
    Calls Try.prog 20 #[.agg #[.slice A0 l0.length c0, .slice A1 l1.length c1]] w fun e w' => e = .returned (.bool r) ∧ Below w.heap.size w w' := by
  unfold handshakerref20_Right.f at h
  obtain ⟨hb0, hv⟩ : l0.length + l1.length < 17592186044416 ∧ some (decide (Ones (l0 ++ l1))) = some r := by
    split at h
    · exact ⟨‹_›, h⟩
    · cases h
  obtain rfl := Option.some.inj hv
  clear h hv
  have HR0 := am hr0
  have HR1 := am hr1
  have HC0 := am hc0
  have HC1 := am hc1
  have HL0 := am hb0
  clear hr0 hr1 hc0 hc1 hb0
  have hu24 := Try.underlying30
  go_enter Try.func20, Try.ntmps20
  go_upto_region 2 with (first | ((with_reducible refine gate_dst (N := 1) rfl ?_); refine box_event ?hg (N := 1) ?hd (cs := #[.slice A0 l0.length c0, .slice A1 l1.length c1]) (t := 30) ?hr ?_; (case hd => rfl); (case hg => rfl); (case hr => first | (go_simp; done) | (go_simp; rfl)); intro gb hg w3 hbox hb; have HB := am hb; have BK := am hbox; have GE := am (show w.heap.size ≤ gb by omega); clear hb hbox hg))
  obtain ⟨ga, hga⟩ : ∃ ga, w3.heap.size = ga := ⟨_, rfl⟩
  rw [hga]
  obtain ⟨wr0, hwr0⟩ : ∃ wr0, w3.alloc (Obj.cells (cnts []) 58) = wr0 := ⟨_, rfl⟩
  have hwr1 : w3.alloc (Obj.cells #[.int .i64 0, .int .i64 0, .int .i64 0, .int .i64 0, .int .i64 0, .int .i64 0, .int .i64 0, .int .i64 0, .int .i64 0] 58) = wr0 := hwr0
  have hne : gb ≠ ga := by
    have := (Array.getElem?_eq_some_iff.1 BK.out).1
    omega
  have KB := am (show wr0.heap[gb]? = some (.cells #[.slice A0 l0.length c0, .slice A1 l1.length c1] 30 (0, 0)) from by rw [← hwr0]; exact blk_alloc BK.out _)
  have KA := am (show wr0.heap[ga]? = some (.cells (cnts []) 58 (0, 0)) from by rw [← hwr0, ← hga]; exact blk_new _ _)
  have HB0 := am (show Below w.heap.size w wr0 from by rw [← hwr0]; exact below_alloc HB.out _)
  have GA := am (show w.heap.size ≤ ga from by rw [← hga]; exact HB.out.size)
  have NE := am hne
  rw [hwr1]
  clear hwr0 hwr1 hga BK HB hne
  go_wp2
  go_loopw [4] (fun v4 wr => ∃ i : Nat, v4 = .int .i64 (i : Int) ∧ i ≤ l0.length + l1.length ∧ Aside0 (Ones ((l0 ++ l1).take i)) ∧ Aside0 (wr.heap[gb]? = some (.cells #[.slice A0 l0.length c0, .slice A1 l1.length c1] 30 (0, 0))) ∧ Aside0 (wr.heap[ga]? = some (.cells (cnts ((l0 ++ l1).take i)) 58 (0, 0))) ∧ Aside0 (Below w.heap.size w wr)) (fun v4 _ => (l0.length + l1.length - (intOf v4).toNat))
  case atStart => exact ⟨0, rfl, Nat.zero_le _, ⟨by simp [Ones]⟩, KB, ⟨by simpa using KA.out⟩, HB0⟩
  case round =>
    obtain ⟨i, rfl, hi, HG, KB1, KA1, HB1⟩ := hrel
    have hb0 : l0.length + l1.length < 17592186044416 := HL0.out
    have hz0 : wr.cell? ⟨gb, 0, none⟩ = some (.slice A0 l0.length c0) := (blk_cell KB1.out 0).trans rfl
    have hz1 : wr.cell? ⟨gb, 1, none⟩ = some (.slice A1 l1.length c1) := (blk_cell KB1.out 1).trans rfl
    have hfz0 := blk_frozen KB1.out 0
    have hfz1 := blk_frozen KB1.out 1
    have HLL := am (show (l0 ++ l1).length = l0.length + l1.length from List.length_append)
    by_cases hlt : i < l0.length + l1.length
    · obtain ⟨x, hx⟩ : ∃ x, x = (l0 ++ l1)[i]'(by rw [List.length_append]; exact hlt) := ⟨_, rfl⟩
      have HX := am hx
      by_cases hq : i < l0.length
      have hx2 : x = rd l0 (i : Int) := by rw [hx, List.getElem_append_left hq]; unfold rd; simp [hq]
      obtain ⟨ad, e, h0⟩ := Kd.at_int HR0.out (i : Int) (by omega) (by omega)
      cases e
      simp only [Int.toNat_natCast] at h0
      replace h0 := pw_cell_below HB1.out h0
      rw [← hx2] at h0
      rotate_left
      have hx2 : x = rd l1 ((i - l0.length : Nat) : Int) := by
        rw [hx, List.getElem_append_right (by omega)]; unfold rd; simp [show i - l0.length < l1.length by omega]
      obtain ⟨ad, e, h0⟩ := Kd.at_int HR1.out ((i - l0.length : Nat) : Int) (by omega) (by omega)
      cases e
      simp only [Int.toNat_natCast] at h0
      replace h0 := pw_cell_below HB1.out h0
      rw [← hx2] at h0
      have hsub : ((i : Int) - (l0.length : Int)) = ((i - l0.length : Nat) : Int) := by omega
      have hsub0 : 0 ≤ ((i : Int) - (l0.length : Int)) := by omega
      have hsub1 : ((i : Int) - (l0.length : Int)) < (l1.length : Int) := by omega
      have hsubn : ((i : Int) - (l0.length : Int)).toNat = i - l0.length := by omega
      rotate_left
      all_goals
        clear hx hx2
        by_cases hm : 1 ≤ x ∧ x ≤ 8
        · have HW := am (show handshakerref03_Who.f x = some true by unfold handshakerref03_Who.f; rw [if_pos (by omega), decide_eq_true (by omega)])
          obtain ⟨n, hn⟩ : ∃ n : Nat, n = ((l0 ++ l1).take i).count x := ⟨_, rfl⟩
          have hc := cnts_at ((l0 ++ l1).take i) x hm
          have hs := cnts_set ((l0 ++ l1).take i) x hm
          rw [← hn] at hc hs
          have HS := am hs
          have hca : wr.cell? ⟨ga, x.toNat, none⟩ = some (.int .i64 (n : Int)) := (blk_cell KA1.out x.toNat).trans hc
          have hfa := blk_frozen KA1.out x.toNat
          have hn1 : n ≤ 1 := by rw [hn]; exact HG.out.count_le x
          have HN := am hn
          have HM := am hm
          have hx0 : 0 ≤ x := by omega
          have hx9 : x < 9 := by omega
          clear hc hs hn hm
          by_cases h0n : n = 0
          · subst h0n
            have hz : ¬ ((0 : Nat) : Int) + 1 > 1 := by omega
            go_wp2_with (go_at_call 26; (with_reducible refine (handshakerref03_Who.same x true _ HW.out).mono ?_); rintro e w' ⟨rfl, rfl⟩)
            have hmore : Ones ((l0 ++ l1).take (i + 1)) := HG.out.more (by rw [HLL.out]; exact hlt) (by rw [← HX.out]; exact HM.out) (by rw [← HX.out]; exact HN.out.symm)
            have htk : (l0 ++ l1).take (i + 1) = (l0 ++ l1).take i ++ [x] := by rw [List.take_succ_eq_append_getElem (by rw [HLL.out]; exact hlt), HX.out]
            have HMO := am hmore
            have HTK := am htk
            clear hmore htk
            go_roundw
            case rel => exact ⟨i + 1, by go_num, by omega, HMO, ⟨blk_far KB1.out NE.out _⟩, ⟨by rw [HTK.out]; exact blk_put KA1.out _ _ HS.out⟩, ⟨below_set HB1.out GA.out⟩⟩
            case measure => simp [intOf]; omega
          · obtain rfl : n = 1 := by omega
            go_wp2_with (go_at_call 26; (with_reducible refine (handshakerref03_Who.same x true _ HW.out).mono ?_); rintro e w' ⟨rfl, rfl⟩)
            go_ret
            exact ⟨by rw [decide_eq_false (Ones.twice (l := l0 ++ l1) (i := i) (by rw [HLL.out]; exact hlt) (by rw [← HX.out, ← HN.out]; decide))]; rfl, below_set HB1.out GA.out⟩
        · have HW := am (show handshakerref03_Who.f x = some false by unfold handshakerref03_Who.f; split; (rw [decide_eq_false (by omega)]); rfl)
          have HM := am hm
          clear hm
          go_wp2_with (go_at_call 26; (with_reducible refine (handshakerref03_Who.same x false _ HW.out).mono ?_); rintro e w' ⟨rfl, rfl⟩)
          go_ret
          exact ⟨by rw [decide_eq_false (fun h => HM.out (by rw [HX.out]; exact h.1 _ (List.getElem_mem _)))]; rfl, HB1.out⟩
    · obtain rfl : i = l0.length + l1.length := by omega
      go_wp2
      go_ret
      have := HG.out
      rw [List.take_of_length_le (by rw [List.length_append]; exact Nat.le_refl _)] at this
      exact ⟨by rw [decide_eq_true this]; rfl, HB1.out⟩

/-! ### handshakerref20_in: function 27 -/
def handshakerref20_in.l0 : Nat → List Int → Int → Int → Option (Bool)
 | 0, _, _, _ => none
 | k + 1, x0, x1, x5 => if x5 < (x0.length : Int) then (if 0 ≤ x5 then (if (rd x0 x5) = x1 then (some true) else (handshakerref20_in.l0 k x0 x1 (wrap64 (x5 + 1)))) else (none)) else (some false)
def handshakerref20_in.f (k : Nat) (l0 : List Int) (a1 : Int) : Option (Bool) := handshakerref20_in.l0 k l0 a1 0
theorem handshakerref20_in.mono_l : ∀ k, (∀ y0 y1 y2, LeO (handshakerref20_in.l0 k y0 y1 y2) (handshakerref20_in.l0 (k + 1) y0 y1 y2))
 | 0 => fun _ _ _ r h => by simp [handshakerref20_in.l0] at h
 | k + 1 => by
  have ih0 := handshakerref20_in.mono_l k
  ·intro y0 y1 y2
   unfold handshakerref20_in.l0
   repeat' first
   | (with_reducible exact ih0 _ _ _)
   | (with_reducible exact LeO.refl _)
   | (with_reducible exact LeO.none _)
   | (with_reducible refine LeO.ite ?_ ?_)
   | (with_reducible refine LeO.bind ?_ (fun _ => ?_))
   | exact ih0 _ _ _
   | exact LeO.none _
   | refine LeO.ite ?_ ?_
   | refine LeO.bind ?_ (fun _ => ?_)
theorem handshakerref20_in.mono : ∀ a0 a1 k, LeO (handshakerref20_in.f k a0 a1) (handshakerref20_in.f (k + 1) a0 a1) := by
 intro a0 a1 k
 have ih0 := handshakerref20_in.mono_l k
 unfold handshakerref20_in.f
 repeat' first
   | (with_reducible exact ih0 _ _ _)
   | (with_reducible exact LeO.refl _)
   | (with_reducible exact LeO.none _)
   | (with_reducible refine LeO.ite ?_ ?_)
   | (with_reducible refine LeO.bind ?_ (fun _ => ?_))
   | exact ih0 _ _ _
   | exact LeO.none _
   | refine LeO.ite ?_ ?_
   | refine LeO.bind ?_ (fun _ => ?_)
set_option maxHeartbeats 8000000 in
set_option maxRecDepth 100000 in
theorem handshakerref20_in.calls (k : Nat) (A0 : Option Addr) (c0 : Nat) (l0 : List Int) (a1 : Int) (r : Bool) (w : World) (hr0 : Kd.C (Kd.int .i64) w A0 l0.length l0) (hc0 : l0.length ≤ c0) (h : handshakerref20_in.f k l0 a1 = some r) :
  Calls Try.prog 27 #[.slice A0 l0.length c0, .int .i64 a1] w fun e w' => e = .returned (.bool r) ∧ Drawn0 w w' := by
 have HR0 := am hr0
 have HC0 := am hc0
 clear hr0 hc0
 have H : (handshakerref20_in.l0 k l0 a1 0) = some r := h
 clear h
 have H' := am H
 clear H
 go_enter Try.func27, Try.ntmps27
 go_wp2
 go_loopg [5] k (fun kq v5 w' => ∃ (x5_1 : Int), v5 = .int .i64 x5_1 ∧ Aside0 (handshakerref20_in.l0 kq l0 a1 x5_1 = some r) ∧ Aside0 (kq ≤ k) ∧ Drawn0 w w')
 case atStart => exact ⟨(0), (by first | rfl | (simp; done) | (simp [*]; done)), H', ⟨Nat.le_refl _⟩, by repeat (first | exact Drawn0.refl _ | apply Drawn0.step)⟩
 case round =>
  clear H'
  try clear c2
  try clear p2
  obtain ⟨x5_1, rfl, HA, HK1, ⟨m1, rfl⟩⟩ := hrel
  cases gk with
  | zero => exact absurd HA.out (by simp [handshakerref20_in.l0])
  | succ k1 =>
   have H := HA.out
   clear HA
   simp only [handshakerref20_in.l0] at H
   by_cases c3 : x5_1 < (l0.length : Int)
   ·rw [if_pos c3] at H
    have c3b0 : decide (x5_1 < (l0.length : Int)) = true := decide_eq_true c3
    clear c3
    by_cases c4 : 0 ≤ x5_1
    ·rw [if_pos c4] at H
     have c4b0 : decide (0 ≤ x5_1) = true := decide_eq_true c4
     clear c4
     by_cases c5 : (rd l0 x5_1) = a1
     ·rw [if_pos c5] at H
      have c5b0 : ((rd l0 x5_1) == a1) = true := beq_iff_eq.mpr c5
      have c5b1 : ((rd l0 x5_1) != a1) = false := bne_eq_false_iff_eq.mpr c5
      clear c5
      obtain rfl := Option.some.inj H
      have p258 : 0 ≤ (x5_1 : Int) := of_decide_eq_true (by first | (with_reducible assumption) | assumption)
      have q258 : x5_1 < (l0.length : Int) := of_decide_eq_true (by first | (with_reducible assumption) | assumption)
      obtain ⟨ad258, e258, hx258_0⟩ := Kd.at_int HR0.out x5_1 p258 q258
      cases e258
      replace p258 := eq_true p258
      replace q258 := eq_true q258
      go_wp2
      go_ret
      exact ⟨by first | rfl | (simp; done) | (simp [*]; done), by repeat (first | exact Drawn0.refl _ | apply Drawn0.step)⟩
     ·rw [if_neg c5] at H
      have c5b0 : ((rd l0 x5_1) == a1) = false := beq_eq_false_iff_ne.mpr c5
      have c5b1 : ((rd l0 x5_1) != a1) = true := bne_iff_ne.mpr c5
      have H' := am H
      clear H
      have p258 : 0 ≤ (x5_1 : Int) := of_decide_eq_true (by first | (with_reducible assumption) | assumption)
      have q258 : x5_1 < (l0.length : Int) := of_decide_eq_true (by first | (with_reducible assumption) | assumption)
      obtain ⟨ad258, e258, hx258_0⟩ := Kd.at_int HR0.out x5_1 p258 q258
      cases e258
      replace p258 := eq_true p258
      replace q258 := eq_true q258
      go_wp2
      go_roundg k1
      case measure => have := HK1.out; omega
      case rel => exact ⟨(wrap64 (x5_1 + 1)), (by first | rfl | (simp; done) | (simp [*]; done)), H', ⟨by have := HK1.out; omega⟩, by repeat (first | exact Drawn0.refl _ | apply Drawn0.step)⟩
    ·rw [if_neg c4] at H
     exact absurd H (by simp)
   ·rw [if_neg c3] at H
    have c3b0 : decide (x5_1 < (l0.length : Int)) = false := decide_eq_false c3
    clear c3
    obtain rfl := Option.some.inj H
    go_wp2
    go_ret
    exact ⟨by first | rfl | (simp; done) | (simp [*]; done), by repeat (first | exact Drawn0.refl _ | apply Drawn0.step)⟩

end Go.Proofs.Ytllmfahkiabkcaa.PCondTells
