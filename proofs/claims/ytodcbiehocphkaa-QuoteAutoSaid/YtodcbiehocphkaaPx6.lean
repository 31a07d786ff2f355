/- A text written by a program of this session's own (wip/tools/fprint.py), which extends the kit's print. -/
import Derived.Test.YtodcbiehocphkaaPx0
import Derived.Test.YtodcbiehocphkaaPx3
namespace Go.Proofs.Ytodcbiehocphkaa.P
open Go.RowKit Go.Proofs.YtodcbiehocphkaaW.PrintWords Go.Proofs.YtodcbiehocphkaaW.PrintLast Go.Proofs.YtodcbiehocphkaaW.PrintMore
attribute [local go_sem] max2_int min2_int max_two min_two max_three min_three max_four min_four   -- for this text's walks alone
set_option linter.unusedVariables false
set_option linter.unusedSimpArgs false

/-! ### fleuronlaw17_QuoteAuto: function 5 -/
mutual
def fleuronlaw17_QuoteAuto.j0 : Nat → Int → Bool → Bool → Option (Bool)
  | 0, _, _, _ => none
  | k + 1, x0, x1, x19 => if x19 = true then ((fleuronlaw17_awake.f).bind fun t217 => (some t217)) else (if x1 = true then (fleuronlaw17_QuoteAuto.j1 k x0 x1 5 (wrap64 (x0 + 1)) x0) else (fleuronlaw17_QuoteAuto.j1 k x0 x1 6 (mx (wrap64 (x0 - 1)) 0) (wrap64 (x0 - 1))))
def fleuronlaw17_QuoteAuto.j1 : Nat → Int → Bool → Int → Int → Int → Option (Bool)
  | 0, _, _, _, _, _ => none
  | k + 1, x0, x1, x5, x6, x7 => (quote_Do.f k (⟨#[]⟩ : ByteArray) (⟨#[]⟩ : ByteArray) (⟨#[]⟩ : ByteArray) ([] : List (S43)) false false ([] : List ByteArray) false ([] : List (S47)) ([] : List (S47)) ([] : List (S47)) x0 x5).bind fun bt218 => ((quote_Do.f k (⟨#[]⟩ : ByteArray) (⟨#[]⟩ : ByteArray) (⟨#[]⟩ : ByteArray) ([] : List (S43)) false false ([] : List ByteArray) true ([] : List (S47)) ([] : List (S47)) ([] : List (S47)) x0 x5).bind fun bt220 => (if x7 ≥ 0 then (if x7 > 0 then (if x1 = true then ((some (([(⟨#[226, 128, 156]⟩ : ByteArray), (⟨#[226, 128, 157]⟩ : ByteArray), (⟨#[226, 128, 152]⟩ : ByteArray), (⟨#[226, 128, 153]⟩ : ByteArray)] : List ByteArray) : List ByteArray)).bind fun y222 => (if 2 < (y222.length : Int) then (if bt218.1.toList = ([] : List UInt8) then (if bt218.2 = x6 then (if bt220.1.toList = (rdOf ByteArray.empty y222 2).toList then (if bt220.2 = x6 then ((fleuronlaw17_awake.f).bind fun t226 => (some t226)) else (some false)) else (some false)) else (some false)) else (some false)) else (none))) else ((some (([(⟨#[226, 128, 156]⟩ : ByteArray), (⟨#[226, 128, 157]⟩ : ByteArray), (⟨#[226, 128, 152]⟩ : ByteArray), (⟨#[226, 128, 153]⟩ : ByteArray)] : List ByteArray) : List ByteArray)).bind fun y227 => (if 3 < (y227.length : Int) then (if bt218.1.toList = ([] : List UInt8) then (if bt218.2 = x6 then (if bt220.1.toList = (rdOf ByteArray.empty y227 3).toList then (if bt220.2 = x6 then ((fleuronlaw17_awake.f).bind fun t231 => (some t231)) else (some false)) else (some false)) else (some false)) else (some false)) else (none)))) else (if x1 = true then ((some (([(⟨#[226, 128, 156]⟩ : ByteArray), (⟨#[226, 128, 157]⟩ : ByteArray), (⟨#[226, 128, 152]⟩ : ByteArray), (⟨#[226, 128, 153]⟩ : ByteArray)] : List ByteArray) : List ByteArray)).bind fun y232 => (if 0 < (y232.length : Int) then (if bt218.1.toList = ([] : List UInt8) then (if bt218.2 = x6 then (if bt220.1.toList = (rdOf ByteArray.empty y232 0).toList then (if bt220.2 = x6 then ((fleuronlaw17_awake.f).bind fun t236 => (some t236)) else (some false)) else (some false)) else (some false)) else (some false)) else (none))) else ((some (([(⟨#[226, 128, 156]⟩ : ByteArray), (⟨#[226, 128, 157]⟩ : ByteArray), (⟨#[226, 128, 152]⟩ : ByteArray), (⟨#[226, 128, 153]⟩ : ByteArray)] : List ByteArray) : List ByteArray)).bind fun y237 => (if 1 < (y237.length : Int) then (if bt218.1.toList = ([] : List UInt8) then (if bt218.2 = x6 then (if bt220.1.toList = (rdOf ByteArray.empty y237 1).toList then (if bt220.2 = x6 then ((fleuronlaw17_awake.f).bind fun t241 => (some t241)) else (some false)) else (some false)) else (some false)) else (some false)) else (none))))) else (if bt218.1.toList = ([] : List UInt8) then (if bt218.2 = x6 then (if bt220.1.toList = ([] : List UInt8) then (if bt220.2 = x6 then ((fleuronlaw17_awake.f).bind fun t242 => (some t242)) else (some false)) else (some false)) else (some false)) else (some false))))
end
def fleuronlaw17_QuoteAuto.f (k : Nat) (a0 : Int) (a1 : Bool) : Option (Bool) := if a0 < 0 then (fleuronlaw17_QuoteAuto.j0 k a0 a1 true) else (fleuronlaw17_QuoteAuto.j0 k a0 a1 (decide (a0 > 1000)))
theorem fleuronlaw17_QuoteAuto.mono_l : ∀ k, (∀ y0 y1 y2, LeO (fleuronlaw17_QuoteAuto.j0 k y0 y1 y2) (fleuronlaw17_QuoteAuto.j0 (k + 1) y0 y1 y2)) ∧ (∀ y0 y1 y2 y3 y4, LeO (fleuronlaw17_QuoteAuto.j1 k y0 y1 y2 y3 y4) (fleuronlaw17_QuoteAuto.j1 (k + 1) y0 y1 y2 y3 y4))
  | 0 => ⟨fun _ _ _ r h => by simp [fleuronlaw17_QuoteAuto.j0] at h, fun _ _ _ _ _ r h => by simp [fleuronlaw17_QuoteAuto.j1] at h⟩
  | k + 1 => by
    obtain ⟨ih0, ih1⟩ := fleuronlaw17_QuoteAuto.mono_l k
    refine ⟨?_, ?_⟩
    · intro y0 y1 y2
      unfold fleuronlaw17_QuoteAuto.j0
      repeat' first
      | (with_reducible exact ih0 _ _ _)
      | (with_reducible exact ih1 _ _ _ _ _)
      | (with_reducible exact quote_Do.mono _ _ _ _ _ _ _ _ _ _ _ _ _ _)
      | (with_reducible exact LeO.refl _)
      | (with_reducible exact LeO.none _)
      | (with_reducible refine LeO.ite ?_ ?_)
      | (with_reducible refine LeO.bind ?_ (fun _ => ?_))
      | exact ih0 _ _ _
      | exact ih1 _ _ _ _ _
      | exact quote_Do.mono _ _ _ _ _ _ _ _ _ _ _ _ _ _
      | exact LeO.none _
      | refine LeO.ite ?_ ?_
      | refine LeO.bind ?_ (fun _ => ?_)
    · intro y0 y1 y2 y3 y4
      unfold fleuronlaw17_QuoteAuto.j1
      repeat' first
      | (with_reducible exact ih0 _ _ _)
      | (with_reducible exact ih1 _ _ _ _ _)
      | (with_reducible exact quote_Do.mono _ _ _ _ _ _ _ _ _ _ _ _ _ _)
      | (with_reducible exact LeO.refl _)
      | (with_reducible exact LeO.none _)
      | (with_reducible refine LeO.ite ?_ ?_)
      | (with_reducible refine LeO.bind ?_ (fun _ => ?_))
      | exact ih0 _ _ _
      | exact ih1 _ _ _ _ _
      | exact quote_Do.mono _ _ _ _ _ _ _ _ _ _ _ _ _ _
      | exact LeO.none _
      | refine LeO.ite ?_ ?_
      | refine LeO.bind ?_ (fun _ => ?_)
theorem fleuronlaw17_QuoteAuto.mono : ∀ a0 a1 k, LeO (fleuronlaw17_QuoteAuto.f k a0 a1) (fleuronlaw17_QuoteAuto.f (k + 1) a0 a1) := by
  intro a0 a1 k
  obtain ⟨ih0, ih1⟩ := fleuronlaw17_QuoteAuto.mono_l k
  unfold fleuronlaw17_QuoteAuto.f
  repeat' first
      | (with_reducible exact ih0 _ _ _)
      | (with_reducible exact ih1 _ _ _ _ _)
      | (with_reducible exact quote_Do.mono _ _ _ _ _ _ _ _ _ _ _ _ _ _)
      | (with_reducible exact LeO.refl _)
      | (with_reducible exact LeO.none _)
      | (with_reducible refine LeO.ite ?_ ?_)
      | (with_reducible refine LeO.bind ?_ (fun _ => ?_))
      | exact ih0 _ _ _
      | exact ih1 _ _ _ _ _
      | exact quote_Do.mono _ _ _ _ _ _ _ _ _ _ _ _ _ _
      | exact LeO.none _
      | refine LeO.ite ?_ ?_
      | refine LeO.bind ?_ (fun _ => ?_)
set_option maxHeartbeats 8000000 in
set_option maxRecDepth 100000 in
theorem fleuronlaw17_QuoteAuto.calls (k : Nat) (a0 : Int) (a1 : Bool) (r : Bool) (w : World) (h : fleuronlaw17_QuoteAuto.f k a0 a1 = some r) (htrue_ : r = true) :
    Calls Try.prog 5 #[.int .i64 a0, .bool a1] w fun e w' => e = .returned (.bool r) ∧ Below w.heap.size w w' := by
  have hu26 := Try.underlying26
  have HB := Aside0.mk (Below.refl w.heap.size w)
  have H : (if a0 < 0 then (fleuronlaw17_QuoteAuto.j0 k a0 a1 true) else (fleuronlaw17_QuoteAuto.j0 k a0 a1 (decide (a0 > 1000)))) = some r := h
  clear h
  have HTRUE := Aside0.mk htrue_
  clear htrue_
  have HC3 := Aside0.mk H
  clear H
  go_enter Try.func5, Try.ntmps5
  go_upto_region 1 with (fail)
  go_cut [19] (fun v19 wc => ∃ (kq : Nat) (x19_2 : Bool), v19 = .bool x19_2 ∧ Aside0 (fleuronlaw17_QuoteAuto.j0 kq a0 a1 x19_2 = some r) ∧ Aside0 (kq ≤ k) ∧ Aside0 (Below w.heap.size w wc))
  case first =>
    have H := HC3.out
    clear HC3
    by_cases c4 : a0 < 0
    · rw [if_pos c4] at H
      have c4b0 : decide (a0 < 0) = true := decide_eq_true c4
      clear c4
      (first | rw [c4b0] | (simp only [i64_w, i32_w]; rw [c4b0]) | skip)
      have H' := Aside0.mk H
      clear H
      go_wp2
      go_meet
      case rel => exact ⟨_, (true), (by first | rfl | (simp; done) | (simp [*]; done)), H', ⟨by first | omega | exact Nat.le_refl _⟩, ⟨by repeat (first | (with_reducible first | exact HB.out | apply below_alloc | apply pw_below_drewN | apply below_drew1) | exact HB.out)⟩⟩
    · rw [if_neg c4] at H
      have c4b0 : decide (a0 < 0) = false := decide_eq_false c4
      clear c4
      (first | rw [c4b0] | (simp only [i64_w, i32_w]; rw [c4b0]) | skip)
      have H' := Aside0.mk H
      clear H
      go_wp2
      go_meet
      case rel => exact ⟨_, (decide (a0 > 1000)), (by first | rfl | (simp; done) | (simp [*]; done)), H', ⟨by first | omega | exact Nat.le_refl _⟩, ⟨by repeat (first | (with_reducible first | exact HB.out | apply below_alloc | apply pw_below_drewN | apply below_drew1) | exact HB.out)⟩⟩
  case rest =>
    clear HC3
    try clear p2
    try clear c4
    try clear c4b0
    obtain ⟨kq, x19_2, rfl, HA, HJ2, HB⟩ := hcut
    cases kq with
    | zero => exact absurd HA.out (by simp [fleuronlaw17_QuoteAuto.j0])
    | succ kj2 =>
      have H := HA.out
      clear HA
      simp only [fleuronlaw17_QuoteAuto.j0] at H
      by_cases c5 : x19_2 = true
      · subst c5
        have H1 : ((fleuronlaw17_awake.f).bind fun t217 => (some t217)) = some r := by rw [if_pos rfl] at H; exact H
        clear H
        have H := H1
        clear H1
        replace H := Option.bind_eq_some_iff.mp H
        obtain ⟨t217, A60, H⟩ := H
        replace H : (some t217) = some r := H
        have A6 := Aside0.mk A60
        clear A60
        obtain rfl := Option.some.inj H
        go_wp2_with (first | ((with_reducible refine gate_callee (f := 8) rfl ?_); refine goesL_ (some 20) rfl rfl Try.func8 (by kernel_rfl) rfl #[] rfl (by (try simp only [List.map_toArray, List.map_cons, List.map_nil]); first | done | rfl | (simp only [List.length_drop, List.length_take]; rfl)) ?_; (with_reducible refine (fleuronlaw17_awake.calls  t217 _ A6.out).mono ?_); rintro e w7 ⟨rfl, hb⟩; refine ⟨_, rfl, ?_⟩; have n0_ := Aside0.mk (below_step (by repeat (first | (with_reducible first | exact HB.out | apply below_alloc | apply pw_below_drewN | apply below_drew1) | exact HB.out)) hb); clear HB; have HB := n0_; clear n0_; (try clear hb); (try clear hb2); (try clear hk); (try clear hi)))
        go_ret
        exact ⟨by first | rfl | (simp [errW_none, errW_some] <;> rfl) | (simp [*, errW_none, errW_some] <;> rfl), by repeat (first | (with_reducible first | exact HB.out | apply below_alloc | apply pw_below_drewN | apply below_drew1) | exact HB.out)⟩
      · replace c5 := Bool.eq_false_iff.mpr c5
        subst c5
        have H1 : (if a1 = true then (fleuronlaw17_QuoteAuto.j1 kj2 a0 a1 5 (wrap64 (a0 + 1)) a0) else (fleuronlaw17_QuoteAuto.j1 kj2 a0 a1 6 (mx (wrap64 (a0 - 1)) 0) (wrap64 (a0 - 1)))) = some r := by rw [if_neg (show ¬ (false = true) by decide)] at H; exact H
        clear H
        have H := H1
        clear H1
        obtain ⟨ji8, hji8⟩ : ∃ j_ : Int, (mx (wrap64 (a0 - 1)) 0) = j_ := ⟨_, rfl⟩
        replace H : (if a1 = true then (fleuronlaw17_QuoteAuto.j1 kj2 a0 a1 5 (wrap64 (a0 + 1)) a0) else (fleuronlaw17_QuoteAuto.j1 kj2 a0 a1 6 ji8 (wrap64 (a0 - 1)))) = some r := by first | (rw [hji8] at H; exact H) | (simp only [hji8] at H ⊢; exact H)
        have hji8_ : (if (wrap64 (a0 - 1)) < 0 then 0 else (wrap64 (a0 - 1))) = ji8 := hji8
        have HC9 := Aside0.mk H
        clear H
        go_upto_if 26 with (fail)
        go_cut [5, 6, 7] (fun v5 v6 v7 wc => ∃ (kq : Nat) (x5_8 : Int) (x6_8 : Int) (x7_8 : Int), v5 = .int .i64 x5_8 ∧ v6 = .int .i64 x6_8 ∧ v7 = .int .i64 x7_8 ∧ Aside0 (fleuronlaw17_QuoteAuto.j1 kq a0 a1 x5_8 x6_8 x7_8 = some r) ∧ Aside0 (kq ≤ kj2) ∧ Aside0 (Below w.heap.size w wc))
        case first =>
          have H := HC9.out
          clear HC9
          by_cases c10 : a1 = true
          · subst c10
            have H1 : (fleuronlaw17_QuoteAuto.j1 kj2 a0 true 5 (wrap64 (a0 + 1)) a0) = some r := by rw [if_pos rfl] at H; exact H
            clear H
            have H := H1
            clear H1
            have H' := Aside0.mk H
            clear H
            go_wp2
            go_meet
            case rel => exact ⟨_, (5), (wrap64 (a0 + 1)), (a0), (by first | rfl | (simp; done) | (simp [*]; done)), (by first | rfl | (simp; done) | (simp [*]; done)), (by first | rfl | (simp; done) | (simp [*]; done)), H', ⟨by have := HJ2.out; first | omega | exact Nat.le_refl _⟩, ⟨by repeat (first | (with_reducible first | exact HB.out | apply below_alloc | apply pw_below_drewN | apply below_drew1) | exact HB.out)⟩⟩
          · replace c10 := Bool.eq_false_iff.mpr c10
            subst c10
            have H1 : (fleuronlaw17_QuoteAuto.j1 kj2 a0 false 6 ji8 (wrap64 (a0 - 1))) = some r := by rw [if_neg (show ¬ (false = true) by decide)] at H; exact H
            clear H
            have H := H1
            clear H1
            have H' := Aside0.mk H
            clear H
            go_wp2
            go_meet
            case rel => exact ⟨_, (6), (ji8), (wrap64 (a0 - 1)), (by first | rfl | (simp; done) | (simp [*]; done)), (by first | rfl | (simp; done) | (simp only [← hji8] <;> (first | rfl | simp)) | (simp [*]; done)), (by first | rfl | (simp; done) | (simp [*]; done)), H', ⟨by have := HJ2.out; first | omega | exact Nat.le_refl _⟩, ⟨by repeat (first | (with_reducible first | exact HB.out | apply below_alloc | apply pw_below_drewN | apply below_drew1) | exact HB.out)⟩⟩
        case rest =>
          clear HC9
          try clear c1
          try clear p2
          try clear c4
          try clear c4b0
          try clear c5
          try clear p6
          try clear c8
          try clear c10
          try clear p2
          obtain ⟨kq, x5_8, x6_8, x7_8, rfl, rfl, rfl, HA, HJ8, HB⟩ := hcut
          cases kq with
          | zero => exact absurd HA.out (by simp [fleuronlaw17_QuoteAuto.j1])
          | succ kj8 =>
            have H := HA.out
            clear HA
            simp only [fleuronlaw17_QuoteAuto.j1] at H
            replace H := Option.bind_eq_some_iff.mp H
            obtain ⟨⟨t218, t219⟩, A110, H⟩ := H
            replace H : ((quote_Do.f kj8 (⟨#[]⟩ : ByteArray) (⟨#[]⟩ : ByteArray) (⟨#[]⟩ : ByteArray) ([] : List (S43)) false false ([] : List ByteArray) true ([] : List (S47)) ([] : List (S47)) ([] : List (S47)) a0 x5_8).bind fun bt220 => (if x7_8 ≥ 0 then (if x7_8 > 0 then (if a1 = true then ((some (([(⟨#[226, 128, 156]⟩ : ByteArray), (⟨#[226, 128, 157]⟩ : ByteArray), (⟨#[226, 128, 152]⟩ : ByteArray), (⟨#[226, 128, 153]⟩ : ByteArray)] : List ByteArray) : List ByteArray)).bind fun y222 => (if 2 < (y222.length : Int) then (if t218.toList = ([] : List UInt8) then (if t219 = x6_8 then (if bt220.1.toList = (rdOf ByteArray.empty y222 2).toList then (if bt220.2 = x6_8 then ((fleuronlaw17_awake.f).bind fun t226 => (some t226)) else (some false)) else (some false)) else (some false)) else (some false)) else (none))) else ((some (([(⟨#[226, 128, 156]⟩ : ByteArray), (⟨#[226, 128, 157]⟩ : ByteArray), (⟨#[226, 128, 152]⟩ : ByteArray), (⟨#[226, 128, 153]⟩ : ByteArray)] : List ByteArray) : List ByteArray)).bind fun y227 => (if 3 < (y227.length : Int) then (if t218.toList = ([] : List UInt8) then (if t219 = x6_8 then (if bt220.1.toList = (rdOf ByteArray.empty y227 3).toList then (if bt220.2 = x6_8 then ((fleuronlaw17_awake.f).bind fun t231 => (some t231)) else (some false)) else (some false)) else (some false)) else (some false)) else (none)))) else (if a1 = true then ((some (([(⟨#[226, 128, 156]⟩ : ByteArray), (⟨#[226, 128, 157]⟩ : ByteArray), (⟨#[226, 128, 152]⟩ : ByteArray), (⟨#[226, 128, 153]⟩ : ByteArray)] : List ByteArray) : List ByteArray)).bind fun y232 => (if 0 < (y232.length : Int) then (if t218.toList = ([] : List UInt8) then (if t219 = x6_8 then (if bt220.1.toList = (rdOf ByteArray.empty y232 0).toList then (if bt220.2 = x6_8 then ((fleuronlaw17_awake.f).bind fun t236 => (some t236)) else (some false)) else (some false)) else (some false)) else (some false)) else (none))) else ((some (([(⟨#[226, 128, 156]⟩ : ByteArray), (⟨#[226, 128, 157]⟩ : ByteArray), (⟨#[226, 128, 152]⟩ : ByteArray), (⟨#[226, 128, 153]⟩ : ByteArray)] : List ByteArray) : List ByteArray)).bind fun y237 => (if 1 < (y237.length : Int) then (if t218.toList = ([] : List UInt8) then (if t219 = x6_8 then (if bt220.1.toList = (rdOf ByteArray.empty y237 1).toList then (if bt220.2 = x6_8 then ((fleuronlaw17_awake.f).bind fun t241 => (some t241)) else (some false)) else (some false)) else (some false)) else (some false)) else (none))))) else (if t218.toList = ([] : List UInt8) then (if t219 = x6_8 then (if bt220.1.toList = ([] : List UInt8) then (if bt220.2 = x6_8 then ((fleuronlaw17_awake.f).bind fun t242 => (some t242)) else (some false)) else (some false)) else (some false)) else (some false)))) = some r := H
            have A11 := Aside0.mk A110
            clear A110
            replace H := Option.bind_eq_some_iff.mp H
            obtain ⟨⟨t220, t221⟩, A120, H⟩ := H
            replace H : (if x7_8 ≥ 0 then (if x7_8 > 0 then (if a1 = true then ((some (([(⟨#[226, 128, 156]⟩ : ByteArray), (⟨#[226, 128, 157]⟩ : ByteArray), (⟨#[226, 128, 152]⟩ : ByteArray), (⟨#[226, 128, 153]⟩ : ByteArray)] : List ByteArray) : List ByteArray)).bind fun y222 => (if 2 < (y222.length : Int) then (if t218.toList = ([] : List UInt8) then (if t219 = x6_8 then (if t220.toList = (rdOf ByteArray.empty y222 2).toList then (if t221 = x6_8 then ((fleuronlaw17_awake.f).bind fun t226 => (some t226)) else (some false)) else (some false)) else (some false)) else (some false)) else (none))) else ((some (([(⟨#[226, 128, 156]⟩ : ByteArray), (⟨#[226, 128, 157]⟩ : ByteArray), (⟨#[226, 128, 152]⟩ : ByteArray), (⟨#[226, 128, 153]⟩ : ByteArray)] : List ByteArray) : List ByteArray)).bind fun y227 => (if 3 < (y227.length : Int) then (if t218.toList = ([] : List UInt8) then (if t219 = x6_8 then (if t220.toList = (rdOf ByteArray.empty y227 3).toList then (if t221 = x6_8 then ((fleuronlaw17_awake.f).bind fun t231 => (some t231)) else (some false)) else (some false)) else (some false)) else (some false)) else (none)))) else (if a1 = true then ((some (([(⟨#[226, 128, 156]⟩ : ByteArray), (⟨#[226, 128, 157]⟩ : ByteArray), (⟨#[226, 128, 152]⟩ : ByteArray), (⟨#[226, 128, 153]⟩ : ByteArray)] : List ByteArray) : List ByteArray)).bind fun y232 => (if 0 < (y232.length : Int) then (if t218.toList = ([] : List UInt8) then (if t219 = x6_8 then (if t220.toList = (rdOf ByteArray.empty y232 0).toList then (if t221 = x6_8 then ((fleuronlaw17_awake.f).bind fun t236 => (some t236)) else (some false)) else (some false)) else (some false)) else (some false)) else (none))) else ((some (([(⟨#[226, 128, 156]⟩ : ByteArray), (⟨#[226, 128, 157]⟩ : ByteArray), (⟨#[226, 128, 152]⟩ : ByteArray), (⟨#[226, 128, 153]⟩ : ByteArray)] : List ByteArray) : List ByteArray)).bind fun y237 => (if 1 < (y237.length : Int) then (if t218.toList = ([] : List UInt8) then (if t219 = x6_8 then (if t220.toList = (rdOf ByteArray.empty y237 1).toList then (if t221 = x6_8 then ((fleuronlaw17_awake.f).bind fun t241 => (some t241)) else (some false)) else (some false)) else (some false)) else (some false)) else (none))))) else (if t218.toList = ([] : List UInt8) then (if t219 = x6_8 then (if t220.toList = ([] : List UInt8) then (if t221 = x6_8 then ((fleuronlaw17_awake.f).bind fun t242 => (some t242)) else (some false)) else (some false)) else (some false)) else (some false))) = some r := H
            have A12 := Aside0.mk A120
            clear A120
            by_cases c13 : x7_8 ≥ 0
            · rw [if_pos c13] at H
              have c13b0 : decide (0 ≤ x7_8) = true := decide_eq_true c13
              clear c13
              by_cases c14 : x7_8 > 0
              · rw [if_pos c14] at H
                have c14b0 : decide (0 < x7_8) = true := decide_eq_true c14
                clear c14
                by_cases c15 : a1 = true
                · subst c15
                  have H1 : ((some (([(⟨#[226, 128, 156]⟩ : ByteArray), (⟨#[226, 128, 157]⟩ : ByteArray), (⟨#[226, 128, 152]⟩ : ByteArray), (⟨#[226, 128, 153]⟩ : ByteArray)] : List ByteArray) : List ByteArray)).bind fun y222 => (if 2 < (y222.length : Int) then (if t218.toList = ([] : List UInt8) then (if t219 = x6_8 then (if t220.toList = (rdOf ByteArray.empty y222 2).toList then (if t221 = x6_8 then ((fleuronlaw17_awake.f).bind fun t226 => (some t226)) else (some false)) else (some false)) else (some false)) else (some false)) else (none))) = some r := by rw [if_pos rfl] at H; exact H
                  clear H
                  have H := H1
                  clear H1
                  obtain ⟨y222, hy222⟩ : ∃ y_ : List ByteArray, y_ = (([(⟨#[226, 128, 156]⟩ : ByteArray), (⟨#[226, 128, 157]⟩ : ByteArray), (⟨#[226, 128, 152]⟩ : ByteArray), (⟨#[226, 128, 153]⟩ : ByteArray)] : List ByteArray)) := ⟨_, rfl⟩
                  replace H : (if 2 < (y222.length : Int) then (if t218.toList = ([] : List UInt8) then (if t219 = x6_8 then (if t220.toList = (rdOf ByteArray.empty y222 2).toList then (if t221 = x6_8 then ((fleuronlaw17_awake.f).bind fun t226 => (some t226)) else (some false)) else (some false)) else (some false)) else (some false)) else (none)) = some r := by first | (rw [hy222]; with_reducible exact H) | (have H2_ := (Option.bind_some _ _).symm.trans H; rw [hy222]; with_reducible exact H2_) | (have H2_ := (Option.bind_some _ _).symm.trans H; with_reducible exact H2_) | with_reducible exact H | (rw [hy222]; exact H) | exact H
                  have Ny222 := Aside0.mk hy222
                  clear hy222
                  by_cases c16 : 2 < (y222.length : Int)
                  · rw [if_pos c16] at H
                    have c16b0 : decide (2 < (y222.length : Int)) = true := decide_eq_true c16
                    have c16b1 : decide (2 < y222.length) = true := decide_eq_true (by omega)
                    clear c16
                    by_cases c17 : t218.toList = ([] : List UInt8)
                    · rw [if_pos c17] at H
                      have c17b0 : (t218.toList == ([] : List UInt8)) = true := beq_iff_eq.mpr c17
                      have c17b1 : (t218.toList != ([] : List UInt8)) = false := bne_eq_false_iff_eq.mpr c17
                      clear c17
                      by_cases c18 : t219 = x6_8
                      · rw [if_pos c18] at H
                        have c18b0 : (t219 == x6_8) = true := beq_iff_eq.mpr c18
                        have c18b1 : (t219 != x6_8) = false := bne_eq_false_iff_eq.mpr c18
                        clear c18
                        by_cases c19 : t220.toList = (rdOf ByteArray.empty y222 2).toList
                        · rw [if_pos c19] at H
                          have c19b0 : (t220.toList == (rdOf ByteArray.empty y222 2).toList) = true := beq_iff_eq.mpr c19
                          have c19b1 : (t220.toList != (rdOf ByteArray.empty y222 2).toList) = false := bne_eq_false_iff_eq.mpr c19
                          clear c19
                          by_cases c20 : t221 = x6_8
                          · rw [if_pos c20] at H
                            have c20b0 : (t221 == x6_8) = true := beq_iff_eq.mpr c20
                            have c20b1 : (t221 != x6_8) = false := bne_eq_false_iff_eq.mpr c20
                            clear c20
                            replace H := Option.bind_eq_some_iff.mp H
                            obtain ⟨t226, A210, H⟩ := H
                            replace H : (some t226) = some r := H
                            have A21 := Aside0.mk A210
                            clear A210
                            obtain rfl := Option.some.inj H
                            go_wp2_with (first | ((with_reducible refine gate_callee (f := 9) rfl ?_); refine goesL_ (some 34) rfl rfl Try.func9 (by kernel_rfl) rfl #[.agg #[.string (⟨#[]⟩ : ByteArray), .string (⟨#[]⟩ : ByteArray), .string (⟨#[]⟩ : ByteArray), .slice none 0 0, .bool false, .bool false, .slice none 0 0, .bool false, .slice none 0 0, .slice none 0 0, .slice none 0 0], .int .i64 a0, .int .i64 x5_8] rfl (by (try simp only [List.map_toArray, List.map_cons, List.map_nil]); first | done | rfl | (simp only [List.length_drop, List.length_take]; rfl)) ?_; (refine (quote_Do.calls kj8 (⟨#[]⟩ : ByteArray) (⟨#[]⟩ : ByteArray) (⟨#[]⟩ : ByteArray) _ _ ([] : List (S43)) false false _ _ ([] : List ByteArray) false _ _ ([] : List (S47)) _ _ ([] : List (S47)) _ _ ([] : List (S47)) a0 x5_8 t218 t219 _ ?side1 ?side2 ?side3 ?side4 ?side5 ?side6 ?side7 ?side8 ?side9 ?side10 A11.out).mono ?_); (case side1 => exact Kd.C_nil _ _); (case side2 => exact Nat.le_refl _); (case side3 => exact Kd.C_nil _ _); (case side4 => exact Nat.le_refl _); (case side5 => exact Kd.C_nil _ _); (case side6 => exact Nat.le_refl _); (case side7 => exact Kd.C_nil _ _); (case side8 => exact Nat.le_refl _); (case side9 => exact Kd.C_nil _ _); (case side10 => exact Nat.le_refl _); rintro e w22 ⟨rfl, hb⟩; refine ⟨_, rfl, ?_⟩; have n0_ := Aside0.mk (below_step (by repeat (first | (with_reducible first | exact HB.out | apply below_alloc | apply pw_below_drewN | apply below_drew1) | exact HB.out)) hb); clear HB; have HB := n0_; clear n0_; (try clear hb); (try clear hb2); (try clear hk); (try clear hi)) | ((with_reducible refine gate_callee (f := 9) rfl ?_); refine goesL_ (some 41) rfl rfl Try.func9 (by kernel_rfl) rfl #[.agg #[.string (⟨#[]⟩ : ByteArray), .string (⟨#[]⟩ : ByteArray), .string (⟨#[]⟩ : ByteArray), .slice none 0 0, .bool false, .bool false, .slice none 0 0, .bool true, .slice none 0 0, .slice none 0 0, .slice none 0 0], .int .i64 a0, .int .i64 x5_8] rfl (by (try simp only [List.map_toArray, List.map_cons, List.map_nil]); first | done | rfl | (simp only [List.length_drop, List.length_take]; rfl)) ?_; (refine (quote_Do.calls kj8 (⟨#[]⟩ : ByteArray) (⟨#[]⟩ : ByteArray) (⟨#[]⟩ : ByteArray) _ _ ([] : List (S43)) false false _ _ ([] : List ByteArray) true _ _ ([] : List (S47)) _ _ ([] : List (S47)) _ _ ([] : List (S47)) a0 x5_8 t220 t221 _ ?side1 ?side2 ?side3 ?side4 ?side5 ?side6 ?side7 ?side8 ?side9 ?side10 A12.out).mono ?_); (case side1 => exact Kd.C_nil _ _); (case side2 => exact Nat.le_refl _); (case side3 => exact Kd.C_nil _ _); (case side4 => exact Nat.le_refl _); (case side5 => exact Kd.C_nil _ _); (case side6 => exact Nat.le_refl _); (case side7 => exact Kd.C_nil _ _); (case side8 => exact Nat.le_refl _); (case side9 => exact Kd.C_nil _ _); (case side10 => exact Nat.le_refl _); rintro e w23 ⟨rfl, hb⟩; refine ⟨_, rfl, ?_⟩; have n0_ := Aside0.mk (below_step (by repeat (first | (with_reducible first | exact HB.out | apply below_alloc | apply pw_below_drewN | apply below_drew1) | exact HB.out)) hb); clear HB; have HB := n0_; clear n0_; (try clear hb); (try clear hb2); (try clear hk); (try clear hi)) | ((with_reducible refine gate_dst (N := 52) rfl ?_); refine Kd.R_lit Kd.string _ 9 ?hg (N := 52) ?hd (xs := ([(⟨#[226, 128, 156]⟩ : ByteArray), (⟨#[226, 128, 157]⟩ : ByteArray), (⟨#[226, 128, 152]⟩ : ByteArray), (⟨#[226, 128, 153]⟩ : ByteArray)] : List ByteArray)) (inner := [.string (⟨#[226, 128, 156]⟩ : ByteArray), .string (⟨#[226, 128, 157]⟩ : ByteArray), .string (⟨#[226, 128, 152]⟩ : ByteArray), .string (⟨#[226, 128, 153]⟩ : ByteArray)]) (ok := fun _ => True) (okp := fun _ => True) ?hr ?hp (fun _ hk => hk) trivial (Below.refl _ _) (Nat.le_refl _) (by simp) ?_; (case hd => rfl); (case hg => rfl); (case hr => first | (go_simp; done) | (go_simp; rfl)); (case hp => exact (Reps.one (show Kd.M Kd.string _ _ _ (⟨#[226, 128, 156]⟩ : ByteArray) [.string (⟨#[226, 128, 156]⟩ : ByteArray)] from rfl) (Reps.one (show Kd.M Kd.string _ _ _ (⟨#[226, 128, 157]⟩ : ByteArray) [.string (⟨#[226, 128, 157]⟩ : ByteArray)] from rfl) (Reps.one (show Kd.M Kd.string _ _ _ (⟨#[226, 128, 152]⟩ : ByteArray) [.string (⟨#[226, 128, 152]⟩ : ByteArray)] from rfl) (Reps.one (show Kd.M Kd.string _ _ _ (⟨#[226, 128, 153]⟩ : ByteArray) [.string (⟨#[226, 128, 153]⟩ : ByteArray)] from rfl) (Reps.none _ _)))))); intro v223 w24 ho25 hb hg_ hnew_; clear hg_ hnew_; (first | rw [← Ny222.out] at ho25 | (simp only [Int.reduceToNat] at ho25; rw [← Ny222.out] at ho25)); have n0_ := Aside0.mk (Kd.R_lower ho25 (below_size (by repeat (first | (with_reducible first | exact HB.out | apply below_alloc | apply pw_below_drewN | apply below_drew1) | exact HB.out)))); have n1_ := Aside0.mk (below_step (by repeat (first | (with_reducible first | exact HB.out | apply below_alloc | apply pw_below_drewN | apply below_drew1) | exact HB.out)) hb); clear HB; have HO224 := n0_; have HB := n1_; clear n0_ n1_; clear hb ho25; obtain ⟨Ao26, co26, eo26⟩ := Kd.R_slice HO224.out; subst eo26; have p225 : 0 ≤ (2 : Int) := (by omega); have q225 : 2 < (y222.length : Int) := of_decide_eq_true (by first | (with_reducible assumption) | assumption); obtain ⟨ad225, e225, hx225_0⟩ := Kd.at_string (Kd.R_reads' HO224.out).2.2 2 p225 q225; cases e225; (try simp only [show (2 : Int).toNat = 2 from rfl, Nat.reduceMul, Nat.reduceEqDiff, Go.Addr.add, ↓reduceIte] at hx225_0); have qi225 : (2 < y222.length) = True := eq_true (by omega); (try rw [show ((2 : Int)).toNat = 2 from rfl] at hx225_0); replace p225 := eq_true p225; replace q225 := eq_true q225) | (go_at_call 8; (with_reducible refine (fleuronlaw17_awake.calls  t226 _ A21.out).mono ?_); rintro e w27 ⟨rfl, hb⟩; have n0_ := Aside0.mk (Kd.R_below (by (with_reducible repeat (first | apply Kd.R_alloc | apply Kd.R_drewN | apply Kd.R_drew)); exact HO224.out) hb); have n1_ := Aside0.mk (below_step (by repeat (first | (with_reducible first | exact HB.out | apply below_alloc | apply pw_below_drewN | apply below_drew1) | exact HB.out)) hb); clear HO224; clear HB; have HO224 := n0_; have HB := n1_; clear n0_ n1_; (try clear hb); (try clear hb2); (try clear hk); (try clear hi)))
                            go_ret
                            exact ⟨by first | rfl | (simp [errW_none, errW_some] <;> rfl) | (simp only [← hji8]; first | rfl | (simp [errW_none, errW_some] <;> rfl)) | (simp [*, errW_none, errW_some] <;> rfl), by repeat (first | (with_reducible first | exact HB.out | apply below_alloc | apply pw_below_drewN | apply below_drew1) | exact HB.out)⟩
                          · rw [if_neg c20] at H
                            have c20b0 : (t221 == x6_8) = false := beq_eq_false_iff_ne.mpr c20
                            have c20b1 : (t221 != x6_8) = true := bne_iff_ne.mpr c20
                            exact absurd (H.trans (congrArg some HTRUE.out)) (by simp)
                        · rw [if_neg c19] at H
                          have c19b0 : (t220.toList == (rdOf ByteArray.empty y222 2).toList) = false := beq_eq_false_iff_ne.mpr c19
                          have c19b1 : (t220.toList != (rdOf ByteArray.empty y222 2).toList) = true := bne_iff_ne.mpr c19
                          exact absurd (H.trans (congrArg some HTRUE.out)) (by simp)
                      · rw [if_neg c18] at H
                        have c18b0 : (t219 == x6_8) = false := beq_eq_false_iff_ne.mpr c18
                        have c18b1 : (t219 != x6_8) = true := bne_iff_ne.mpr c18
                        exact absurd (H.trans (congrArg some HTRUE.out)) (by simp)
                    · rw [if_neg c17] at H
                      have c17b0 : (t218.toList == ([] : List UInt8)) = false := beq_eq_false_iff_ne.mpr c17
                      have c17b1 : (t218.toList != ([] : List UInt8)) = true := bne_iff_ne.mpr c17
                      exact absurd (H.trans (congrArg some HTRUE.out)) (by simp)
                  · rw [if_neg c16] at H
                    exact absurd H (by simp)
                · replace c15 := Bool.eq_false_iff.mpr c15
                  subst c15
                  have H1 : ((some (([(⟨#[226, 128, 156]⟩ : ByteArray), (⟨#[226, 128, 157]⟩ : ByteArray), (⟨#[226, 128, 152]⟩ : ByteArray), (⟨#[226, 128, 153]⟩ : ByteArray)] : List ByteArray) : List ByteArray)).bind fun y227 => (if 3 < (y227.length : Int) then (if t218.toList = ([] : List UInt8) then (if t219 = x6_8 then (if t220.toList = (rdOf ByteArray.empty y227 3).toList then (if t221 = x6_8 then ((fleuronlaw17_awake.f).bind fun t231 => (some t231)) else (some false)) else (some false)) else (some false)) else (some false)) else (none))) = some r := by rw [if_neg (show ¬ (false = true) by decide)] at H; exact H
                  clear H
                  have H := H1
                  clear H1
                  obtain ⟨y227, hy227⟩ : ∃ y_ : List ByteArray, y_ = (([(⟨#[226, 128, 156]⟩ : ByteArray), (⟨#[226, 128, 157]⟩ : ByteArray), (⟨#[226, 128, 152]⟩ : ByteArray), (⟨#[226, 128, 153]⟩ : ByteArray)] : List ByteArray)) := ⟨_, rfl⟩
                  replace H : (if 3 < (y227.length : Int) then (if t218.toList = ([] : List UInt8) then (if t219 = x6_8 then (if t220.toList = (rdOf ByteArray.empty y227 3).toList then (if t221 = x6_8 then ((fleuronlaw17_awake.f).bind fun t231 => (some t231)) else (some false)) else (some false)) else (some false)) else (some false)) else (none)) = some r := by first | (rw [hy227]; with_reducible exact H) | (have H2_ := (Option.bind_some _ _).symm.trans H; rw [hy227]; with_reducible exact H2_) | (have H2_ := (Option.bind_some _ _).symm.trans H; with_reducible exact H2_) | with_reducible exact H | (rw [hy227]; exact H) | exact H
                  have Ny227 := Aside0.mk hy227
                  clear hy227
                  by_cases c28 : 3 < (y227.length : Int)
                  · rw [if_pos c28] at H
                    have c28b0 : decide (3 < (y227.length : Int)) = true := decide_eq_true c28
                    have c28b1 : decide (3 < y227.length) = true := decide_eq_true (by omega)
                    clear c28
                    by_cases c29 : t218.toList = ([] : List UInt8)
                    · rw [if_pos c29] at H
                      have c29b0 : (t218.toList == ([] : List UInt8)) = true := beq_iff_eq.mpr c29
                      have c29b1 : (t218.toList != ([] : List UInt8)) = false := bne_eq_false_iff_eq.mpr c29
                      clear c29
                      by_cases c30 : t219 = x6_8
                      · rw [if_pos c30] at H
                        have c30b0 : (t219 == x6_8) = true := beq_iff_eq.mpr c30
                        have c30b1 : (t219 != x6_8) = false := bne_eq_false_iff_eq.mpr c30
                        clear c30
                        by_cases c31 : t220.toList = (rdOf ByteArray.empty y227 3).toList
                        · rw [if_pos c31] at H
                          have c31b0 : (t220.toList == (rdOf ByteArray.empty y227 3).toList) = true := beq_iff_eq.mpr c31
                          have c31b1 : (t220.toList != (rdOf ByteArray.empty y227 3).toList) = false := bne_eq_false_iff_eq.mpr c31
                          clear c31
                          by_cases c32 : t221 = x6_8
                          · rw [if_pos c32] at H
                            have c32b0 : (t221 == x6_8) = true := beq_iff_eq.mpr c32
                            have c32b1 : (t221 != x6_8) = false := bne_eq_false_iff_eq.mpr c32
                            clear c32
                            replace H := Option.bind_eq_some_iff.mp H
                            obtain ⟨t231, A330, H⟩ := H
                            replace H : (some t231) = some r := H
                            have A33 := Aside0.mk A330
                            clear A330
                            obtain rfl := Option.some.inj H
                            go_wp2_with (first | ((with_reducible refine gate_callee (f := 9) rfl ?_); refine goesL_ (some 34) rfl rfl Try.func9 (by kernel_rfl) rfl #[.agg #[.string (⟨#[]⟩ : ByteArray), .string (⟨#[]⟩ : ByteArray), .string (⟨#[]⟩ : ByteArray), .slice none 0 0, .bool false, .bool false, .slice none 0 0, .bool false, .slice none 0 0, .slice none 0 0, .slice none 0 0], .int .i64 a0, .int .i64 x5_8] rfl (by (try simp only [List.map_toArray, List.map_cons, List.map_nil]); first | done | rfl | (simp only [List.length_drop, List.length_take]; rfl)) ?_; (refine (quote_Do.calls kj8 (⟨#[]⟩ : ByteArray) (⟨#[]⟩ : ByteArray) (⟨#[]⟩ : ByteArray) _ _ ([] : List (S43)) false false _ _ ([] : List ByteArray) false _ _ ([] : List (S47)) _ _ ([] : List (S47)) _ _ ([] : List (S47)) a0 x5_8 t218 t219 _ ?side1 ?side2 ?side3 ?side4 ?side5 ?side6 ?side7 ?side8 ?side9 ?side10 A11.out).mono ?_); (case side1 => exact Kd.C_nil _ _); (case side2 => exact Nat.le_refl _); (case side3 => exact Kd.C_nil _ _); (case side4 => exact Nat.le_refl _); (case side5 => exact Kd.C_nil _ _); (case side6 => exact Nat.le_refl _); (case side7 => exact Kd.C_nil _ _); (case side8 => exact Nat.le_refl _); (case side9 => exact Kd.C_nil _ _); (case side10 => exact Nat.le_refl _); rintro e w34 ⟨rfl, hb⟩; refine ⟨_, rfl, ?_⟩; have n0_ := Aside0.mk (below_step (by repeat (first | (with_reducible first | exact HB.out | apply below_alloc | apply pw_below_drewN | apply below_drew1) | exact HB.out)) hb); clear HB; have HB := n0_; clear n0_; (try clear hb); (try clear hb2); (try clear hk); (try clear hi)) | ((with_reducible refine gate_callee (f := 9) rfl ?_); refine goesL_ (some 41) rfl rfl Try.func9 (by kernel_rfl) rfl #[.agg #[.string (⟨#[]⟩ : ByteArray), .string (⟨#[]⟩ : ByteArray), .string (⟨#[]⟩ : ByteArray), .slice none 0 0, .bool false, .bool false, .slice none 0 0, .bool true, .slice none 0 0, .slice none 0 0, .slice none 0 0], .int .i64 a0, .int .i64 x5_8] rfl (by (try simp only [List.map_toArray, List.map_cons, List.map_nil]); first | done | rfl | (simp only [List.length_drop, List.length_take]; rfl)) ?_; (refine (quote_Do.calls kj8 (⟨#[]⟩ : ByteArray) (⟨#[]⟩ : ByteArray) (⟨#[]⟩ : ByteArray) _ _ ([] : List (S43)) false false _ _ ([] : List ByteArray) true _ _ ([] : List (S47)) _ _ ([] : List (S47)) _ _ ([] : List (S47)) a0 x5_8 t220 t221 _ ?side1 ?side2 ?side3 ?side4 ?side5 ?side6 ?side7 ?side8 ?side9 ?side10 A12.out).mono ?_); (case side1 => exact Kd.C_nil _ _); (case side2 => exact Nat.le_refl _); (case side3 => exact Kd.C_nil _ _); (case side4 => exact Nat.le_refl _); (case side5 => exact Kd.C_nil _ _); (case side6 => exact Nat.le_refl _); (case side7 => exact Kd.C_nil _ _); (case side8 => exact Nat.le_refl _); (case side9 => exact Kd.C_nil _ _); (case side10 => exact Nat.le_refl _); rintro e w35 ⟨rfl, hb⟩; refine ⟨_, rfl, ?_⟩; have n0_ := Aside0.mk (below_step (by repeat (first | (with_reducible first | exact HB.out | apply below_alloc | apply pw_below_drewN | apply below_drew1) | exact HB.out)) hb); clear HB; have HB := n0_; clear n0_; (try clear hb); (try clear hb2); (try clear hk); (try clear hi)) | ((with_reducible refine gate_dst (N := 52) rfl ?_); refine Kd.R_lit Kd.string _ 9 ?hg (N := 52) ?hd (xs := ([(⟨#[226, 128, 156]⟩ : ByteArray), (⟨#[226, 128, 157]⟩ : ByteArray), (⟨#[226, 128, 152]⟩ : ByteArray), (⟨#[226, 128, 153]⟩ : ByteArray)] : List ByteArray)) (inner := [.string (⟨#[226, 128, 156]⟩ : ByteArray), .string (⟨#[226, 128, 157]⟩ : ByteArray), .string (⟨#[226, 128, 152]⟩ : ByteArray), .string (⟨#[226, 128, 153]⟩ : ByteArray)]) (ok := fun _ => True) (okp := fun _ => True) ?hr ?hp (fun _ hk => hk) trivial (Below.refl _ _) (Nat.le_refl _) (by simp) ?_; (case hd => rfl); (case hg => rfl); (case hr => first | (go_simp; done) | (go_simp; rfl)); (case hp => exact (Reps.one (show Kd.M Kd.string _ _ _ (⟨#[226, 128, 156]⟩ : ByteArray) [.string (⟨#[226, 128, 156]⟩ : ByteArray)] from rfl) (Reps.one (show Kd.M Kd.string _ _ _ (⟨#[226, 128, 157]⟩ : ByteArray) [.string (⟨#[226, 128, 157]⟩ : ByteArray)] from rfl) (Reps.one (show Kd.M Kd.string _ _ _ (⟨#[226, 128, 152]⟩ : ByteArray) [.string (⟨#[226, 128, 152]⟩ : ByteArray)] from rfl) (Reps.one (show Kd.M Kd.string _ _ _ (⟨#[226, 128, 153]⟩ : ByteArray) [.string (⟨#[226, 128, 153]⟩ : ByteArray)] from rfl) (Reps.none _ _)))))); intro v228 w36 ho37 hb hg_ hnew_; clear hg_ hnew_; (first | rw [← Ny227.out] at ho37 | (simp only [Int.reduceToNat] at ho37; rw [← Ny227.out] at ho37)); have n0_ := Aside0.mk (Kd.R_lower ho37 (below_size (by repeat (first | (with_reducible first | exact HB.out | apply below_alloc | apply pw_below_drewN | apply below_drew1) | exact HB.out)))); have n1_ := Aside0.mk (below_step (by repeat (first | (with_reducible first | exact HB.out | apply below_alloc | apply pw_below_drewN | apply below_drew1) | exact HB.out)) hb); clear HB; have HO229 := n0_; have HB := n1_; clear n0_ n1_; clear hb ho37; obtain ⟨Ao38, co38, eo38⟩ := Kd.R_slice HO229.out; subst eo38; have p230 : 0 ≤ (3 : Int) := (by omega); have q230 : 3 < (y227.length : Int) := of_decide_eq_true (by first | (with_reducible assumption) | assumption); obtain ⟨ad230, e230, hx230_0⟩ := Kd.at_string (Kd.R_reads' HO229.out).2.2 3 p230 q230; cases e230; (try simp only [show (3 : Int).toNat = 3 from rfl, Nat.reduceMul, Nat.reduceEqDiff, Go.Addr.add, ↓reduceIte] at hx230_0); have qi230 : (3 < y227.length) = True := eq_true (by omega); (try rw [show ((3 : Int)).toNat = 3 from rfl] at hx230_0); replace p230 := eq_true p230; replace q230 := eq_true q230) | (go_at_call 8; (with_reducible refine (fleuronlaw17_awake.calls  t231 _ A33.out).mono ?_); rintro e w39 ⟨rfl, hb⟩; have n0_ := Aside0.mk (Kd.R_below (by (with_reducible repeat (first | apply Kd.R_alloc | apply Kd.R_drewN | apply Kd.R_drew)); exact HO229.out) hb); have n1_ := Aside0.mk (below_step (by repeat (first | (with_reducible first | exact HB.out | apply below_alloc | apply pw_below_drewN | apply below_drew1) | exact HB.out)) hb); clear HO229; clear HB; have HO229 := n0_; have HB := n1_; clear n0_ n1_; (try clear hb); (try clear hb2); (try clear hk); (try clear hi)))
                            go_ret
                            exact ⟨by first | rfl | (simp [errW_none, errW_some] <;> rfl) | (simp only [← hji8]; first | rfl | (simp [errW_none, errW_some] <;> rfl)) | (simp [*, errW_none, errW_some] <;> rfl), by repeat (first | (with_reducible first | exact HB.out | apply below_alloc | apply pw_below_drewN | apply below_drew1) | exact HB.out)⟩
                          · rw [if_neg c32] at H
                            have c32b0 : (t221 == x6_8) = false := beq_eq_false_iff_ne.mpr c32
                            have c32b1 : (t221 != x6_8) = true := bne_iff_ne.mpr c32
                            exact absurd (H.trans (congrArg some HTRUE.out)) (by simp)
                        · rw [if_neg c31] at H
                          have c31b0 : (t220.toList == (rdOf ByteArray.empty y227 3).toList) = false := beq_eq_false_iff_ne.mpr c31
                          have c31b1 : (t220.toList != (rdOf ByteArray.empty y227 3).toList) = true := bne_iff_ne.mpr c31
                          exact absurd (H.trans (congrArg some HTRUE.out)) (by simp)
                      · rw [if_neg c30] at H
                        have c30b0 : (t219 == x6_8) = false := beq_eq_false_iff_ne.mpr c30
                        have c30b1 : (t219 != x6_8) = true := bne_iff_ne.mpr c30
                        exact absurd (H.trans (congrArg some HTRUE.out)) (by simp)
                    · rw [if_neg c29] at H
                      have c29b0 : (t218.toList == ([] : List UInt8)) = false := beq_eq_false_iff_ne.mpr c29
                      have c29b1 : (t218.toList != ([] : List UInt8)) = true := bne_iff_ne.mpr c29
                      exact absurd (H.trans (congrArg some HTRUE.out)) (by simp)
                  · rw [if_neg c28] at H
                    exact absurd H (by simp)
              · rw [if_neg c14] at H
                have c14b0 : decide (0 < x7_8) = false := decide_eq_false c14
                clear c14
                by_cases c40 : a1 = true
                · subst c40
                  have H1 : ((some (([(⟨#[226, 128, 156]⟩ : ByteArray), (⟨#[226, 128, 157]⟩ : ByteArray), (⟨#[226, 128, 152]⟩ : ByteArray), (⟨#[226, 128, 153]⟩ : ByteArray)] : List ByteArray) : List ByteArray)).bind fun y232 => (if 0 < (y232.length : Int) then (if t218.toList = ([] : List UInt8) then (if t219 = x6_8 then (if t220.toList = (rdOf ByteArray.empty y232 0).toList then (if t221 = x6_8 then ((fleuronlaw17_awake.f).bind fun t236 => (some t236)) else (some false)) else (some false)) else (some false)) else (some false)) else (none))) = some r := by rw [if_pos rfl] at H; exact H
                  clear H
                  have H := H1
                  clear H1
                  obtain ⟨y232, hy232⟩ : ∃ y_ : List ByteArray, y_ = (([(⟨#[226, 128, 156]⟩ : ByteArray), (⟨#[226, 128, 157]⟩ : ByteArray), (⟨#[226, 128, 152]⟩ : ByteArray), (⟨#[226, 128, 153]⟩ : ByteArray)] : List ByteArray)) := ⟨_, rfl⟩
                  replace H : (if 0 < (y232.length : Int) then (if t218.toList = ([] : List UInt8) then (if t219 = x6_8 then (if t220.toList = (rdOf ByteArray.empty y232 0).toList then (if t221 = x6_8 then ((fleuronlaw17_awake.f).bind fun t236 => (some t236)) else (some false)) else (some false)) else (some false)) else (some false)) else (none)) = some r := by first | (rw [hy232]; with_reducible exact H) | (have H2_ := (Option.bind_some _ _).symm.trans H; rw [hy232]; with_reducible exact H2_) | (have H2_ := (Option.bind_some _ _).symm.trans H; with_reducible exact H2_) | with_reducible exact H | (rw [hy232]; exact H) | exact H
                  have Ny232 := Aside0.mk hy232
                  clear hy232
                  by_cases c41 : 0 < (y232.length : Int)
                  · rw [if_pos c41] at H
                    have c41b0 : decide (0 < (y232.length : Int)) = true := decide_eq_true c41
                    have c41b1 : decide (0 < y232.length) = true := decide_eq_true (by omega)
                    clear c41
                    by_cases c42 : t218.toList = ([] : List UInt8)
                    · rw [if_pos c42] at H
                      have c42b0 : (t218.toList == ([] : List UInt8)) = true := beq_iff_eq.mpr c42
                      have c42b1 : (t218.toList != ([] : List UInt8)) = false := bne_eq_false_iff_eq.mpr c42
                      clear c42
                      by_cases c43 : t219 = x6_8
                      · rw [if_pos c43] at H
                        have c43b0 : (t219 == x6_8) = true := beq_iff_eq.mpr c43
                        have c43b1 : (t219 != x6_8) = false := bne_eq_false_iff_eq.mpr c43
                        clear c43
                        by_cases c44 : t220.toList = (rdOf ByteArray.empty y232 0).toList
                        · rw [if_pos c44] at H
                          have c44b0 : (t220.toList == (rdOf ByteArray.empty y232 0).toList) = true := beq_iff_eq.mpr c44
                          have c44b1 : (t220.toList != (rdOf ByteArray.empty y232 0).toList) = false := bne_eq_false_iff_eq.mpr c44
                          clear c44
                          by_cases c45 : t221 = x6_8
                          · rw [if_pos c45] at H
                            have c45b0 : (t221 == x6_8) = true := beq_iff_eq.mpr c45
                            have c45b1 : (t221 != x6_8) = false := bne_eq_false_iff_eq.mpr c45
                            clear c45
                            replace H := Option.bind_eq_some_iff.mp H
                            obtain ⟨t236, A460, H⟩ := H
                            replace H : (some t236) = some r := H
                            have A46 := Aside0.mk A460
                            clear A460
                            obtain rfl := Option.some.inj H
                            go_wp2_with (first | ((with_reducible refine gate_callee (f := 9) rfl ?_); refine goesL_ (some 34) rfl rfl Try.func9 (by kernel_rfl) rfl #[.agg #[.string (⟨#[]⟩ : ByteArray), .string (⟨#[]⟩ : ByteArray), .string (⟨#[]⟩ : ByteArray), .slice none 0 0, .bool false, .bool false, .slice none 0 0, .bool false, .slice none 0 0, .slice none 0 0, .slice none 0 0], .int .i64 a0, .int .i64 x5_8] rfl (by (try simp only [List.map_toArray, List.map_cons, List.map_nil]); first | done | rfl | (simp only [List.length_drop, List.length_take]; rfl)) ?_; (refine (quote_Do.calls kj8 (⟨#[]⟩ : ByteArray) (⟨#[]⟩ : ByteArray) (⟨#[]⟩ : ByteArray) _ _ ([] : List (S43)) false false _ _ ([] : List ByteArray) false _ _ ([] : List (S47)) _ _ ([] : List (S47)) _ _ ([] : List (S47)) a0 x5_8 t218 t219 _ ?side1 ?side2 ?side3 ?side4 ?side5 ?side6 ?side7 ?side8 ?side9 ?side10 A11.out).mono ?_); (case side1 => exact Kd.C_nil _ _); (case side2 => exact Nat.le_refl _); (case side3 => exact Kd.C_nil _ _); (case side4 => exact Nat.le_refl _); (case side5 => exact Kd.C_nil _ _); (case side6 => exact Nat.le_refl _); (case side7 => exact Kd.C_nil _ _); (case side8 => exact Nat.le_refl _); (case side9 => exact Kd.C_nil _ _); (case side10 => exact Nat.le_refl _); rintro e w47 ⟨rfl, hb⟩; refine ⟨_, rfl, ?_⟩; have n0_ := Aside0.mk (below_step (by repeat (first | (with_reducible first | exact HB.out | apply below_alloc | apply pw_below_drewN | apply below_drew1) | exact HB.out)) hb); clear HB; have HB := n0_; clear n0_; (try clear hb); (try clear hb2); (try clear hk); (try clear hi)) | ((with_reducible refine gate_callee (f := 9) rfl ?_); refine goesL_ (some 41) rfl rfl Try.func9 (by kernel_rfl) rfl #[.agg #[.string (⟨#[]⟩ : ByteArray), .string (⟨#[]⟩ : ByteArray), .string (⟨#[]⟩ : ByteArray), .slice none 0 0, .bool false, .bool false, .slice none 0 0, .bool true, .slice none 0 0, .slice none 0 0, .slice none 0 0], .int .i64 a0, .int .i64 x5_8] rfl (by (try simp only [List.map_toArray, List.map_cons, List.map_nil]); first | done | rfl | (simp only [List.length_drop, List.length_take]; rfl)) ?_; (refine (quote_Do.calls kj8 (⟨#[]⟩ : ByteArray) (⟨#[]⟩ : ByteArray) (⟨#[]⟩ : ByteArray) _ _ ([] : List (S43)) false false _ _ ([] : List ByteArray) true _ _ ([] : List (S47)) _ _ ([] : List (S47)) _ _ ([] : List (S47)) a0 x5_8 t220 t221 _ ?side1 ?side2 ?side3 ?side4 ?side5 ?side6 ?side7 ?side8 ?side9 ?side10 A12.out).mono ?_); (case side1 => exact Kd.C_nil _ _); (case side2 => exact Nat.le_refl _); (case side3 => exact Kd.C_nil _ _); (case side4 => exact Nat.le_refl _); (case side5 => exact Kd.C_nil _ _); (case side6 => exact Nat.le_refl _); (case side7 => exact Kd.C_nil _ _); (case side8 => exact Nat.le_refl _); (case side9 => exact Kd.C_nil _ _); (case side10 => exact Nat.le_refl _); rintro e w48 ⟨rfl, hb⟩; refine ⟨_, rfl, ?_⟩; have n0_ := Aside0.mk (below_step (by repeat (first | (with_reducible first | exact HB.out | apply below_alloc | apply pw_below_drewN | apply below_drew1) | exact HB.out)) hb); clear HB; have HB := n0_; clear n0_; (try clear hb); (try clear hb2); (try clear hk); (try clear hi)) | ((with_reducible refine gate_dst (N := 52) rfl ?_); refine Kd.R_lit Kd.string _ 9 ?hg (N := 52) ?hd (xs := ([(⟨#[226, 128, 156]⟩ : ByteArray), (⟨#[226, 128, 157]⟩ : ByteArray), (⟨#[226, 128, 152]⟩ : ByteArray), (⟨#[226, 128, 153]⟩ : ByteArray)] : List ByteArray)) (inner := [.string (⟨#[226, 128, 156]⟩ : ByteArray), .string (⟨#[226, 128, 157]⟩ : ByteArray), .string (⟨#[226, 128, 152]⟩ : ByteArray), .string (⟨#[226, 128, 153]⟩ : ByteArray)]) (ok := fun _ => True) (okp := fun _ => True) ?hr ?hp (fun _ hk => hk) trivial (Below.refl _ _) (Nat.le_refl _) (by simp) ?_; (case hd => rfl); (case hg => rfl); (case hr => first | (go_simp; done) | (go_simp; rfl)); (case hp => exact (Reps.one (show Kd.M Kd.string _ _ _ (⟨#[226, 128, 156]⟩ : ByteArray) [.string (⟨#[226, 128, 156]⟩ : ByteArray)] from rfl) (Reps.one (show Kd.M Kd.string _ _ _ (⟨#[226, 128, 157]⟩ : ByteArray) [.string (⟨#[226, 128, 157]⟩ : ByteArray)] from rfl) (Reps.one (show Kd.M Kd.string _ _ _ (⟨#[226, 128, 152]⟩ : ByteArray) [.string (⟨#[226, 128, 152]⟩ : ByteArray)] from rfl) (Reps.one (show Kd.M Kd.string _ _ _ (⟨#[226, 128, 153]⟩ : ByteArray) [.string (⟨#[226, 128, 153]⟩ : ByteArray)] from rfl) (Reps.none _ _)))))); intro v233 w49 ho50 hb hg_ hnew_; clear hg_ hnew_; (first | rw [← Ny232.out] at ho50 | (simp only [Int.reduceToNat] at ho50; rw [← Ny232.out] at ho50)); have n0_ := Aside0.mk (Kd.R_lower ho50 (below_size (by repeat (first | (with_reducible first | exact HB.out | apply below_alloc | apply pw_below_drewN | apply below_drew1) | exact HB.out)))); have n1_ := Aside0.mk (below_step (by repeat (first | (with_reducible first | exact HB.out | apply below_alloc | apply pw_below_drewN | apply below_drew1) | exact HB.out)) hb); clear HB; have HO234 := n0_; have HB := n1_; clear n0_ n1_; clear hb ho50; obtain ⟨Ao51, co51, eo51⟩ := Kd.R_slice HO234.out; subst eo51; have p235 : 0 ≤ (0 : Int) := (by omega); have q235 : 0 < (y232.length : Int) := of_decide_eq_true (by first | (with_reducible assumption) | assumption); obtain ⟨ad235, e235, hx235_0⟩ := Kd.at_string (Kd.R_reads' HO234.out).2.2 0 p235 q235; cases e235; have qi235 : (0 < y232.length) = True := eq_true (by omega); (try rw [show ((0 : Int)).toNat = 0 from rfl] at hx235_0); (try rw [Addr.add_zero'] at hx235_0); replace p235 := eq_true p235; replace q235 := eq_true q235) | (go_at_call 8; (with_reducible refine (fleuronlaw17_awake.calls  t236 _ A46.out).mono ?_); rintro e w52 ⟨rfl, hb⟩; have n0_ := Aside0.mk (Kd.R_below (by (with_reducible repeat (first | apply Kd.R_alloc | apply Kd.R_drewN | apply Kd.R_drew)); exact HO234.out) hb); have n1_ := Aside0.mk (below_step (by repeat (first | (with_reducible first | exact HB.out | apply below_alloc | apply pw_below_drewN | apply below_drew1) | exact HB.out)) hb); clear HO234; clear HB; have HO234 := n0_; have HB := n1_; clear n0_ n1_; (try clear hb); (try clear hb2); (try clear hk); (try clear hi)))
                            go_ret
                            exact ⟨by first | rfl | (simp [errW_none, errW_some] <;> rfl) | (simp only [← hji8]; first | rfl | (simp [errW_none, errW_some] <;> rfl)) | (simp [*, errW_none, errW_some] <;> rfl), by repeat (first | (with_reducible first | exact HB.out | apply below_alloc | apply pw_below_drewN | apply below_drew1) | exact HB.out)⟩
                          · rw [if_neg c45] at H
                            have c45b0 : (t221 == x6_8) = false := beq_eq_false_iff_ne.mpr c45
                            have c45b1 : (t221 != x6_8) = true := bne_iff_ne.mpr c45
                            exact absurd (H.trans (congrArg some HTRUE.out)) (by simp)
                        · rw [if_neg c44] at H
                          have c44b0 : (t220.toList == (rdOf ByteArray.empty y232 0).toList) = false := beq_eq_false_iff_ne.mpr c44
                          have c44b1 : (t220.toList != (rdOf ByteArray.empty y232 0).toList) = true := bne_iff_ne.mpr c44
                          exact absurd (H.trans (congrArg some HTRUE.out)) (by simp)
                      · rw [if_neg c43] at H
                        have c43b0 : (t219 == x6_8) = false := beq_eq_false_iff_ne.mpr c43
                        have c43b1 : (t219 != x6_8) = true := bne_iff_ne.mpr c43
                        exact absurd (H.trans (congrArg some HTRUE.out)) (by simp)
                    · rw [if_neg c42] at H
                      have c42b0 : (t218.toList == ([] : List UInt8)) = false := beq_eq_false_iff_ne.mpr c42
                      have c42b1 : (t218.toList != ([] : List UInt8)) = true := bne_iff_ne.mpr c42
                      exact absurd (H.trans (congrArg some HTRUE.out)) (by simp)
                  · rw [if_neg c41] at H
                    exact absurd H (by simp)
                · replace c40 := Bool.eq_false_iff.mpr c40
                  subst c40
                  have H1 : ((some (([(⟨#[226, 128, 156]⟩ : ByteArray), (⟨#[226, 128, 157]⟩ : ByteArray), (⟨#[226, 128, 152]⟩ : ByteArray), (⟨#[226, 128, 153]⟩ : ByteArray)] : List ByteArray) : List ByteArray)).bind fun y237 => (if 1 < (y237.length : Int) then (if t218.toList = ([] : List UInt8) then (if t219 = x6_8 then (if t220.toList = (rdOf ByteArray.empty y237 1).toList then (if t221 = x6_8 then ((fleuronlaw17_awake.f).bind fun t241 => (some t241)) else (some false)) else (some false)) else (some false)) else (some false)) else (none))) = some r := by rw [if_neg (show ¬ (false = true) by decide)] at H; exact H
                  clear H
                  have H := H1
                  clear H1
                  obtain ⟨y237, hy237⟩ : ∃ y_ : List ByteArray, y_ = (([(⟨#[226, 128, 156]⟩ : ByteArray), (⟨#[226, 128, 157]⟩ : ByteArray), (⟨#[226, 128, 152]⟩ : ByteArray), (⟨#[226, 128, 153]⟩ : ByteArray)] : List ByteArray)) := ⟨_, rfl⟩
                  replace H : (if 1 < (y237.length : Int) then (if t218.toList = ([] : List UInt8) then (if t219 = x6_8 then (if t220.toList = (rdOf ByteArray.empty y237 1).toList then (if t221 = x6_8 then ((fleuronlaw17_awake.f).bind fun t241 => (some t241)) else (some false)) else (some false)) else (some false)) else (some false)) else (none)) = some r := by first | (rw [hy237]; with_reducible exact H) | (have H2_ := (Option.bind_some _ _).symm.trans H; rw [hy237]; with_reducible exact H2_) | (have H2_ := (Option.bind_some _ _).symm.trans H; with_reducible exact H2_) | with_reducible exact H | (rw [hy237]; exact H) | exact H
                  have Ny237 := Aside0.mk hy237
                  clear hy237
                  by_cases c53 : 1 < (y237.length : Int)
                  · rw [if_pos c53] at H
                    have c53b0 : decide (1 < (y237.length : Int)) = true := decide_eq_true c53
                    have c53b1 : decide (1 < y237.length) = true := decide_eq_true (by omega)
                    clear c53
                    by_cases c54 : t218.toList = ([] : List UInt8)
                    · rw [if_pos c54] at H
                      have c54b0 : (t218.toList == ([] : List UInt8)) = true := beq_iff_eq.mpr c54
                      have c54b1 : (t218.toList != ([] : List UInt8)) = false := bne_eq_false_iff_eq.mpr c54
                      clear c54
                      by_cases c55 : t219 = x6_8
                      · rw [if_pos c55] at H
                        have c55b0 : (t219 == x6_8) = true := beq_iff_eq.mpr c55
                        have c55b1 : (t219 != x6_8) = false := bne_eq_false_iff_eq.mpr c55
                        clear c55
                        by_cases c56 : t220.toList = (rdOf ByteArray.empty y237 1).toList
                        · rw [if_pos c56] at H
                          have c56b0 : (t220.toList == (rdOf ByteArray.empty y237 1).toList) = true := beq_iff_eq.mpr c56
                          have c56b1 : (t220.toList != (rdOf ByteArray.empty y237 1).toList) = false := bne_eq_false_iff_eq.mpr c56
                          clear c56
                          by_cases c57 : t221 = x6_8
                          · rw [if_pos c57] at H
                            have c57b0 : (t221 == x6_8) = true := beq_iff_eq.mpr c57
                            have c57b1 : (t221 != x6_8) = false := bne_eq_false_iff_eq.mpr c57
                            clear c57
                            replace H := Option.bind_eq_some_iff.mp H
                            obtain ⟨t241, A580, H⟩ := H
                            replace H : (some t241) = some r := H
                            have A58 := Aside0.mk A580
                            clear A580
                            obtain rfl := Option.some.inj H
                            go_wp2_with (first | ((with_reducible refine gate_callee (f := 9) rfl ?_); refine goesL_ (some 34) rfl rfl Try.func9 (by kernel_rfl) rfl #[.agg #[.string (⟨#[]⟩ : ByteArray), .string (⟨#[]⟩ : ByteArray), .string (⟨#[]⟩ : ByteArray), .slice none 0 0, .bool false, .bool false, .slice none 0 0, .bool false, .slice none 0 0, .slice none 0 0, .slice none 0 0], .int .i64 a0, .int .i64 x5_8] rfl (by (try simp only [List.map_toArray, List.map_cons, List.map_nil]); first | done | rfl | (simp only [List.length_drop, List.length_take]; rfl)) ?_; (refine (quote_Do.calls kj8 (⟨#[]⟩ : ByteArray) (⟨#[]⟩ : ByteArray) (⟨#[]⟩ : ByteArray) _ _ ([] : List (S43)) false false _ _ ([] : List ByteArray) false _ _ ([] : List (S47)) _ _ ([] : List (S47)) _ _ ([] : List (S47)) a0 x5_8 t218 t219 _ ?side1 ?side2 ?side3 ?side4 ?side5 ?side6 ?side7 ?side8 ?side9 ?side10 A11.out).mono ?_); (case side1 => exact Kd.C_nil _ _); (case side2 => exact Nat.le_refl _); (case side3 => exact Kd.C_nil _ _); (case side4 => exact Nat.le_refl _); (case side5 => exact Kd.C_nil _ _); (case side6 => exact Nat.le_refl _); (case side7 => exact Kd.C_nil _ _); (case side8 => exact Nat.le_refl _); (case side9 => exact Kd.C_nil _ _); (case side10 => exact Nat.le_refl _); rintro e w59 ⟨rfl, hb⟩; refine ⟨_, rfl, ?_⟩; have n0_ := Aside0.mk (below_step (by repeat (first | (with_reducible first | exact HB.out | apply below_alloc | apply pw_below_drewN | apply below_drew1) | exact HB.out)) hb); clear HB; have HB := n0_; clear n0_; (try clear hb); (try clear hb2); (try clear hk); (try clear hi)) | ((with_reducible refine gate_callee (f := 9) rfl ?_); refine goesL_ (some 41) rfl rfl Try.func9 (by kernel_rfl) rfl #[.agg #[.string (⟨#[]⟩ : ByteArray), .string (⟨#[]⟩ : ByteArray), .string (⟨#[]⟩ : ByteArray), .slice none 0 0, .bool false, .bool false, .slice none 0 0, .bool true, .slice none 0 0, .slice none 0 0, .slice none 0 0], .int .i64 a0, .int .i64 x5_8] rfl (by (try simp only [List.map_toArray, List.map_cons, List.map_nil]); first | done | rfl | (simp only [List.length_drop, List.length_take]; rfl)) ?_; (refine (quote_Do.calls kj8 (⟨#[]⟩ : ByteArray) (⟨#[]⟩ : ByteArray) (⟨#[]⟩ : ByteArray) _ _ ([] : List (S43)) false false _ _ ([] : List ByteArray) true _ _ ([] : List (S47)) _ _ ([] : List (S47)) _ _ ([] : List (S47)) a0 x5_8 t220 t221 _ ?side1 ?side2 ?side3 ?side4 ?side5 ?side6 ?side7 ?side8 ?side9 ?side10 A12.out).mono ?_); (case side1 => exact Kd.C_nil _ _); (case side2 => exact Nat.le_refl _); (case side3 => exact Kd.C_nil _ _); (case side4 => exact Nat.le_refl _); (case side5 => exact Kd.C_nil _ _); (case side6 => exact Nat.le_refl _); (case side7 => exact Kd.C_nil _ _); (case side8 => exact Nat.le_refl _); (case side9 => exact Kd.C_nil _ _); (case side10 => exact Nat.le_refl _); rintro e w60 ⟨rfl, hb⟩; refine ⟨_, rfl, ?_⟩; have n0_ := Aside0.mk (below_step (by repeat (first | (with_reducible first | exact HB.out | apply below_alloc | apply pw_below_drewN | apply below_drew1) | exact HB.out)) hb); clear HB; have HB := n0_; clear n0_; (try clear hb); (try clear hb2); (try clear hk); (try clear hi)) | ((with_reducible refine gate_dst (N := 52) rfl ?_); refine Kd.R_lit Kd.string _ 9 ?hg (N := 52) ?hd (xs := ([(⟨#[226, 128, 156]⟩ : ByteArray), (⟨#[226, 128, 157]⟩ : ByteArray), (⟨#[226, 128, 152]⟩ : ByteArray), (⟨#[226, 128, 153]⟩ : ByteArray)] : List ByteArray)) (inner := [.string (⟨#[226, 128, 156]⟩ : ByteArray), .string (⟨#[226, 128, 157]⟩ : ByteArray), .string (⟨#[226, 128, 152]⟩ : ByteArray), .string (⟨#[226, 128, 153]⟩ : ByteArray)]) (ok := fun _ => True) (okp := fun _ => True) ?hr ?hp (fun _ hk => hk) trivial (Below.refl _ _) (Nat.le_refl _) (by simp) ?_; (case hd => rfl); (case hg => rfl); (case hr => first | (go_simp; done) | (go_simp; rfl)); (case hp => exact (Reps.one (show Kd.M Kd.string _ _ _ (⟨#[226, 128, 156]⟩ : ByteArray) [.string (⟨#[226, 128, 156]⟩ : ByteArray)] from rfl) (Reps.one (show Kd.M Kd.string _ _ _ (⟨#[226, 128, 157]⟩ : ByteArray) [.string (⟨#[226, 128, 157]⟩ : ByteArray)] from rfl) (Reps.one (show Kd.M Kd.string _ _ _ (⟨#[226, 128, 152]⟩ : ByteArray) [.string (⟨#[226, 128, 152]⟩ : ByteArray)] from rfl) (Reps.one (show Kd.M Kd.string _ _ _ (⟨#[226, 128, 153]⟩ : ByteArray) [.string (⟨#[226, 128, 153]⟩ : ByteArray)] from rfl) (Reps.none _ _)))))); intro v238 w61 ho62 hb hg_ hnew_; clear hg_ hnew_; (first | rw [← Ny237.out] at ho62 | (simp only [Int.reduceToNat] at ho62; rw [← Ny237.out] at ho62)); have n0_ := Aside0.mk (Kd.R_lower ho62 (below_size (by repeat (first | (with_reducible first | exact HB.out | apply below_alloc | apply pw_below_drewN | apply below_drew1) | exact HB.out)))); have n1_ := Aside0.mk (below_step (by repeat (first | (with_reducible first | exact HB.out | apply below_alloc | apply pw_below_drewN | apply below_drew1) | exact HB.out)) hb); clear HB; have HO239 := n0_; have HB := n1_; clear n0_ n1_; clear hb ho62; obtain ⟨Ao63, co63, eo63⟩ := Kd.R_slice HO239.out; subst eo63; have p240 : 0 ≤ (1 : Int) := (by omega); have q240 : 1 < (y237.length : Int) := of_decide_eq_true (by first | (with_reducible assumption) | assumption); obtain ⟨ad240, e240, hx240_0⟩ := Kd.at_string (Kd.R_reads' HO239.out).2.2 1 p240 q240; cases e240; (try simp only [show (1 : Int).toNat = 1 from rfl, Nat.reduceMul, Nat.reduceEqDiff, Go.Addr.add, ↓reduceIte] at hx240_0); have qi240 : (1 < y237.length) = True := eq_true (by omega); (try rw [show ((1 : Int)).toNat = 1 from rfl] at hx240_0); replace p240 := eq_true p240; replace q240 := eq_true q240) | (go_at_call 8; (with_reducible refine (fleuronlaw17_awake.calls  t241 _ A58.out).mono ?_); rintro e w64 ⟨rfl, hb⟩; have n0_ := Aside0.mk (Kd.R_below (by (with_reducible repeat (first | apply Kd.R_alloc | apply Kd.R_drewN | apply Kd.R_drew)); exact HO239.out) hb); have n1_ := Aside0.mk (below_step (by repeat (first | (with_reducible first | exact HB.out | apply below_alloc | apply pw_below_drewN | apply below_drew1) | exact HB.out)) hb); clear HO239; clear HB; have HO239 := n0_; have HB := n1_; clear n0_ n1_; (try clear hb); (try clear hb2); (try clear hk); (try clear hi)))
                            go_ret
                            exact ⟨by first | rfl | (simp [errW_none, errW_some] <;> rfl) | (simp only [← hji8]; first | rfl | (simp [errW_none, errW_some] <;> rfl)) | (simp [*, errW_none, errW_some] <;> rfl), by repeat (first | (with_reducible first | exact HB.out | apply below_alloc | apply pw_below_drewN | apply below_drew1) | exact HB.out)⟩
                          · rw [if_neg c57] at H
                            have c57b0 : (t221 == x6_8) = false := beq_eq_false_iff_ne.mpr c57
                            have c57b1 : (t221 != x6_8) = true := bne_iff_ne.mpr c57
                            exact absurd (H.trans (congrArg some HTRUE.out)) (by simp)
                        · rw [if_neg c56] at H
                          have c56b0 : (t220.toList == (rdOf ByteArray.empty y237 1).toList) = false := beq_eq_false_iff_ne.mpr c56
                          have c56b1 : (t220.toList != (rdOf ByteArray.empty y237 1).toList) = true := bne_iff_ne.mpr c56
                          exact absurd (H.trans (congrArg some HTRUE.out)) (by simp)
                      · rw [if_neg c55] at H
                        have c55b0 : (t219 == x6_8) = false := beq_eq_false_iff_ne.mpr c55
                        have c55b1 : (t219 != x6_8) = true := bne_iff_ne.mpr c55
                        exact absurd (H.trans (congrArg some HTRUE.out)) (by simp)
                    · rw [if_neg c54] at H
                      have c54b0 : (t218.toList == ([] : List UInt8)) = false := beq_eq_false_iff_ne.mpr c54
                      have c54b1 : (t218.toList != ([] : List UInt8)) = true := bne_iff_ne.mpr c54
                      exact absurd (H.trans (congrArg some HTRUE.out)) (by simp)
                  · rw [if_neg c53] at H
                    exact absurd H (by simp)
            · rw [if_neg c13] at H
              have c13b0 : decide (0 ≤ x7_8) = false := decide_eq_false c13
              clear c13
              by_cases c65 : t218.toList = ([] : List UInt8)
              · rw [if_pos c65] at H
                have c65b0 : (t218.toList == ([] : List UInt8)) = true := beq_iff_eq.mpr c65
                have c65b1 : (t218.toList != ([] : List UInt8)) = false := bne_eq_false_iff_eq.mpr c65
                clear c65
                by_cases c66 : t219 = x6_8
                · rw [if_pos c66] at H
                  have c66b0 : (t219 == x6_8) = true := beq_iff_eq.mpr c66
                  have c66b1 : (t219 != x6_8) = false := bne_eq_false_iff_eq.mpr c66
                  clear c66
                  by_cases c67 : t220.toList = ([] : List UInt8)
                  · rw [if_pos c67] at H
                    have c67b0 : (t220.toList == ([] : List UInt8)) = true := beq_iff_eq.mpr c67
                    have c67b1 : (t220.toList != ([] : List UInt8)) = false := bne_eq_false_iff_eq.mpr c67
                    clear c67
                    by_cases c68 : t221 = x6_8
                    · rw [if_pos c68] at H
                      have c68b0 : (t221 == x6_8) = true := beq_iff_eq.mpr c68
                      have c68b1 : (t221 != x6_8) = false := bne_eq_false_iff_eq.mpr c68
                      clear c68
                      replace H := Option.bind_eq_some_iff.mp H
                      obtain ⟨t242, A690, H⟩ := H
                      replace H : (some t242) = some r := H
                      have A69 := Aside0.mk A690
                      clear A690
                      obtain rfl := Option.some.inj H
                      go_wp2_with (first | ((with_reducible refine gate_callee (f := 9) rfl ?_); refine goesL_ (some 34) rfl rfl Try.func9 (by kernel_rfl) rfl #[.agg #[.string (⟨#[]⟩ : ByteArray), .string (⟨#[]⟩ : ByteArray), .string (⟨#[]⟩ : ByteArray), .slice none 0 0, .bool false, .bool false, .slice none 0 0, .bool false, .slice none 0 0, .slice none 0 0, .slice none 0 0], .int .i64 a0, .int .i64 x5_8] rfl (by (try simp only [List.map_toArray, List.map_cons, List.map_nil]); first | done | rfl | (simp only [List.length_drop, List.length_take]; rfl)) ?_; (refine (quote_Do.calls kj8 (⟨#[]⟩ : ByteArray) (⟨#[]⟩ : ByteArray) (⟨#[]⟩ : ByteArray) _ _ ([] : List (S43)) false false _ _ ([] : List ByteArray) false _ _ ([] : List (S47)) _ _ ([] : List (S47)) _ _ ([] : List (S47)) a0 x5_8 t218 t219 _ ?side1 ?side2 ?side3 ?side4 ?side5 ?side6 ?side7 ?side8 ?side9 ?side10 A11.out).mono ?_); (case side1 => exact Kd.C_nil _ _); (case side2 => exact Nat.le_refl _); (case side3 => exact Kd.C_nil _ _); (case side4 => exact Nat.le_refl _); (case side5 => exact Kd.C_nil _ _); (case side6 => exact Nat.le_refl _); (case side7 => exact Kd.C_nil _ _); (case side8 => exact Nat.le_refl _); (case side9 => exact Kd.C_nil _ _); (case side10 => exact Nat.le_refl _); rintro e w70 ⟨rfl, hb⟩; refine ⟨_, rfl, ?_⟩; have n0_ := Aside0.mk (below_step (by repeat (first | (with_reducible first | exact HB.out | apply below_alloc | apply pw_below_drewN | apply below_drew1) | exact HB.out)) hb); clear HB; have HB := n0_; clear n0_; (try clear hb); (try clear hb2); (try clear hk); (try clear hi)) | ((with_reducible refine gate_callee (f := 9) rfl ?_); refine goesL_ (some 41) rfl rfl Try.func9 (by kernel_rfl) rfl #[.agg #[.string (⟨#[]⟩ : ByteArray), .string (⟨#[]⟩ : ByteArray), .string (⟨#[]⟩ : ByteArray), .slice none 0 0, .bool false, .bool false, .slice none 0 0, .bool true, .slice none 0 0, .slice none 0 0, .slice none 0 0], .int .i64 a0, .int .i64 x5_8] rfl (by (try simp only [List.map_toArray, List.map_cons, List.map_nil]); first | done | rfl | (simp only [List.length_drop, List.length_take]; rfl)) ?_; (refine (quote_Do.calls kj8 (⟨#[]⟩ : ByteArray) (⟨#[]⟩ : ByteArray) (⟨#[]⟩ : ByteArray) _ _ ([] : List (S43)) false false _ _ ([] : List ByteArray) true _ _ ([] : List (S47)) _ _ ([] : List (S47)) _ _ ([] : List (S47)) a0 x5_8 t220 t221 _ ?side1 ?side2 ?side3 ?side4 ?side5 ?side6 ?side7 ?side8 ?side9 ?side10 A12.out).mono ?_); (case side1 => exact Kd.C_nil _ _); (case side2 => exact Nat.le_refl _); (case side3 => exact Kd.C_nil _ _); (case side4 => exact Nat.le_refl _); (case side5 => exact Kd.C_nil _ _); (case side6 => exact Nat.le_refl _); (case side7 => exact Kd.C_nil _ _); (case side8 => exact Nat.le_refl _); (case side9 => exact Kd.C_nil _ _); (case side10 => exact Nat.le_refl _); rintro e w71 ⟨rfl, hb⟩; refine ⟨_, rfl, ?_⟩; have n0_ := Aside0.mk (below_step (by repeat (first | (with_reducible first | exact HB.out | apply below_alloc | apply pw_below_drewN | apply below_drew1) | exact HB.out)) hb); clear HB; have HB := n0_; clear n0_; (try clear hb); (try clear hb2); (try clear hk); (try clear hi)) | (go_at_call 8; (with_reducible refine (fleuronlaw17_awake.calls  t242 _ A69.out).mono ?_); rintro e w72 ⟨rfl, hb⟩; have n0_ := Aside0.mk (below_step (by repeat (first | (with_reducible first | exact HB.out | apply below_alloc | apply pw_below_drewN | apply below_drew1) | exact HB.out)) hb); clear HB; have HB := n0_; clear n0_; (try clear hb); (try clear hb2); (try clear hk); (try clear hi)))
                      go_ret
                      exact ⟨by first | rfl | (simp [errW_none, errW_some] <;> rfl) | (simp only [← hji8]; first | rfl | (simp [errW_none, errW_some] <;> rfl)) | (simp [*, errW_none, errW_some] <;> rfl), by repeat (first | (with_reducible first | exact HB.out | apply below_alloc | apply pw_below_drewN | apply below_drew1) | exact HB.out)⟩
                    · rw [if_neg c68] at H
                      have c68b0 : (t221 == x6_8) = false := beq_eq_false_iff_ne.mpr c68
                      have c68b1 : (t221 != x6_8) = true := bne_iff_ne.mpr c68
                      exact absurd (H.trans (congrArg some HTRUE.out)) (by simp)
                  · rw [if_neg c67] at H
                    have c67b0 : (t220.toList == ([] : List UInt8)) = false := beq_eq_false_iff_ne.mpr c67
                    have c67b1 : (t220.toList != ([] : List UInt8)) = true := bne_iff_ne.mpr c67
                    exact absurd (H.trans (congrArg some HTRUE.out)) (by simp)
                · rw [if_neg c66] at H
                  have c66b0 : (t219 == x6_8) = false := beq_eq_false_iff_ne.mpr c66
                  have c66b1 : (t219 != x6_8) = true := bne_iff_ne.mpr c66
                  exact absurd (H.trans (congrArg some HTRUE.out)) (by simp)
              · rw [if_neg c65] at H
                have c65b0 : (t218.toList == ([] : List UInt8)) = false := beq_eq_false_iff_ne.mpr c65
                have c65b1 : (t218.toList != ([] : List UInt8)) = true := bne_iff_ne.mpr c65
                exact absurd (H.trans (congrArg some HTRUE.out)) (by simp)

/-- THE ONE PURE STATEMENT of fleuronlaw17_QuoteAuto: yours. -/
def fleuronlaw17_QuoteAuto.Pure : Prop := ∀ (a0 : Int) (a1 : Bool), (Lit.int .i64 a0).wf = true → ∃ k, fleuronlaw17_QuoteAuto.f k a0 a1 = some true
theorem fleuronlaw17_QuoteAuto.walk (P : fleuronlaw17_QuoteAuto.Pure) (a0 : Int) (a1 : Bool) (w : World) (w0 : (Lit.int .i64 a0).wf = true) :
    Calls Try.prog 5 #[.int .i64 a0, .bool a1] w fun e w' => e = .returned (.bool true) ∧ Below w.heap.size w w' := by
  obtain ⟨k, h⟩ := P a0 a1 w0
  refine (fleuronlaw17_QuoteAuto.calls k a0 a1 true w h rfl).mono ?_
  rintro e w' ⟨rfl, hd⟩
  exact ⟨rfl, hd⟩

end Go.Proofs.Ytodcbiehocphkaa.P
