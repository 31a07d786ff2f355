/- A text written by a program of this session's own (wip/tools/fprint.py), which extends the kit's print. -/
import Derived.Test.YtodcbiehocphkaaPx0
import Derived.Test.YtodcbiehocphkaaPx3
namespace Go.Proofs.Ytodcbiehocphkaa.P
open Go.RowKit Go.Proofs.YtodcbiehocphkaaW.PrintWords Go.Proofs.YtodcbiehocphkaaW.PrintLast Go.Proofs.YtodcbiehocphkaaW.PrintMore
attribute [local go_sem] max2_int min2_int max_two min_two max_three min_three max_four min_four   -- for this text's walks alone
set_option linter.unusedVariables false
set_option linter.unusedSimpArgs false

/-! ### fleuronlaw17_QuoteBack: function 6 -/
mutual
def fleuronlaw17_QuoteBack.j0 : Nat → Int → Int → Int → Bool → Option (Bool)
  | 0, _, _, _, _ => none
  | k + 1, x0, x1, x2, x39 => if x39 = true then ((fleuronlaw17_awake.f).bind fun t243 => (some t243)) else (fleuronlaw17_QuoteBack.l0 k x0 x1 x2 0 (⟨#[]⟩ : ByteArray) (⟨#[]⟩ : ByteArray) (⟨#[]⟩ : ByteArray) false false ([] : List ByteArray) false)
def fleuronlaw17_QuoteBack.l0 : Nat → Int → Int → Int → Int → ByteArray → ByteArray → ByteArray → Bool → Bool → List ByteArray → Bool → Option (Bool)
  | 0, _, _, _, _, _, _, _, _, _, _, _ => none
  | k + 1, x0, x1, x2, x8, x245000, x245001, x245002, x245004, x245005, x245006, x245007 => if x8 < x2 then ((some (([(wrap64 (97 + x8)) % 256] : List Int) : List Int)).bind fun y245 => ((some (([strOfNums y245, strOfNums y245] : List ByteArray) : List ByteArray)).bind fun y248 => (if x245006.length + y248.length < 8796093022208 then (fleuronlaw17_QuoteBack.l0 k x0 x1 x2 (wrap64 (x8 + 1)) x245000 x245001 x245002 x245004 x245005 (x245006 ++ y248) x245007) else (none)))) else (fleuronlaw17_QuoteBack.l1 k x0 x1 x2 x1 ([] : List ByteArray) 0 x245000 x245001 x245002 x245004 x245005 x245006 x245007)
def fleuronlaw17_QuoteBack.l1 : Nat → Int → Int → Int → Int → List ByteArray → Int → ByteArray → ByteArray → ByteArray → Bool → Bool → List ByteArray → Bool → Option (Bool)
  | 0, _, _, _, _, _, _, _, _, _, _, _, _, _ => none
  | k + 1, x0, x1, x2, x10, x11, x12, x245000, x245001, x245002, x245004, x245005, x245006, x245007 => if x12 < x0 then ((quote_Do.f k x245000 x245001 x245002 ([] : List (S43)) x245004 x245005 x245006 x245007 ([] : List (S47)) ([] : List (S47)) ([] : List (S47)) x10 5).bind fun bt254 => (if bt254.2 = (wrap64 (x10 + 1)) then (if ((bt254.1.toList == ([] : List UInt8)) != (x2 == 0)) = true then (some false) else (if x11.length < 8796093022208 then (fleuronlaw17_QuoteBack.l1 k x0 x1 x2 bt254.2 (x11 ++ [bt254.1]) (wrap64 (x12 + 1)) x245000 x245001 x245002 x245004 x245005 x245006 x245007) else (none))) else (some false))) else (fleuronlaw17_QuoteBack.l2 k x1 x10 x11 (wrap64 (x0 - 1)) x245000 x245001 x245002 x245004 x245005 x245006 x245007)
def fleuronlaw17_QuoteBack.l2 : Nat → Int → Int → List ByteArray → Int → ByteArray → ByteArray → ByteArray → Bool → Bool → List ByteArray → Bool → Option (Bool)
  | 0, _, _, _, _, _, _, _, _, _, _, _ => none
  | k + 1, x1, x10, x11, x15, x245000, x245001, x245002, x245004, x245005, x245006, x245007 => if x15 ≥ 0 then ((quote_Do.f k x245000 x245001 x245002 ([] : List (S43)) x245004 x245005 x245006 x245007 ([] : List (S47)) ([] : List (S47)) ([] : List (S47)) x10 6).bind fun bt259 => (if bt259.2 = (wrap64 (x10 - 1)) then (if 0 ≤ x15 then (if x15 < (x11.length : Int) then (if bt259.1.toList = (rdOf ByteArray.empty x11 x15).toList then (fleuronlaw17_QuoteBack.l2 k x1 bt259.2 x11 (wrap64 (x15 - 1)) x245000 x245001 x245002 x245004 x245005 x245006 x245007) else (some false)) else (none)) else (none)) else (some false))) else (if x10 = x1 then ((fleuronlaw17_awake.f).bind fun t262 => (some t262)) else (some false))
end
def fleuronlaw17_QuoteBack.f (k : Nat) (a0 : Int) (a1 : Int) (a2 : Int) : Option (Bool) := if a0 < 0 then (fleuronlaw17_QuoteBack.j0 k a0 a1 a2 true) else (if a0 > 50 then (fleuronlaw17_QuoteBack.j0 k a0 a1 a2 true) else (if a1 < 0 then (fleuronlaw17_QuoteBack.j0 k a0 a1 a2 true) else (if a1 > 50 then (fleuronlaw17_QuoteBack.j0 k a0 a1 a2 true) else (if a2 < 0 then (fleuronlaw17_QuoteBack.j0 k a0 a1 a2 true) else (fleuronlaw17_QuoteBack.j0 k a0 a1 a2 (decide (a2 > 6)))))))
theorem fleuronlaw17_QuoteBack.mono_l : ∀ k, (∀ y0 y1 y2 y3, LeO (fleuronlaw17_QuoteBack.j0 k y0 y1 y2 y3) (fleuronlaw17_QuoteBack.j0 (k + 1) y0 y1 y2 y3)) ∧ (∀ y0 y1 y2 y3 y4 y5 y6 y7 y8 y9 y10, LeO (fleuronlaw17_QuoteBack.l0 k y0 y1 y2 y3 y4 y5 y6 y7 y8 y9 y10) (fleuronlaw17_QuoteBack.l0 (k + 1) y0 y1 y2 y3 y4 y5 y6 y7 y8 y9 y10)) ∧ (∀ y0 y1 y2 y3 y4 y5 y6 y7 y8 y9 y10 y11 y12, LeO (fleuronlaw17_QuoteBack.l1 k y0 y1 y2 y3 y4 y5 y6 y7 y8 y9 y10 y11 y12) (fleuronlaw17_QuoteBack.l1 (k + 1) y0 y1 y2 y3 y4 y5 y6 y7 y8 y9 y10 y11 y12)) ∧ (∀ y0 y1 y2 y3 y4 y5 y6 y7 y8 y9 y10, LeO (fleuronlaw17_QuoteBack.l2 k y0 y1 y2 y3 y4 y5 y6 y7 y8 y9 y10) (fleuronlaw17_QuoteBack.l2 (k + 1) y0 y1 y2 y3 y4 y5 y6 y7 y8 y9 y10))
  | 0 => ⟨fun _ _ _ _ r h => by simp [fleuronlaw17_QuoteBack.j0] at h, fun _ _ _ _ _ _ _ _ _ _ _ r h => by simp [fleuronlaw17_QuoteBack.l0] at h, fun _ _ _ _ _ _ _ _ _ _ _ _ _ r h => by simp [fleuronlaw17_QuoteBack.l1] at h, fun _ _ _ _ _ _ _ _ _ _ _ r h => by simp [fleuronlaw17_QuoteBack.l2] at h⟩
  | k + 1 => by
    obtain ⟨ih0, ih1, ih2, ih3⟩ := fleuronlaw17_QuoteBack.mono_l k
    refine ⟨?_, ?_, ?_, ?_⟩
    · intro y0 y1 y2 y3
      unfold fleuronlaw17_QuoteBack.j0
      repeat' first
      | (with_reducible exact ih0 _ _ _ _)
      | (with_reducible exact ih1 _ _ _ _ _ _ _ _ _ _ _)
      | (with_reducible exact ih2 _ _ _ _ _ _ _ _ _ _ _ _ _)
      | (with_reducible exact ih3 _ _ _ _ _ _ _ _ _ _ _)
      | (with_reducible exact quote_Do.mono _ _ _ _ _ _ _ _ _ _ _ _ _ _)
      | (with_reducible exact LeO.refl _)
      | (with_reducible exact LeO.none _)
      | (with_reducible refine LeO.ite ?_ ?_)
      | (with_reducible refine LeO.bind ?_ (fun _ => ?_))
      | exact ih0 _ _ _ _
      | exact ih1 _ _ _ _ _ _ _ _ _ _ _
      | exact ih2 _ _ _ _ _ _ _ _ _ _ _ _ _
      | exact ih3 _ _ _ _ _ _ _ _ _ _ _
      | exact quote_Do.mono _ _ _ _ _ _ _ _ _ _ _ _ _ _
      | exact LeO.none _
      | refine LeO.ite ?_ ?_
      | refine LeO.bind ?_ (fun _ => ?_)
    · intro y0 y1 y2 y3 y4 y5 y6 y7 y8 y9 y10
      unfold fleuronlaw17_QuoteBack.l0
      repeat' first
      | (with_reducible exact ih0 _ _ _ _)
      | (with_reducible exact ih1 _ _ _ _ _ _ _ _ _ _ _)
      | (with_reducible exact ih2 _ _ _ _ _ _ _ _ _ _ _ _ _)
      | (with_reducible exact ih3 _ _ _ _ _ _ _ _ _ _ _)
      | (with_reducible exact quote_Do.mono _ _ _ _ _ _ _ _ _ _ _ _ _ _)
      | (with_reducible exact LeO.refl _)
      | (with_reducible exact LeO.none _)
      | (with_reducible refine LeO.ite ?_ ?_)
      | (with_reducible refine LeO.bind ?_ (fun _ => ?_))
      | exact ih0 _ _ _ _
      | exact ih1 _ _ _ _ _ _ _ _ _ _ _
      | exact ih2 _ _ _ _ _ _ _ _ _ _ _ _ _
      | exact ih3 _ _ _ _ _ _ _ _ _ _ _
      | exact quote_Do.mono _ _ _ _ _ _ _ _ _ _ _ _ _ _
      | exact LeO.none _
      | refine LeO.ite ?_ ?_
      | refine LeO.bind ?_ (fun _ => ?_)
    · intro y0 y1 y2 y3 y4 y5 y6 y7 y8 y9 y10 y11 y12
      unfold fleuronlaw17_QuoteBack.l1
      repeat' first
      | (with_reducible exact ih0 _ _ _ _)
      | (with_reducible exact ih1 _ _ _ _ _ _ _ _ _ _ _)
      | (with_reducible exact ih2 _ _ _ _ _ _ _ _ _ _ _ _ _)
      | (with_reducible exact ih3 _ _ _ _ _ _ _ _ _ _ _)
      | (with_reducible exact quote_Do.mono _ _ _ _ _ _ _ _ _ _ _ _ _ _)
      | (with_reducible exact LeO.refl _)
      | (with_reducible exact LeO.none _)
      | (with_reducible refine LeO.ite ?_ ?_)
      | (with_reducible refine LeO.bind ?_ (fun _ => ?_))
      | exact ih0 _ _ _ _
      | exact ih1 _ _ _ _ _ _ _ _ _ _ _
      | exact ih2 _ _ _ _ _ _ _ _ _ _ _ _ _
      | exact ih3 _ _ _ _ _ _ _ _ _ _ _
      | exact quote_Do.mono _ _ _ _ _ _ _ _ _ _ _ _ _ _
      | exact LeO.none _
      | refine LeO.ite ?_ ?_
      | refine LeO.bind ?_ (fun _ => ?_)
    · intro y0 y1 y2 y3 y4 y5 y6 y7 y8 y9 y10
      unfold fleuronlaw17_QuoteBack.l2
      repeat' first
      | (with_reducible exact ih0 _ _ _ _)
      | (with_reducible exact ih1 _ _ _ _ _ _ _ _ _ _ _)
      | (with_reducible exact ih2 _ _ _ _ _ _ _ _ _ _ _ _ _)
      | (with_reducible exact ih3 _ _ _ _ _ _ _ _ _ _ _)
      | (with_reducible exact quote_Do.mono _ _ _ _ _ _ _ _ _ _ _ _ _ _)
      | (with_reducible exact LeO.refl _)
      | (with_reducible exact LeO.none _)
      | (with_reducible refine LeO.ite ?_ ?_)
      | (with_reducible refine LeO.bind ?_ (fun _ => ?_))
      | exact ih0 _ _ _ _
      | exact ih1 _ _ _ _ _ _ _ _ _ _ _
      | exact ih2 _ _ _ _ _ _ _ _ _ _ _ _ _
      | exact ih3 _ _ _ _ _ _ _ _ _ _ _
      | exact quote_Do.mono _ _ _ _ _ _ _ _ _ _ _ _ _ _
      | exact LeO.none _
      | refine LeO.ite ?_ ?_
      | refine LeO.bind ?_ (fun _ => ?_)
theorem fleuronlaw17_QuoteBack.mono : ∀ a0 a1 a2 k, LeO (fleuronlaw17_QuoteBack.f k a0 a1 a2) (fleuronlaw17_QuoteBack.f (k + 1) a0 a1 a2) := by
  intro a0 a1 a2 k
  obtain ⟨ih0, ih1, ih2, ih3⟩ := fleuronlaw17_QuoteBack.mono_l k
  unfold fleuronlaw17_QuoteBack.f
  repeat' first
      | (with_reducible exact ih0 _ _ _ _)
      | (with_reducible exact ih1 _ _ _ _ _ _ _ _ _ _ _)
      | (with_reducible exact ih2 _ _ _ _ _ _ _ _ _ _ _ _ _)
      | (with_reducible exact ih3 _ _ _ _ _ _ _ _ _ _ _)
      | (with_reducible exact quote_Do.mono _ _ _ _ _ _ _ _ _ _ _ _ _ _)
      | (with_reducible exact LeO.refl _)
      | (with_reducible exact LeO.none _)
      | (with_reducible refine LeO.ite ?_ ?_)
      | (with_reducible refine LeO.bind ?_ (fun _ => ?_))
      | exact ih0 _ _ _ _
      | exact ih1 _ _ _ _ _ _ _ _ _ _ _
      | exact ih2 _ _ _ _ _ _ _ _ _ _ _ _ _
      | exact ih3 _ _ _ _ _ _ _ _ _ _ _
      | exact quote_Do.mono _ _ _ _ _ _ _ _ _ _ _ _ _ _
      | exact LeO.none _
      | refine LeO.ite ?_ ?_
      | refine LeO.bind ?_ (fun _ => ?_)
set_option maxHeartbeats 8000000 in
set_option maxRecDepth 100000 in
theorem fleuronlaw17_QuoteBack.calls (k : Nat) (a0 : Int) (a1 : Int) (a2 : Int) (r : Bool) (w : World) (h : fleuronlaw17_QuoteBack.f k a0 a1 a2 = some r) (htrue_ : r = true) :
    Calls Try.prog 6 #[.int .i64 a0, .int .i64 a1, .int .i64 a2] w fun e w' => e = .returned (.bool r) ∧ Below w.heap.size w w' := by
  have hu26 := Try.underlying26
  have HB := Aside0.mk (Below.refl w.heap.size w)
  have H : (if a0 < 0 then (fleuronlaw17_QuoteBack.j0 k a0 a1 a2 true) else (if a0 > 50 then (fleuronlaw17_QuoteBack.j0 k a0 a1 a2 true) else (if a1 < 0 then (fleuronlaw17_QuoteBack.j0 k a0 a1 a2 true) else (if a1 > 50 then (fleuronlaw17_QuoteBack.j0 k a0 a1 a2 true) else (if a2 < 0 then (fleuronlaw17_QuoteBack.j0 k a0 a1 a2 true) else (fleuronlaw17_QuoteBack.j0 k a0 a1 a2 (decide (a2 > 6)))))))) = some r := h
  clear h
  have HTRUE := Aside0.mk htrue_
  clear htrue_
  have HC4 := Aside0.mk H
  clear H
  go_enter Try.func6, Try.ntmps6
  go_upto_region 1 with (fail)
  go_cut [39] (fun v39 wc => ∃ (kq : Nat) (x39_3 : Bool), v39 = .bool x39_3 ∧ Aside0 (fleuronlaw17_QuoteBack.j0 kq a0 a1 a2 x39_3 = some r) ∧ Aside0 (kq ≤ k) ∧ Aside0 (Below w.heap.size w wc))
  case first =>
    have H := HC4.out
    clear HC4
    by_cases c5 : a0 < 0
    · rw [if_pos c5] at H
      have c5b0 : decide (a0 < 0) = true := decide_eq_true c5
      clear c5
      (first | rw [c5b0] | (simp only [i64_w, i32_w]; rw [c5b0]) | skip)
      have H' := Aside0.mk H
      clear H
      go_wp2
      go_meet
      case rel => exact ⟨_, (true), (by first | rfl | (simp; done) | (simp [*]; done)), H', ⟨by first | omega | exact Nat.le_refl _⟩, ⟨by repeat (first | (with_reducible first | exact HB.out | apply below_alloc | apply pw_below_drewN | apply below_drew1) | exact HB.out)⟩⟩
    · rw [if_neg c5] at H
      have c5b0 : decide (a0 < 0) = false := decide_eq_false c5
      clear c5
      (first | rw [c5b0] | (simp only [i64_w, i32_w]; rw [c5b0]) | skip)
      by_cases c6 : a0 > 50
      · rw [if_pos c6] at H
        have c6b0 : decide (50 < a0) = true := decide_eq_true c6
        clear c6
        have H' := Aside0.mk H
        clear H
        go_wp2
        go_meet
        case rel => exact ⟨_, (true), (by first | rfl | (simp; done) | (simp [*]; done)), H', ⟨by first | omega | exact Nat.le_refl _⟩, ⟨by repeat (first | (with_reducible first | exact HB.out | apply below_alloc | apply pw_below_drewN | apply below_drew1) | exact HB.out)⟩⟩
      · rw [if_neg c6] at H
        have c6b0 : decide (50 < a0) = false := decide_eq_false c6
        clear c6
        by_cases c7 : a1 < 0
        · rw [if_pos c7] at H
          have c7b0 : decide (a1 < 0) = true := decide_eq_true c7
          clear c7
          have H' := Aside0.mk H
          clear H
          go_wp2
          go_meet
          case rel => exact ⟨_, (true), (by first | rfl | (simp; done) | (simp [*]; done)), H', ⟨by first | omega | exact Nat.le_refl _⟩, ⟨by repeat (first | (with_reducible first | exact HB.out | apply below_alloc | apply pw_below_drewN | apply below_drew1) | exact HB.out)⟩⟩
        · rw [if_neg c7] at H
          have c7b0 : decide (a1 < 0) = false := decide_eq_false c7
          clear c7
          by_cases c8 : a1 > 50
          · rw [if_pos c8] at H
            have c8b0 : decide (50 < a1) = true := decide_eq_true c8
            clear c8
            have H' := Aside0.mk H
            clear H
            go_wp2
            go_meet
            case rel => exact ⟨_, (true), (by first | rfl | (simp; done) | (simp [*]; done)), H', ⟨by first | omega | exact Nat.le_refl _⟩, ⟨by repeat (first | (with_reducible first | exact HB.out | apply below_alloc | apply pw_below_drewN | apply below_drew1) | exact HB.out)⟩⟩
          · rw [if_neg c8] at H
            have c8b0 : decide (50 < a1) = false := decide_eq_false c8
            clear c8
            by_cases c9 : a2 < 0
            · rw [if_pos c9] at H
              have c9b0 : decide (a2 < 0) = true := decide_eq_true c9
              clear c9
              have H' := Aside0.mk H
              clear H
              go_wp2
              go_meet
              case rel => exact ⟨_, (true), (by first | rfl | (simp; done) | (simp [*]; done)), H', ⟨by first | omega | exact Nat.le_refl _⟩, ⟨by repeat (first | (with_reducible first | exact HB.out | apply below_alloc | apply pw_below_drewN | apply below_drew1) | exact HB.out)⟩⟩
            · rw [if_neg c9] at H
              have c9b0 : decide (a2 < 0) = false := decide_eq_false c9
              clear c9
              have H' := Aside0.mk H
              clear H
              go_wp2
              go_meet
              case rel => exact ⟨_, (decide (a2 > 6)), (by first | rfl | (simp; done) | (simp [*]; done)), H', ⟨by first | omega | exact Nat.le_refl _⟩, ⟨by repeat (first | (with_reducible first | exact HB.out | apply below_alloc | apply pw_below_drewN | apply below_drew1) | exact HB.out)⟩⟩
  case rest =>
    clear HC4
    try clear p2
    try clear c5
    try clear c5b0
    try clear c6
    try clear c6b0
    try clear c7
    try clear c7b0
    try clear c8
    try clear c8b0
    try clear c9
    try clear c9b0
    obtain ⟨kq, x39_3, rfl, HA, HJ3, HB⟩ := hcut
    cases kq with
    | zero => exact absurd HA.out (by simp [fleuronlaw17_QuoteBack.j0])
    | succ kj3 =>
      have H := HA.out
      clear HA
      simp only [fleuronlaw17_QuoteBack.j0] at H
      by_cases c10 : x39_3 = true
      · subst c10
        have H1 : ((fleuronlaw17_awake.f).bind fun t243 => (some t243)) = some r := by rw [if_pos rfl] at H; exact H
        clear H
        have H := H1
        clear H1
        replace H := Option.bind_eq_some_iff.mp H
        obtain ⟨t243, A110, H⟩ := H
        replace H : (some t243) = some r := H
        have A11 := Aside0.mk A110
        clear A110
        obtain rfl := Option.some.inj H
        go_wp2_with (first | ((with_reducible refine gate_callee (f := 8) rfl ?_); refine goesL_ (some 40) rfl rfl Try.func8 (by kernel_rfl) rfl #[] rfl (by (try simp only [List.map_toArray, List.map_cons, List.map_nil]); first | done | rfl | (simp only [List.length_drop, List.length_take]; rfl)) ?_; (with_reducible refine (fleuronlaw17_awake.calls  t243 _ A11.out).mono ?_); rintro e w12 ⟨rfl, hb⟩; refine ⟨_, rfl, ?_⟩; have n0_ := Aside0.mk (below_step (by repeat (first | (with_reducible first | exact HB.out | apply below_alloc | apply pw_below_drewN | apply below_drew1) | exact HB.out)) hb); clear HB; have HB := n0_; clear n0_; (try clear hb); (try clear hb2); (try clear hk); (try clear hi)))
        go_ret
        exact ⟨by first | rfl | (simp [errW_none, errW_some] <;> rfl) | (simp [*, errW_none, errW_some] <;> rfl), by repeat (first | (with_reducible first | exact HB.out | apply below_alloc | apply pw_below_drewN | apply below_drew1) | exact HB.out)⟩
      · replace c10 := Bool.eq_false_iff.mpr c10
        subst c10
        have H1 : (fleuronlaw17_QuoteBack.l0 kj3 a0 a1 a2 0 (⟨#[]⟩ : ByteArray) (⟨#[]⟩ : ByteArray) (⟨#[]⟩ : ByteArray) false false ([] : List ByteArray) false) = some r := by rw [if_neg (show ¬ (false = true) by decide)] at H; exact H
        clear H
        have H := H1
        clear H1
        have H' := Aside0.mk H
        clear H
        go_wp2_with (first | ((with_reducible refine gate_dst (N := 7) rfl ?_); refine box_event ?hg (N := 7) ?hd (cs := #[.string (⟨#[]⟩ : ByteArray), .string (⟨#[]⟩ : ByteArray), .string (⟨#[]⟩ : ByteArray), .slice none 0 0, .bool false, .bool false, .slice none 0 0, .bool false, .slice none 0 0, .slice none 0 0, .slice none 0 0]) (t := 26) ?hr ?_; (case hd => rfl); (case hg => rfl); (case hr => first | (go_simp; done) | (go_simp; rfl)); intro gb244 hg w13 hbox hb; have n0_ := Aside0.mk (below_step (by repeat (first | (with_reducible first | exact HB.out | apply below_alloc | apply pw_below_drewN | apply below_drew1) | exact HB.out)) hb); have n1_ := Aside0.mk (hbox); have n2_ := Aside0.mk ((by rw [hg]; exact (below_size (by repeat (first | (with_reducible first | exact HB.out | apply below_alloc | apply pw_below_drewN | apply below_drew1) | exact HB.out))) : w.heap.size ≤ gb244)); have n3_ := Aside0.mk ((by rw [hg]; exact (below_size (by repeat (first | (with_reducible first | exact HB.out | apply below_alloc | apply pw_below_drewN | apply below_drew1) | exact HB.out))) : w.heap.size ≤ gb244)); clear HB; have HB := n0_; have BK244 := n1_; have GW244 := n2_; have GE244 := n3_; clear n0_ n1_ n2_ n3_; clear hb hbox hg; have hcz14_0 : w13.cell? ⟨gb244, 0, none⟩ = some (.string (⟨#[]⟩ : ByteArray)) := (blk_cell BK244.out 0).trans rfl; have hcz14_1 : w13.cell? ⟨gb244, 1, none⟩ = some (.string (⟨#[]⟩ : ByteArray)) := (blk_cell BK244.out 1).trans rfl; have hcz14_2 : w13.cell? ⟨gb244, 2, none⟩ = some (.string (⟨#[]⟩ : ByteArray)) := (blk_cell BK244.out 2).trans rfl; have hcz14_3 : w13.cell? ⟨gb244, 3, none⟩ = some (.slice none 0 0) := (blk_cell BK244.out 3).trans rfl; have hcz14_4 : w13.cell? ⟨gb244, 4, none⟩ = some (.bool false) := (blk_cell BK244.out 4).trans rfl; have hcz14_5 : w13.cell? ⟨gb244, 5, none⟩ = some (.bool false) := (blk_cell BK244.out 5).trans rfl; have hcz14_6 : w13.cell? ⟨gb244, 6, none⟩ = some (.slice none 0 0) := (blk_cell BK244.out 6).trans rfl; have hcz14_7 : w13.cell? ⟨gb244, 7, none⟩ = some (.bool false) := (blk_cell BK244.out 7).trans rfl; have hcz14_8 : w13.cell? ⟨gb244, 8, none⟩ = some (.slice none 0 0) := (blk_cell BK244.out 8).trans rfl; have hcz14_9 : w13.cell? ⟨gb244, 9, none⟩ = some (.slice none 0 0) := (blk_cell BK244.out 9).trans rfl; have hcz14_10 : w13.cell? ⟨gb244, 10, none⟩ = some (.slice none 0 0) := (blk_cell BK244.out 10).trans rfl; have hfz14_0 := blk_frozen BK244.out 0; have hfz14_1 := blk_frozen BK244.out 1; have hfz14_2 := blk_frozen BK244.out 2; have hfz14_3 := blk_frozen BK244.out 3; have hfz14_4 := blk_frozen BK244.out 4; have hfz14_5 := blk_frozen BK244.out 5; have hfz14_6 := blk_frozen BK244.out 6; have hfz14_7 := blk_frozen BK244.out 7; have hfz14_8 := blk_frozen BK244.out 8; have hfz14_9 := blk_frozen BK244.out 9; have hfz14_10 := blk_frozen BK244.out 10))
        go_loopg [8] kj3 (fun kq v8 w' => ∃ (x8_2 : Int) (x245006_2 : List ByteArray) (u245006 : Value), v8 = .int .i64 x8_2 ∧ Aside0 (fleuronlaw17_QuoteBack.l0 kq a0 a1 a2 x8_2 (⟨#[]⟩ : ByteArray) (⟨#[]⟩ : ByteArray) (⟨#[]⟩ : ByteArray) false false x245006_2 false = some r) ∧ Aside0 (kq ≤ kj3) ∧ Aside0 (Kd.R Kd.string 9 w' w.heap.size (fun _ => True) u245006 x245006_2) ∧ Aside0 (w'.heap[gb244]? = some (.cells #[.string (⟨#[]⟩ : ByteArray), .string (⟨#[]⟩ : ByteArray), .string (⟨#[]⟩ : ByteArray), (.slice none 0 0), .bool false, .bool false, u245006, .bool false, (.slice none 0 0), (.slice none 0 0), (.slice none 0 0)] 26 (0, 0))) ∧ Aside0 (Below w.heap.size w w'))
        case atStart => exact ⟨(0), (([] : List ByteArray)), (.slice none 0 0), (by first | rfl | (simp; done) | (simp [*]; done)), H', ⟨Nat.le_refl _⟩, ⟨by first | exact Kd.R_nil _ _ _ _ _ | exact Kd.N_nil _ _ _ _ _ | exact Kd.V_nil _ _ _ _ _ | exact Kd.Q_nil _ _ _ _ _ | exact Kd.S_nil _ _ _ _ _⟩, ⟨by (with_reducible repeat (first | refine blk_drewN ?_ _ | refine blk_drew ?_ | refine blk_alloc ?_ _)); refine blk_put (cs := #[.string (⟨#[]⟩ : ByteArray), .string (⟨#[]⟩ : ByteArray), .string (⟨#[]⟩ : ByteArray), .slice none 0 0, .bool false, .bool false, .slice none 0 0, .bool false, .slice none 0 0, .slice none 0 0, .slice none 0 0]) ?_ 10 _ rfl; (with_reducible repeat (first | refine blk_drewN ?_ _ | refine blk_drew ?_ | refine blk_alloc ?_ _)); refine blk_put (cs := #[.string (⟨#[]⟩ : ByteArray), .string (⟨#[]⟩ : ByteArray), .string (⟨#[]⟩ : ByteArray), .slice none 0 0, .bool false, .bool false, .slice none 0 0, .bool false, .slice none 0 0, .slice none 0 0, .slice none 0 0]) ?_ 9 _ rfl; (with_reducible repeat (first | refine blk_drewN ?_ _ | refine blk_drew ?_ | refine blk_alloc ?_ _)); refine blk_put (cs := #[.string (⟨#[]⟩ : ByteArray), .string (⟨#[]⟩ : ByteArray), .string (⟨#[]⟩ : ByteArray), .slice none 0 0, .bool false, .bool false, .slice none 0 0, .bool false, .slice none 0 0, .slice none 0 0, .slice none 0 0]) ?_ 8 _ rfl; (with_reducible repeat (first | refine blk_drewN ?_ _ | refine blk_drew ?_ | refine blk_alloc ?_ _)); refine blk_put (cs := #[.string (⟨#[]⟩ : ByteArray), .string (⟨#[]⟩ : ByteArray), .string (⟨#[]⟩ : ByteArray), .slice none 0 0, .bool false, .bool false, .slice none 0 0, .bool false, .slice none 0 0, .slice none 0 0, .slice none 0 0]) ?_ 7 _ rfl; (with_reducible repeat (first | refine blk_drewN ?_ _ | refine blk_drew ?_ | refine blk_alloc ?_ _)); refine blk_put (cs := #[.string (⟨#[]⟩ : ByteArray), .string (⟨#[]⟩ : ByteArray), .string (⟨#[]⟩ : ByteArray), .slice none 0 0, .bool false, .bool false, .slice none 0 0, .bool false, .slice none 0 0, .slice none 0 0, .slice none 0 0]) ?_ 6 _ rfl; (with_reducible repeat (first | refine blk_drewN ?_ _ | refine blk_drew ?_ | refine blk_alloc ?_ _)); refine blk_put (cs := #[.string (⟨#[]⟩ : ByteArray), .string (⟨#[]⟩ : ByteArray), .string (⟨#[]⟩ : ByteArray), .slice none 0 0, .bool false, .bool false, .slice none 0 0, .bool false, .slice none 0 0, .slice none 0 0, .slice none 0 0]) ?_ 5 _ rfl; (with_reducible repeat (first | refine blk_drewN ?_ _ | refine blk_drew ?_ | refine blk_alloc ?_ _)); refine blk_put (cs := #[.string (⟨#[]⟩ : ByteArray), .string (⟨#[]⟩ : ByteArray), .string (⟨#[]⟩ : ByteArray), .slice none 0 0, .bool false, .bool false, .slice none 0 0, .bool false, .slice none 0 0, .slice none 0 0, .slice none 0 0]) ?_ 4 _ rfl; (with_reducible repeat (first | refine blk_drewN ?_ _ | refine blk_drew ?_ | refine blk_alloc ?_ _)); refine blk_put (cs := #[.string (⟨#[]⟩ : ByteArray), .string (⟨#[]⟩ : ByteArray), .string (⟨#[]⟩ : ByteArray), .slice none 0 0, .bool false, .bool false, .slice none 0 0, .bool false, .slice none 0 0, .slice none 0 0, .slice none 0 0]) ?_ 3 _ rfl; (with_reducible repeat (first | refine blk_drewN ?_ _ | refine blk_drew ?_ | refine blk_alloc ?_ _)); refine blk_put (cs := #[.string (⟨#[]⟩ : ByteArray), .string (⟨#[]⟩ : ByteArray), .string (⟨#[]⟩ : ByteArray), .slice none 0 0, .bool false, .bool false, .slice none 0 0, .bool false, .slice none 0 0, .slice none 0 0, .slice none 0 0]) ?_ 2 _ rfl; (with_reducible repeat (first | refine blk_drewN ?_ _ | refine blk_drew ?_ | refine blk_alloc ?_ _)); refine blk_put (cs := #[.string (⟨#[]⟩ : ByteArray), .string (⟨#[]⟩ : ByteArray), .string (⟨#[]⟩ : ByteArray), .slice none 0 0, .bool false, .bool false, .slice none 0 0, .bool false, .slice none 0 0, .slice none 0 0, .slice none 0 0]) ?_ 1 _ rfl; (with_reducible repeat (first | refine blk_drewN ?_ _ | refine blk_drew ?_ | refine blk_alloc ?_ _)); refine blk_put (cs := #[.string (⟨#[]⟩ : ByteArray), .string (⟨#[]⟩ : ByteArray), .string (⟨#[]⟩ : ByteArray), .slice none 0 0, .bool false, .bool false, .slice none 0 0, .bool false, .slice none 0 0, .slice none 0 0, .slice none 0 0]) ?_ 0 _ rfl; (with_reducible repeat (first | refine blk_drewN ?_ _ | refine blk_drew ?_ | refine blk_alloc ?_ _)); exact BK244.out⟩, ⟨by repeat (first | (with_reducible first | exact HB.out | apply below_alloc | apply pw_below_drewN | apply below_drew1 | refine below_set ?_ GE244.out) | exact HB.out)⟩⟩
        case round =>
          clear H'
          try clear c1
          try clear p2
          try clear c5
          try clear c5b0
          try clear c6
          try clear c6b0
          try clear c7
          try clear c7b0
          try clear c8
          try clear c8b0
          try clear c9
          try clear c9b0
          try clear c10
          try clear hcz14_0
          try clear hcz14_1
          try clear hcz14_10
          try clear hcz14_2
          try clear hcz14_3
          try clear hcz14_4
          try clear hcz14_5
          try clear hcz14_6
          try clear hcz14_7
          try clear hcz14_8
          try clear hcz14_9
          try clear hfz14_0
          try clear hfz14_1
          try clear hfz14_10
          try clear hfz14_2
          try clear hfz14_3
          try clear hfz14_4
          try clear hfz14_5
          try clear hfz14_6
          try clear hfz14_7
          try clear hfz14_8
          try clear hfz14_9
          try clear p2
          obtain ⟨x8_2, x245006_2, u245006, rfl, HA, HK2, HO_245006, BK244, HB⟩ := hrel
          cases gk with
          | zero => exact absurd HA.out (by simp [fleuronlaw17_QuoteBack.l0])
          | succ k2 =>
            have H := HA.out
            clear HA
            simp only [fleuronlaw17_QuoteBack.l0] at H
            by_cases c15 : x8_2 < a2
            · rw [if_pos c15] at H
              have c15b0 : decide (x8_2 < a2) = true := decide_eq_true c15
              clear c15
              obtain ⟨y245, hy245⟩ : ∃ y_ : List Int, y_ = (([(wrap64 (97 + x8_2)) % 256] : List Int)) := ⟨_, rfl⟩
              replace H : ((some (([strOfNums y245, strOfNums y245] : List ByteArray) : List ByteArray)).bind fun y248 => (if x245006_2.length + y248.length < 8796093022208 then (fleuronlaw17_QuoteBack.l0 k2 a0 a1 a2 (wrap64 (x8_2 + 1)) (⟨#[]⟩ : ByteArray) (⟨#[]⟩ : ByteArray) (⟨#[]⟩ : ByteArray) false false (x245006_2 ++ y248) false) else (none))) = some r := by first | (rw [hy245]; with_reducible exact H) | (have H2_ := (Option.bind_some _ _).symm.trans H; rw [hy245]; with_reducible exact H2_) | (have H2_ := (Option.bind_some _ _).symm.trans H; with_reducible exact H2_) | with_reducible exact H | (rw [hy245]; exact H) | exact H
              have Ny245 := Aside0.mk hy245
              clear hy245
              obtain ⟨y248, hy248⟩ : ∃ y_ : List ByteArray, y_ = (([strOfNums y245, strOfNums y245] : List ByteArray)) := ⟨_, rfl⟩
              replace H : (if x245006_2.length + y248.length < 8796093022208 then (fleuronlaw17_QuoteBack.l0 k2 a0 a1 a2 (wrap64 (x8_2 + 1)) (⟨#[]⟩ : ByteArray) (⟨#[]⟩ : ByteArray) (⟨#[]⟩ : ByteArray) false false (x245006_2 ++ y248) false) else (none)) = some r := by first | (rw [hy248]; with_reducible exact H) | (have H2_ := (Option.bind_some _ _).symm.trans H; rw [hy248]; with_reducible exact H2_) | (have H2_ := (Option.bind_some _ _).symm.trans H; with_reducible exact H2_) | with_reducible exact H | (rw [hy248]; exact H) | exact H
              have Ny248 := Aside0.mk hy248
              clear hy248
              by_cases c16 : x245006_2.length + y248.length < 8796093022208
              · rw [if_pos c16] at H
                have LMc16 := Aside0.mk c16
                clear c16
                obtain ⟨y251, hy251⟩ : ∃ y_ : List ByteArray, y_ = (x245006_2 ++ y248) := ⟨_, rfl⟩
                replace H : (fleuronlaw17_QuoteBack.l0 k2 a0 a1 a2 (wrap64 (x8_2 + 1)) (⟨#[]⟩ : ByteArray) (⟨#[]⟩ : ByteArray) (⟨#[]⟩ : ByteArray) false false y251 false) = some r := by first | (rw [hy251]; with_reducible exact H) | (have H2_ := (Option.bind_some _ _).symm.trans H; rw [hy251]; with_reducible exact H2_) | (have H2_ := (Option.bind_some _ _).symm.trans H; with_reducible exact H2_) | with_reducible exact H | (rw [hy251]; exact H) | exact H
                have Ny251 := Aside0.mk hy251
                clear hy251
                have H' := Aside0.mk H
                clear H
                go_wp2_with (first | ((with_reducible refine gate_dst (N := 50) rfl ?_); refine Kd.R_lit (Kd.int .u8) _ 5 ?hg (N := 50) ?hd (xs := ([(wrap64 (97 + x8_2)) % 256] : List Int)) (inner := [.int .u8 ((wrap64 (97 + x8_2)) % 256)]) (ok := fun _ => True) (okp := fun _ => True) ?hr ?hp (fun _ hk => hk) trivial (Below.refl _ _) (Nat.le_refl _) (by simp) ?_; (case hd => rfl); (case hg => rfl); (case hr => first | (go_simp; done) | (go_simp; rfl)); (case hp => exact (Reps.one (show Kd.M (Kd.int .u8) _ _ _ ((wrap64 (97 + x8_2)) % 256) [.int .u8 ((wrap64 (97 + x8_2)) % 256)] from rfl) (Reps.none _ _))); intro v246 w17 ho18 hb hg_ hnew_; clear hg_ hnew_; (first | rw [← Ny245.out] at ho18 | (simp only [Int.reduceToNat] at ho18; rw [← Ny245.out] at ho18)); have n0_ := Aside0.mk (Kd.R_below (by (with_reducible repeat (first | apply Kd.R_alloc | apply Kd.R_drewN | apply Kd.R_drew)); exact HO_245006.out) hb); have n1_ := Aside0.mk (Kd.R_lower ho18 (below_size (by repeat (first | (with_reducible first | exact HB.out | apply below_alloc | apply pw_below_drewN | apply below_drew1 | refine below_set ?_ GE244.out) | exact HB.out)))); have n2_ := Aside0.mk (blk_below (g := gb244) (o := .cells #[.string (⟨#[]⟩ : ByteArray), .string (⟨#[]⟩ : ByteArray), .string (⟨#[]⟩ : ByteArray), .slice none 0 0, .bool false, .bool false, u245006, .bool false, .slice none 0 0, .slice none 0 0, .slice none 0 0] 26 (0, 0)) (by (with_reducible repeat (first | refine blk_drewN ?_ _ | refine blk_drew ?_ | refine blk_alloc ?_ _)); exact BK244.out) hb); have n3_ := Aside0.mk (below_step (by repeat (first | (with_reducible first | exact HB.out | apply below_alloc | apply pw_below_drewN | apply below_drew1 | refine below_set ?_ GE244.out) | exact HB.out)) hb); clear HO_245006; clear BK244; clear HB; have HO_245006 := n0_; have HO247 := n1_; have BK244 := n2_; have HB := n3_; clear n0_ n1_ n2_ n3_; clear hb ho18; have hcv19 := own_string (P := Try.prog) Try.underlying35 Try.underlying5 Try.underlying9 (Kd.own_of_R HO247.out); have hcz20_0 : w17.cell? ⟨gb244, 0, none⟩ = some (.string (⟨#[]⟩ : ByteArray)) := (blk_cell BK244.out 0).trans rfl; have hcz20_1 : w17.cell? ⟨gb244, 1, none⟩ = some (.string (⟨#[]⟩ : ByteArray)) := (blk_cell BK244.out 1).trans rfl; have hcz20_2 : w17.cell? ⟨gb244, 2, none⟩ = some (.string (⟨#[]⟩ : ByteArray)) := (blk_cell BK244.out 2).trans rfl; have hcz20_3 : w17.cell? ⟨gb244, 3, none⟩ = some (.slice none 0 0) := (blk_cell BK244.out 3).trans rfl; have hcz20_4 : w17.cell? ⟨gb244, 4, none⟩ = some (.bool false) := (blk_cell BK244.out 4).trans rfl; have hcz20_5 : w17.cell? ⟨gb244, 5, none⟩ = some (.bool false) := (blk_cell BK244.out 5).trans rfl; have hcz20_6 : w17.cell? ⟨gb244, 6, none⟩ = some (u245006) := (blk_cell BK244.out 6).trans rfl; have hcz20_7 : w17.cell? ⟨gb244, 7, none⟩ = some (.bool false) := (blk_cell BK244.out 7).trans rfl; have hcz20_8 : w17.cell? ⟨gb244, 8, none⟩ = some (.slice none 0 0) := (blk_cell BK244.out 8).trans rfl; have hcz20_9 : w17.cell? ⟨gb244, 9, none⟩ = some (.slice none 0 0) := (blk_cell BK244.out 9).trans rfl; have hcz20_10 : w17.cell? ⟨gb244, 10, none⟩ = some (.slice none 0 0) := (blk_cell BK244.out 10).trans rfl; have hfz20_0 := blk_frozen BK244.out 0; have hfz20_1 := blk_frozen BK244.out 1; have hfz20_2 := blk_frozen BK244.out 2; have hfz20_3 := blk_frozen BK244.out 3; have hfz20_4 := blk_frozen BK244.out 4; have hfz20_5 := blk_frozen BK244.out 5; have hfz20_6 := blk_frozen BK244.out 6; have hfz20_7 := blk_frozen BK244.out 7; have hfz20_8 := blk_frozen BK244.out 8; have hfz20_9 := blk_frozen BK244.out 9; have hfz20_10 := blk_frozen BK244.out 10) | ((with_reducible refine gate_dst (N := 56) rfl ?_); refine Kd.R_lit Kd.string _ 9 ?hg (N := 56) ?hd (xs := ([strOfNums y245, strOfNums y245] : List ByteArray)) (inner := [.string (strOfNums y245), .string (strOfNums y245)]) (ok := fun _ => True) (okp := fun _ => True) ?hr ?hp (fun _ hk => hk) trivial (Below.refl _ _) (Nat.le_refl _) (by simp) ?_; (case hd => rfl); (case hg => rfl); (case hr => first | (go_simp; done) | (go_simp; rfl)); (case hp => exact (Reps.one (show Kd.M Kd.string _ _ _ (strOfNums y245) [.string (strOfNums y245)] from rfl) (Reps.one (show Kd.M Kd.string _ _ _ (strOfNums y245) [.string (strOfNums y245)] from rfl) (Reps.none _ _)))); intro v249 w21 ho22 hb hg_ hnew_; clear hg_ hnew_; (first | rw [← Ny248.out] at ho22 | (simp only [Int.reduceToNat] at ho22; rw [← Ny248.out] at ho22)); have n0_ := Aside0.mk (Kd.R_elder' (by (with_reducible repeat (first | apply Kd.R_alloc | apply Kd.R_drewN | apply Kd.R_drew)); exact HO_245006.out) (Kd.R_base ho22) hb); have n1_ := Aside0.mk (Kd.R_below (by (with_reducible repeat (first | apply Kd.R_alloc | apply Kd.R_drewN | apply Kd.R_drew)); exact HO247.out) hb); have n2_ := Aside0.mk (Kd.R_lower (Kd.R_new' ho22 (Kd.R_lt (by (with_reducible repeat (first | apply Kd.R_alloc | apply Kd.R_drewN | apply Kd.R_drew)); exact HO_245006.out))) (below_size (by repeat (first | (with_reducible first | exact HB.out | apply below_alloc | apply pw_below_drewN | apply below_drew1 | refine below_set ?_ GE244.out) | exact HB.out)))); have n3_ := Aside0.mk (blk_below (g := gb244) (o := .cells #[.string (⟨#[]⟩ : ByteArray), .string (⟨#[]⟩ : ByteArray), .string (⟨#[]⟩ : ByteArray), .slice none 0 0, .bool false, .bool false, u245006, .bool false, .slice none 0 0, .slice none 0 0, .slice none 0 0] 26 (0, 0)) (by (with_reducible repeat (first | refine blk_drewN ?_ _ | refine blk_drew ?_ | refine blk_alloc ?_ _)); exact BK244.out) hb); have n4_ := Aside0.mk (below_step (by repeat (first | (with_reducible first | exact HB.out | apply below_alloc | apply pw_below_drewN | apply below_drew1 | refine below_set ?_ GE244.out) | exact HB.out)) hb); clear HO_245006; clear HO247; clear BK244; clear HB; have HO_245006 := n0_; have HO247 := n1_; have HO250 := n2_; have BK244 := n3_; have HB := n4_; clear n0_ n1_ n2_ n3_ n4_; clear hb ho22; obtain ⟨Ao24, co24, eo24⟩ := Kd.R_slice HO250.out; subst eo24) | ((with_reducible refine gate_builtin (b := .append) (xs := #[.tmp 53, .tmp 56]) rfl ?_); at_builtin; refine Kd.R_append_rows Kd.string (w0 := w) w.heap.size rfl (.tmp 53) (.tmp 56) 23 9 (.string ⟨#[]⟩) 16 rfl Try.underlying23 info9 rfl (by decide) (by omega) u245006 x245006_2 y248 _ _ _ (fun k_ => some k_ ≠ (.slice Ao24 y248.length co24 : Value).ownBlock) (fun _ => False) rfl rfl ?aO ?aR (fun _ _ h => h) (fun _ h => h.elim) ?aF ?aB ?aS ?aL ?_; (case aR => repeat (first | exact (Kd.R_reads' HO250.out).2.2 | (with_reducible refine Kd.C_alloc ?_ _) | (with_reducible refine Kd.C_drewN ?_ _) | (with_reducible refine Kd.C_drew ?_))); (case aB => exact (by repeat (first | (with_reducible first | exact HB.out | apply below_alloc | apply pw_below_drewN | apply below_drew1 | refine below_set ?_ GE244.out) | exact HB.out))); (case aF => exact (fun k_ hk => Kd.fresh' (Kd.R_lt (by (with_reducible repeat (first | apply Kd.R_alloc | apply Kd.R_drewN | apply Kd.R_drew)); exact HO250.out)) k_ hk)); (case aO => exact (by (with_reducible repeat (first | apply Kd.R_alloc | apply Kd.R_drewN | apply Kd.R_drew)); exact Kd.R_mono HO_245006.out (fun _ hk => hk.2))); (case aS => exact (below_size (by repeat (first | (with_reducible first | exact HB.out | apply below_alloc | apply pw_below_drewN | apply below_drew1 | refine below_set ?_ GE244.out) | exact HB.out)))); (case aL => have := LMc16.out; omega); intro v252 w23 ho hb hg hat; rw [← Ny251.out] at ho; have n0_ := Aside0.mk (blk_grown (g := gb244) (o := .cells #[.string (⟨#[]⟩ : ByteArray), .string (⟨#[]⟩ : ByteArray), .string (⟨#[]⟩ : ByteArray), .slice none 0 0, .bool false, .bool false, u245006, .bool false, .slice none 0 0, .slice none 0 0, .slice none 0 0] 26 (0, 0)) (by (with_reducible repeat (first | refine blk_drewN ?_ _ | refine blk_drew ?_ | refine blk_alloc ?_ _)); exact BK244.out) hg (Kd.R_ne HO_245006.out BK244.out (by decide))); have n1_ := Aside0.mk (Kd.R_over' (by (with_reducible repeat (first | apply Kd.R_alloc | apply Kd.R_drewN | apply Kd.R_drew)); exact HO247.out) (Kd.R_typed (by (with_reducible repeat (first | apply Kd.R_alloc | apply Kd.R_drewN | apply Kd.R_drew)); exact HO_245006.out)) (by decide) hg); have n2_ := Aside0.mk (Kd.R_after (ok := (fun _ => True)) (by (with_reducible repeat (first | apply Kd.R_alloc | apply Kd.R_drewN | apply Kd.R_drew)); exact HO250.out) hg hat); have n3_ := Aside0.mk (hb); have n4_ := Aside0.mk (ho); clear BK244; clear HO247; clear HO250; clear HB; clear HO_245006; have BK244 := n0_; have HO247 := n1_; have HO250 := n2_; have HB := n3_; have HO253 := n4_; clear n0_ n1_ n2_ n3_ n4_; clear ho hb hg hat; obtain ⟨Ao25, co25, eo25⟩ := Kd.R_slice HO253.out; subst eo25; have hcz26_0 : w23.cell? ⟨gb244, 0, none⟩ = some (.string (⟨#[]⟩ : ByteArray)) := (blk_cell BK244.out 0).trans rfl; have hcz26_1 : w23.cell? ⟨gb244, 1, none⟩ = some (.string (⟨#[]⟩ : ByteArray)) := (blk_cell BK244.out 1).trans rfl; have hcz26_2 : w23.cell? ⟨gb244, 2, none⟩ = some (.string (⟨#[]⟩ : ByteArray)) := (blk_cell BK244.out 2).trans rfl; have hcz26_3 : w23.cell? ⟨gb244, 3, none⟩ = some (.slice none 0 0) := (blk_cell BK244.out 3).trans rfl; have hcz26_4 : w23.cell? ⟨gb244, 4, none⟩ = some (.bool false) := (blk_cell BK244.out 4).trans rfl; have hcz26_5 : w23.cell? ⟨gb244, 5, none⟩ = some (.bool false) := (blk_cell BK244.out 5).trans rfl; have hcz26_6 : w23.cell? ⟨gb244, 6, none⟩ = some (u245006) := (blk_cell BK244.out 6).trans rfl; have hcz26_7 : w23.cell? ⟨gb244, 7, none⟩ = some (.bool false) := (blk_cell BK244.out 7).trans rfl; have hcz26_8 : w23.cell? ⟨gb244, 8, none⟩ = some (.slice none 0 0) := (blk_cell BK244.out 8).trans rfl; have hcz26_9 : w23.cell? ⟨gb244, 9, none⟩ = some (.slice none 0 0) := (blk_cell BK244.out 9).trans rfl; have hcz26_10 : w23.cell? ⟨gb244, 10, none⟩ = some (.slice none 0 0) := (blk_cell BK244.out 10).trans rfl; have hfz26_0 := blk_frozen BK244.out 0; have hfz26_1 := blk_frozen BK244.out 1; have hfz26_2 := blk_frozen BK244.out 2; have hfz26_3 := blk_frozen BK244.out 3; have hfz26_4 := blk_frozen BK244.out 4; have hfz26_5 := blk_frozen BK244.out 5; have hfz26_6 := blk_frozen BK244.out 6; have hfz26_7 := blk_frozen BK244.out 7; have hfz26_8 := blk_frozen BK244.out 8; have hfz26_9 := blk_frozen BK244.out 9; have hfz26_10 := blk_frozen BK244.out 10))
                go_roundg k2
                case measure => have := HJ3.out; have := HK2.out; omega
                case rel => exact ⟨(wrap64 (x8_2 + 1)), (y251), (.slice Ao25 y251.length co25), (by first | rfl | (simp; done) | (simp [*]; done)), H', ⟨by have := HJ3.out; have := HK2.out; omega⟩, ⟨by (with_reducible repeat (first | apply Kd.R_alloc | apply Kd.R_drewN | apply Kd.R_drew)); exact Kd.R_mono (Kd.R_far (p := ⟨gb244, 6, none⟩) (Kd.R_types HO253.out BK244.out (by decide)) (fun _ hk => hk.2) (.slice Ao25 y251.length co25)) (fun _ hk => trivial)⟩, ⟨by (with_reducible repeat (first | refine blk_drewN ?_ _ | refine blk_drew ?_ | refine blk_alloc ?_ _)); refine blk_put (cs := #[.string (⟨#[]⟩ : ByteArray), .string (⟨#[]⟩ : ByteArray), .string (⟨#[]⟩ : ByteArray), .slice none 0 0, .bool false, .bool false, u245006, .bool false, .slice none 0 0, .slice none 0 0, .slice none 0 0]) ?_ 6 _ rfl; (with_reducible repeat (first | refine blk_drewN ?_ _ | refine blk_drew ?_ | refine blk_alloc ?_ _)); exact BK244.out⟩, ⟨by repeat (first | (with_reducible first | exact HB.out | apply below_alloc | apply pw_below_drewN | apply below_drew1 | refine below_set ?_ GE244.out) | exact HB.out)⟩⟩
              · rw [if_neg c16] at H
                exact absurd H (by simp)
            · rw [if_neg c15] at H
              have c15b0 : decide (x8_2 < a2) = false := decide_eq_false c15
              clear c15
              have H' := Aside0.mk H
              clear H
              go_wp2
              go_loopg [10, 11, 12] k2 (fun kq v10 v11 v12 w' => ∃ (x10_3 : Int) (x11_3 : List ByteArray) (x12_3 : Int), v10 = .int .i64 x10_3 ∧ v12 = .int .i64 x12_3 ∧ Aside0 (fleuronlaw17_QuoteBack.l1 kq a0 a1 a2 x10_3 x11_3 x12_3 (⟨#[]⟩ : ByteArray) (⟨#[]⟩ : ByteArray) (⟨#[]⟩ : ByteArray) false false x245006_2 false = some r) ∧ Aside0 (kq ≤ k2) ∧ Aside0 (Kd.R Kd.string 9 w' w.heap.size (fun k_ => some k_ ≠ (u245006 : Value).ownBlock) v11 x11_3) ∧ Aside0 (Kd.R Kd.string 9 w' w.heap.size (fun k_ => some k_ ≠ (v11 : Value).ownBlock) u245006 x245006_2) ∧ Aside0 (w'.heap[gb244]? = some (.cells #[.string (⟨#[]⟩ : ByteArray), .string (⟨#[]⟩ : ByteArray), .string (⟨#[]⟩ : ByteArray), (.slice none 0 0), .bool false, .bool false, u245006, .bool false, (.slice none 0 0), (.slice none 0 0), (.slice none 0 0)] 26 (0, 0))) ∧ Aside0 (Below w.heap.size w w'))
              case atStart => exact ⟨(a1), (([] : List ByteArray)), (0), (by first | rfl | (simp; done) | (simp [*]; done)), (by first | rfl | (simp; done) | (simp [*]; done)), H', ⟨Nat.le_refl _⟩, ⟨by first | exact Kd.R_nil _ _ _ _ _ | exact Kd.N_nil _ _ _ _ _ | exact Kd.V_nil _ _ _ _ _ | exact Kd.Q_nil _ _ _ _ _ | exact Kd.S_nil _ _ _ _ _⟩, ⟨by (with_reducible repeat (first | apply Kd.R_alloc | apply Kd.R_drewN | apply Kd.R_drew)); exact Kd.R_mono HO_245006.out (fun _ hk => (by simp [Value.ownBlock]))⟩, ⟨by (with_reducible repeat (first | refine blk_drewN ?_ _ | refine blk_drew ?_ | refine blk_alloc ?_ _)); exact BK244.out⟩, ⟨by repeat (first | (with_reducible first | exact HB.out | apply below_alloc | apply pw_below_drewN | apply below_drew1 | refine below_set ?_ GE244.out) | exact HB.out)⟩⟩
              case round =>
                clear H'
                try clear c1
                try clear hcv1
                try clear p2
                try clear c5
                try clear c5b0
                try clear c6
                try clear c6b0
                try clear p6
                try clear c7
                try clear c7b0
                try clear c8
                try clear c8b0
                try clear c9
                try clear c9b0
                try clear c10
                try clear c15
                try clear c15b0
                try clear c16
                try clear hcv19
                try clear hcz14_0
                try clear hcz14_1
                try clear hcz14_10
                try clear hcz14_2
                try clear hcz14_3
                try clear hcz14_4
                try clear hcz14_5
                try clear hcz14_6
                try clear hcz14_7
                try clear hcz14_8
                try clear hcz14_9
                try clear hcz20_0
                try clear hcz20_1
                try clear hcz20_10
                try clear hcz20_2
                try clear hcz20_3
                try clear hcz20_4
                try clear hcz20_5
                try clear hcz20_6
                try clear hcz20_7
                try clear hcz20_8
                try clear hcz20_9
                try clear hcz26_0
                try clear hcz26_1
                try clear hcz26_10
                try clear hcz26_2
                try clear hcz26_3
                try clear hcz26_4
                try clear hcz26_5
                try clear hcz26_6
                try clear hcz26_7
                try clear hcz26_8
                try clear hcz26_9
                try clear hfz14_0
                try clear hfz14_1
                try clear hfz14_10
                try clear hfz14_2
                try clear hfz14_3
                try clear hfz14_4
                try clear hfz14_5
                try clear hfz14_6
                try clear hfz14_7
                try clear hfz14_8
                try clear hfz14_9
                try clear hfz20_0
                try clear hfz20_1
                try clear hfz20_10
                try clear hfz20_2
                try clear hfz20_3
                try clear hfz20_4
                try clear hfz20_5
                try clear hfz20_6
                try clear hfz20_7
                try clear hfz20_8
                try clear hfz20_9
                try clear hfz26_0
                try clear hfz26_1
                try clear hfz26_10
                try clear hfz26_2
                try clear hfz26_3
                try clear hfz26_4
                try clear hfz26_5
                try clear hfz26_6
                try clear hfz26_7
                try clear hfz26_8
                try clear hfz26_9
                try clear p2
                obtain ⟨x10_3, x11_3, x12_3, rfl, rfl, HA, HK3, HO_11, HO_245006, BK244, HB⟩ := hrel
                cases gk with
                | zero => exact absurd HA.out (by simp [fleuronlaw17_QuoteBack.l1])
                | succ k3 =>
                  have H := HA.out
                  clear HA
                  simp only [fleuronlaw17_QuoteBack.l1] at H
                  by_cases c27 : x12_3 < a0
                  · rw [if_pos c27] at H
                    have c27b0 : decide (x12_3 < a0) = true := decide_eq_true c27
                    clear c27
                    replace H := Option.bind_eq_some_iff.mp H
                    obtain ⟨⟨t254, t255⟩, A280, H⟩ := H
                    replace H : (if t255 = (wrap64 (x10_3 + 1)) then (if ((t254.toList == ([] : List UInt8)) != (a2 == 0)) = true then (some false) else (if x11_3.length < 8796093022208 then (fleuronlaw17_QuoteBack.l1 k3 a0 a1 a2 t255 (x11_3 ++ [t254]) (wrap64 (x12_3 + 1)) (⟨#[]⟩ : ByteArray) (⟨#[]⟩ : ByteArray) (⟨#[]⟩ : ByteArray) false false x245006_2 false) else (none))) else (some false)) = some r := H
                    have A28 := Aside0.mk A280
                    clear A280
                    by_cases c29 : t255 = (wrap64 (x10_3 + 1))
                    · rw [if_pos c29] at H
                      have c29b0 : (t255 == (wrap64 (x10_3 + 1))) = true := beq_iff_eq.mpr c29
                      have c29b1 : (t255 != (wrap64 (x10_3 + 1))) = false := bne_eq_false_iff_eq.mpr c29
                      clear c29
                      by_cases c30 : ((t254.toList == ([] : List UInt8)) != (a2 == 0)) = true
                      · rw [if_pos c30] at H
                        have c30b0 : ((t254.toList == ([] : List UInt8)) != (a2 == 0)) = true := c30
                        (try (have c30b1 : decide ((t254.toList == ([] : List UInt8)) = (a2 == 0)) = false := by simpa using c30))
                        (try (have c30b2 : ((t254.toList == ([] : List UInt8)) == (a2 == 0)) = false := by simpa using c30))
                        (try (have c30b3 : ¬ ((t254.toList == ([] : List UInt8)) = (a2 == 0)) := by simpa using c30))
                        (try (have c30b4 : (!(t254.toList.isEmpty == (a2 == 0))) = true := by have h_ := c30; rw [(show (t254.toList == ([] : List UInt8)) = t254.toList.isEmpty by cases t254.toList <;> rfl)] at h_; simpa using h_))
                        (try (have c30b5 : (t254.toList.isEmpty == (a2 == 0)) = false := by have h_ := c30; rw [(show (t254.toList == ([] : List UInt8)) = t254.toList.isEmpty by cases t254.toList <;> rfl)] at h_; simpa using h_))
                        clear c30
                        exact absurd (H.trans (congrArg some HTRUE.out)) (by simp)
                      · rw [if_neg c30] at H
                        have c30b0 : ((t254.toList == ([] : List UInt8)) != (a2 == 0)) = false := by simpa using c30
                        (try (have c30b1 : decide ((t254.toList == ([] : List UInt8)) = (a2 == 0)) = true := by simpa using c30))
                        (try (have c30b2 : ((t254.toList == ([] : List UInt8)) == (a2 == 0)) = true := by simpa using c30))
                        (try (have c30b3 : (!(t254.toList.isEmpty == (a2 == 0))) = false := by have h_ := c30; rw [(show (t254.toList == ([] : List UInt8)) = t254.toList.isEmpty by cases t254.toList <;> rfl)] at h_; simpa using h_))
                        (try (have c30b4 : (t254.toList.isEmpty == (a2 == 0)) = true := by have h_ := c30; rw [(show (t254.toList == ([] : List UInt8)) = t254.toList.isEmpty by cases t254.toList <;> rfl)] at h_; simpa using h_))
                        clear c30
                        by_cases c31 : x11_3.length < 8796093022208
                        · rw [if_pos c31] at H
                          have LMc31 := Aside0.mk c31
                          clear c31
                          obtain ⟨y256, hy256⟩ : ∃ y_ : List ByteArray, y_ = (x11_3 ++ [t254]) := ⟨_, rfl⟩
                          replace H : (fleuronlaw17_QuoteBack.l1 k3 a0 a1 a2 t255 y256 (wrap64 (x12_3 + 1)) (⟨#[]⟩ : ByteArray) (⟨#[]⟩ : ByteArray) (⟨#[]⟩ : ByteArray) false false x245006_2 false) = some r := by first | (rw [hy256]; with_reducible exact H) | (have H2_ := (Option.bind_some _ _).symm.trans H; rw [hy256]; with_reducible exact H2_) | (have H2_ := (Option.bind_some _ _).symm.trans H; with_reducible exact H2_) | with_reducible exact H | (rw [hy256]; exact H) | exact H
                          have Ny256 := Aside0.mk hy256
                          clear hy256
                          have H' := Aside0.mk H
                          clear H
                          have hcz32_0 : wr.cell? ⟨gb244, 0, none⟩ = some (.string (⟨#[]⟩ : ByteArray)) := (blk_cell BK244.out 0).trans rfl
                          have hcz32_1 : wr.cell? ⟨gb244, 1, none⟩ = some (.string (⟨#[]⟩ : ByteArray)) := (blk_cell BK244.out 1).trans rfl
                          have hcz32_2 : wr.cell? ⟨gb244, 2, none⟩ = some (.string (⟨#[]⟩ : ByteArray)) := (blk_cell BK244.out 2).trans rfl
                          have hcz32_3 : wr.cell? ⟨gb244, 3, none⟩ = some (.slice none 0 0) := (blk_cell BK244.out 3).trans rfl
                          have hcz32_4 : wr.cell? ⟨gb244, 4, none⟩ = some (.bool false) := (blk_cell BK244.out 4).trans rfl
                          have hcz32_5 : wr.cell? ⟨gb244, 5, none⟩ = some (.bool false) := (blk_cell BK244.out 5).trans rfl
                          have hcz32_6 : wr.cell? ⟨gb244, 6, none⟩ = some (u245006) := (blk_cell BK244.out 6).trans rfl
                          have hcz32_7 : wr.cell? ⟨gb244, 7, none⟩ = some (.bool false) := (blk_cell BK244.out 7).trans rfl
                          have hcz32_8 : wr.cell? ⟨gb244, 8, none⟩ = some (.slice none 0 0) := (blk_cell BK244.out 8).trans rfl
                          have hcz32_9 : wr.cell? ⟨gb244, 9, none⟩ = some (.slice none 0 0) := (blk_cell BK244.out 9).trans rfl
                          have hcz32_10 : wr.cell? ⟨gb244, 10, none⟩ = some (.slice none 0 0) := (blk_cell BK244.out 10).trans rfl
                          have hfz32_0 := blk_frozen BK244.out 0
                          have hfz32_1 := blk_frozen BK244.out 1
                          have hfz32_2 := blk_frozen BK244.out 2
                          have hfz32_3 := blk_frozen BK244.out 3
                          have hfz32_4 := blk_frozen BK244.out 4
                          have hfz32_5 := blk_frozen BK244.out 5
                          have hfz32_6 := blk_frozen BK244.out 6
                          have hfz32_7 := blk_frozen BK244.out 7
                          have hfz32_8 := blk_frozen BK244.out 8
                          have hfz32_9 := blk_frozen BK244.out 9
                          have hfz32_10 := blk_frozen BK244.out 10
                          obtain ⟨Ao33, co33, eo33⟩ := Kd.R_slice HO_245006.out
                          subst eo33
                          go_wp2_with (first | ((with_reducible refine gate_callee (f := 9) rfl ?_); refine goesL_ (some 68) rfl rfl Try.func9 (by kernel_rfl) rfl #[.agg #[.string (⟨#[]⟩ : ByteArray), .string (⟨#[]⟩ : ByteArray), .string (⟨#[]⟩ : ByteArray), .slice none 0 0, .bool false, .bool false, .slice Ao33 x245006_2.length co33, .bool false, .slice none 0 0, .slice none 0 0, .slice none 0 0], .int .i64 x10_3, .int .i64 5] rfl (by (try simp only [List.map_toArray, List.map_cons, List.map_nil]); first | done | rfl | (simp only [List.length_drop, List.length_take]; rfl)) ?_; (refine (quote_Do.calls k3 (⟨#[]⟩ : ByteArray) (⟨#[]⟩ : ByteArray) (⟨#[]⟩ : ByteArray) _ _ ([] : List (S43)) false false _ _ x245006_2 false _ _ ([] : List (S47)) _ _ ([] : List (S47)) _ _ ([] : List (S47)) x10_3 5 t254 t255 _ ?side1 ?side2 ?side3 ?side4 ?side5 ?side6 ?side7 ?side8 ?side9 ?side10 A28.out).mono ?_); (case side1 => exact Kd.C_nil _ _); (case side2 => exact Nat.le_refl _); (case side3 => repeat (first | exact (Kd.R_reads' HO_245006.out).2.2 | (with_reducible refine Kd.C_alloc ?_ _) | (with_reducible refine Kd.C_drewN ?_ _) | (with_reducible refine Kd.C_drew ?_))); (case side4 => exact (Kd.R_reads' HO_245006.out).2.1); (case side5 => exact Kd.C_nil _ _); (case side6 => exact Nat.le_refl _); (case side7 => exact Kd.C_nil _ _); (case side8 => exact Nat.le_refl _); (case side9 => exact Kd.C_nil _ _); (case side10 => exact Nat.le_refl _); rintro e w34 ⟨rfl, hb⟩; refine ⟨_, rfl, ?_⟩; have n0_ := Aside0.mk (Kd.R_below (by (with_reducible repeat (first | apply Kd.R_alloc | apply Kd.R_drewN | apply Kd.R_drew)); exact HO_11.out) hb); have n1_ := Aside0.mk (Kd.R_below (by (with_reducible repeat (first | apply Kd.R_alloc | apply Kd.R_drewN | apply Kd.R_drew)); exact HO_245006.out) hb); have n2_ := Aside0.mk (blk_below (g := gb244) (o := .cells #[.string (⟨#[]⟩ : ByteArray), .string (⟨#[]⟩ : ByteArray), .string (⟨#[]⟩ : ByteArray), .slice none 0 0, .bool false, .bool false, .slice Ao33 x245006_2.length co33, .bool false, .slice none 0 0, .slice none 0 0, .slice none 0 0] 26 (0, 0)) (by (with_reducible repeat (first | refine blk_drewN ?_ _ | refine blk_drew ?_ | refine blk_alloc ?_ _)); exact BK244.out) hb); have n3_ := Aside0.mk (below_step (by repeat (first | (with_reducible first | exact HB.out | apply below_alloc | apply pw_below_drewN | apply below_drew1 | refine below_set ?_ GE244.out) | exact HB.out)) hb); clear HO_11; clear HO_245006; clear BK244; clear HB; have HO_11 := n0_; have HO_245006 := n1_; have BK244 := n2_; have HB := n3_; clear n0_ n1_ n2_ n3_; (try clear hb); (try clear hb2); (try clear hk); (try clear hi)) | ((with_reducible refine gate_builtin (b := .append) (xs := #[.tmp 83, .tmp 85]) rfl ?_); at_builtin; refine Kd.R_append Kd.string (w0 := w) w.heap.size rfl (.tmp 83) (.tmp 85) 23 9 (.string ⟨#[]⟩) 16 rfl Try.underlying23 info9 rfl (by decide) (by omega) u11 x11_3 t254 [.string t254] (fun k_ => some k_ ≠ (.slice Ao33 x245006_2.length co33 : Value).ownBlock) (fun _ => False) rfl rfl ?aP (fun _ hk => hk.elim) ?aF ?aO ?aB ?aS ?aL ?_; (case aP => exact rfl); (case aB => exact (by repeat (first | (with_reducible first | exact HB.out | apply below_alloc | apply pw_below_drewN | apply below_drew1 | refine below_set ?_ GE244.out) | exact HB.out))); (case aF => exact (fun k_ hk => Kd.fresh' (Kd.R_lt (by (with_reducible repeat (first | apply Kd.R_alloc | apply Kd.R_drewN | apply Kd.R_drew)); exact HO_245006.out)) k_ hk)); (case aO => exact (by (with_reducible repeat (first | apply Kd.R_alloc | apply Kd.R_drewN | apply Kd.R_drew)); exact HO_11.out)); (case aS => exact (below_size (by repeat (first | (with_reducible first | exact HB.out | apply below_alloc | apply pw_below_drewN | apply below_drew1 | refine below_set ?_ GE244.out) | exact HB.out)))); (case aL => have := LMc31.out; omega); intro v257 w35 ho hb hg hat; rw [← Ny256.out] at ho; have n0_ := Aside0.mk (Kd.R_after (ok := (fun _ => True)) (by (with_reducible repeat (first | apply Kd.R_alloc | apply Kd.R_drewN | apply Kd.R_drew)); exact Kd.R_mono HO_245006.out (fun _ hk => ⟨trivial, hk⟩)) hg hat); have n1_ := Aside0.mk (blk_grown (g := gb244) (o := .cells #[.string (⟨#[]⟩ : ByteArray), .string (⟨#[]⟩ : ByteArray), .string (⟨#[]⟩ : ByteArray), .slice none 0 0, .bool false, .bool false, .slice Ao33 x245006_2.length co33, .bool false, .slice none 0 0, .slice none 0 0, .slice none 0 0] 26 (0, 0)) (by (with_reducible repeat (first | refine blk_drewN ?_ _ | refine blk_drew ?_ | refine blk_alloc ?_ _)); exact BK244.out) hg (Kd.R_ne HO_11.out BK244.out (by decide))); have n2_ := Aside0.mk (hb); have n3_ := Aside0.mk (ho); clear HO_245006; clear BK244; clear HB; clear HO_11; have HO_245006 := n0_; have BK244 := n1_; have HB := n2_; have HO258 := n3_; clear n0_ n1_ n2_ n3_; clear ho hb hg hat))
                          go_roundg k3
                          case measure => have := HJ3.out; have := HK2.out; have := HK3.out; omega
                          case rel => exact ⟨(t255), (y256), (wrap64 (x12_3 + 1)), (by first | rfl | (simp; done) | (simp [*]; done)), (by first | rfl | (simp; done) | (simp [*]; done)), H', ⟨by have := HJ3.out; have := HK2.out; have := HK3.out; omega⟩, ⟨by (with_reducible repeat (first | apply Kd.R_alloc | apply Kd.R_drewN | apply Kd.R_drew)); exact HO258.out⟩, ⟨by (with_reducible repeat (first | apply Kd.R_alloc | apply Kd.R_drewN | apply Kd.R_drew)); exact Kd.R_mono HO_245006.out (fun _ hk => hk.2)⟩, ⟨by (with_reducible repeat (first | refine blk_drewN ?_ _ | refine blk_drew ?_ | refine blk_alloc ?_ _)); exact BK244.out⟩, ⟨by repeat (first | (with_reducible first | exact HB.out | apply below_alloc | apply pw_below_drewN | apply below_drew1 | refine below_set ?_ GE244.out) | exact HB.out)⟩⟩
                        · rw [if_neg c31] at H
                          exact absurd H (by simp)
                    · rw [if_neg c29] at H
                      have c29b0 : (t255 == (wrap64 (x10_3 + 1))) = false := beq_eq_false_iff_ne.mpr c29
                      have c29b1 : (t255 != (wrap64 (x10_3 + 1))) = true := bne_iff_ne.mpr c29
                      exact absurd (H.trans (congrArg some HTRUE.out)) (by simp)
                  · rw [if_neg c27] at H
                    have c27b0 : decide (x12_3 < a0) = false := decide_eq_false c27
                    clear c27
                    have H' := Aside0.mk H
                    clear H
                    go_wp2
                    go_loopg [10, 15] k3 (fun kq v10 v15 w' => ∃ (x10_4 : Int) (x15_4 : Int), v10 = .int .i64 x10_4 ∧ v15 = .int .i64 x15_4 ∧ Aside0 (fleuronlaw17_QuoteBack.l2 kq a1 x10_4 x11_3 x15_4 (⟨#[]⟩ : ByteArray) (⟨#[]⟩ : ByteArray) (⟨#[]⟩ : ByteArray) false false x245006_2 false = some r) ∧ Aside0 (kq ≤ k3) ∧ Aside0 (Kd.R Kd.string 9 w' w.heap.size (fun k_ => some k_ ≠ (u245006 : Value).ownBlock) u11 x11_3) ∧ Aside0 (Kd.R Kd.string 9 w' w.heap.size (fun k_ => some k_ ≠ (u11 : Value).ownBlock) u245006 x245006_2) ∧ Aside0 (w'.heap[gb244]? = some (.cells #[.string (⟨#[]⟩ : ByteArray), .string (⟨#[]⟩ : ByteArray), .string (⟨#[]⟩ : ByteArray), (.slice none 0 0), .bool false, .bool false, u245006, .bool false, (.slice none 0 0), (.slice none 0 0), (.slice none 0 0)] 26 (0, 0))) ∧ Aside0 (Below w.heap.size w w'))
                    case atStart => exact ⟨(x10_3), (wrap64 (a0 - 1)), (by first | rfl | (simp; done) | (simp [*]; done)), (by first | rfl | (simp; done) | (simp [*]; done)), H', ⟨Nat.le_refl _⟩, ⟨by (with_reducible repeat (first | apply Kd.R_alloc | apply Kd.R_drewN | apply Kd.R_drew)); exact HO_11.out⟩, ⟨by (with_reducible repeat (first | apply Kd.R_alloc | apply Kd.R_drewN | apply Kd.R_drew)); exact HO_245006.out⟩, ⟨by (with_reducible repeat (first | refine blk_drewN ?_ _ | refine blk_drew ?_ | refine blk_alloc ?_ _)); exact BK244.out⟩, ⟨by repeat (first | (with_reducible first | exact HB.out | apply below_alloc | apply pw_below_drewN | apply below_drew1 | refine below_set ?_ GE244.out) | exact HB.out)⟩⟩
                    case round =>
                      clear H'
                      try clear c1
                      try clear hcv1
                      try clear c2
                      try clear p2
                      try clear c3
                      try clear c5
                      try clear c5b0
                      try clear c6
                      try clear c6b0
                      try clear p6
                      try clear c7
                      try clear c7b0
                      try clear c8
                      try clear c8b0
                      try clear c9
                      try clear c9b0
                      try clear c10
                      try clear c15
                      try clear c15b0
                      try clear c16
                      try clear hcv19
                      try clear c27
                      try clear c27b0
                      try clear c29
                      try clear c29b0
                      try clear c29b1
                      try clear c30
                      try clear c30b0
                      try clear c30b1
                      try clear c30b2
                      try clear c31
                      try clear hcz14_0
                      try clear hcz14_1
                      try clear hcz14_10
                      try clear hcz14_2
                      try clear hcz14_3
                      try clear hcz14_4
                      try clear hcz14_5
                      try clear hcz14_6
                      try clear hcz14_7
                      try clear hcz14_8
                      try clear hcz14_9
                      try clear hcz20_0
                      try clear hcz20_1
                      try clear hcz20_10
                      try clear hcz20_2
                      try clear hcz20_3
                      try clear hcz20_4
                      try clear hcz20_5
                      try clear hcz20_6
                      try clear hcz20_7
                      try clear hcz20_8
                      try clear hcz20_9
                      try clear hcz26_0
                      try clear hcz26_1
                      try clear hcz26_10
                      try clear hcz26_2
                      try clear hcz26_3
                      try clear hcz26_4
                      try clear hcz26_5
                      try clear hcz26_6
                      try clear hcz26_7
                      try clear hcz26_8
                      try clear hcz26_9
                      try clear hcz32_0
                      try clear hcz32_1
                      try clear hcz32_10
                      try clear hcz32_2
                      try clear hcz32_3
                      try clear hcz32_4
                      try clear hcz32_5
                      try clear hcz32_6
                      try clear hcz32_7
                      try clear hcz32_8
                      try clear hcz32_9
                      try clear hfz14_0
                      try clear hfz14_1
                      try clear hfz14_10
                      try clear hfz14_2
                      try clear hfz14_3
                      try clear hfz14_4
                      try clear hfz14_5
                      try clear hfz14_6
                      try clear hfz14_7
                      try clear hfz14_8
                      try clear hfz14_9
                      try clear hfz20_0
                      try clear hfz20_1
                      try clear hfz20_10
                      try clear hfz20_2
                      try clear hfz20_3
                      try clear hfz20_4
                      try clear hfz20_5
                      try clear hfz20_6
                      try clear hfz20_7
                      try clear hfz20_8
                      try clear hfz20_9
                      try clear hfz26_0
                      try clear hfz26_1
                      try clear hfz26_10
                      try clear hfz26_2
                      try clear hfz26_3
                      try clear hfz26_4
                      try clear hfz26_5
                      try clear hfz26_6
                      try clear hfz26_7
                      try clear hfz26_8
                      try clear hfz26_9
                      try clear hfz32_0
                      try clear hfz32_1
                      try clear hfz32_10
                      try clear hfz32_2
                      try clear hfz32_3
                      try clear hfz32_4
                      try clear hfz32_5
                      try clear hfz32_6
                      try clear hfz32_7
                      try clear hfz32_8
                      try clear hfz32_9
                      try clear p2
                      try clear p6
                      obtain ⟨x10_4, x15_4, rfl, rfl, HA, HK4, HO_11, HO_245006, BK244, HB⟩ := hrel
                      cases gk with
                      | zero => exact absurd HA.out (by simp [fleuronlaw17_QuoteBack.l2])
                      | succ k4 =>
                        have H := HA.out
                        clear HA
                        simp only [fleuronlaw17_QuoteBack.l2] at H
                        by_cases c36 : x15_4 ≥ 0
                        · rw [if_pos c36] at H
                          have c36b0 : decide (0 ≤ x15_4) = true := decide_eq_true c36
                          clear c36
                          replace H := Option.bind_eq_some_iff.mp H
                          obtain ⟨⟨t259, t260⟩, A370, H⟩ := H
                          replace H : (if t260 = (wrap64 (x10_4 - 1)) then (if 0 ≤ x15_4 then (if x15_4 < (x11_3.length : Int) then (if t259.toList = (rdOf ByteArray.empty x11_3 x15_4).toList then (fleuronlaw17_QuoteBack.l2 k4 a1 t260 x11_3 (wrap64 (x15_4 - 1)) (⟨#[]⟩ : ByteArray) (⟨#[]⟩ : ByteArray) (⟨#[]⟩ : ByteArray) false false x245006_2 false) else (some false)) else (none)) else (none)) else (some false)) = some r := H
                          have A37 := Aside0.mk A370
                          clear A370
                          by_cases c38 : t260 = (wrap64 (x10_4 - 1))
                          · rw [if_pos c38] at H
                            have c38b0 : (t260 == (wrap64 (x10_4 - 1))) = true := beq_iff_eq.mpr c38
                            have c38b1 : (t260 != (wrap64 (x10_4 - 1))) = false := bne_eq_false_iff_eq.mpr c38
                            clear c38
                            by_cases c39 : 0 ≤ x15_4
                            · rw [if_pos c39] at H
                              have c39b0 : decide (0 ≤ x15_4) = true := decide_eq_true c39
                              clear c39
                              by_cases c40 : x15_4 < (x11_3.length : Int)
                              · rw [if_pos c40] at H
                                have c40b0 : decide (x15_4 < (x11_3.length : Int)) = true := decide_eq_true c40
                                clear c40
                                by_cases c41 : t259.toList = (rdOf ByteArray.empty x11_3 x15_4).toList
                                · rw [if_pos c41] at H
                                  have c41b0 : (t259.toList == (rdOf ByteArray.empty x11_3 x15_4).toList) = true := beq_iff_eq.mpr c41
                                  have c41b1 : (t259.toList != (rdOf ByteArray.empty x11_3 x15_4).toList) = false := bne_eq_false_iff_eq.mpr c41
                                  clear c41
                                  have H' := Aside0.mk H
                                  clear H
                                  have hcz42_0 : wr.cell? ⟨gb244, 0, none⟩ = some (.string (⟨#[]⟩ : ByteArray)) := (blk_cell BK244.out 0).trans rfl
                                  have hcz42_1 : wr.cell? ⟨gb244, 1, none⟩ = some (.string (⟨#[]⟩ : ByteArray)) := (blk_cell BK244.out 1).trans rfl
                                  have hcz42_2 : wr.cell? ⟨gb244, 2, none⟩ = some (.string (⟨#[]⟩ : ByteArray)) := (blk_cell BK244.out 2).trans rfl
                                  have hcz42_3 : wr.cell? ⟨gb244, 3, none⟩ = some (.slice none 0 0) := (blk_cell BK244.out 3).trans rfl
                                  have hcz42_4 : wr.cell? ⟨gb244, 4, none⟩ = some (.bool false) := (blk_cell BK244.out 4).trans rfl
                                  have hcz42_5 : wr.cell? ⟨gb244, 5, none⟩ = some (.bool false) := (blk_cell BK244.out 5).trans rfl
                                  have hcz42_6 : wr.cell? ⟨gb244, 6, none⟩ = some (u245006) := (blk_cell BK244.out 6).trans rfl
                                  have hcz42_7 : wr.cell? ⟨gb244, 7, none⟩ = some (.bool false) := (blk_cell BK244.out 7).trans rfl
                                  have hcz42_8 : wr.cell? ⟨gb244, 8, none⟩ = some (.slice none 0 0) := (blk_cell BK244.out 8).trans rfl
                                  have hcz42_9 : wr.cell? ⟨gb244, 9, none⟩ = some (.slice none 0 0) := (blk_cell BK244.out 9).trans rfl
                                  have hcz42_10 : wr.cell? ⟨gb244, 10, none⟩ = some (.slice none 0 0) := (blk_cell BK244.out 10).trans rfl
                                  have hfz42_0 := blk_frozen BK244.out 0
                                  have hfz42_1 := blk_frozen BK244.out 1
                                  have hfz42_2 := blk_frozen BK244.out 2
                                  have hfz42_3 := blk_frozen BK244.out 3
                                  have hfz42_4 := blk_frozen BK244.out 4
                                  have hfz42_5 := blk_frozen BK244.out 5
                                  have hfz42_6 := blk_frozen BK244.out 6
                                  have hfz42_7 := blk_frozen BK244.out 7
                                  have hfz42_8 := blk_frozen BK244.out 8
                                  have hfz42_9 := blk_frozen BK244.out 9
                                  have hfz42_10 := blk_frozen BK244.out 10
                                  obtain ⟨Ao43, co43, eo43⟩ := Kd.R_slice HO_245006.out
                                  subst eo43
                                  go_wp2_with (first | ((with_reducible refine gate_callee (f := 9) rfl ?_); refine goesL_ (some 96) rfl rfl Try.func9 (by kernel_rfl) rfl #[.agg #[.string (⟨#[]⟩ : ByteArray), .string (⟨#[]⟩ : ByteArray), .string (⟨#[]⟩ : ByteArray), .slice none 0 0, .bool false, .bool false, .slice Ao43 x245006_2.length co43, .bool false, .slice none 0 0, .slice none 0 0, .slice none 0 0], .int .i64 x10_4, .int .i64 6] rfl (by (try simp only [List.map_toArray, List.map_cons, List.map_nil]); first | done | rfl | (simp only [List.length_drop, List.length_take]; rfl)) ?_; (refine (quote_Do.calls k4 (⟨#[]⟩ : ByteArray) (⟨#[]⟩ : ByteArray) (⟨#[]⟩ : ByteArray) _ _ ([] : List (S43)) false false _ _ x245006_2 false _ _ ([] : List (S47)) _ _ ([] : List (S47)) _ _ ([] : List (S47)) x10_4 6 t259 t260 _ ?side1 ?side2 ?side3 ?side4 ?side5 ?side6 ?side7 ?side8 ?side9 ?side10 A37.out).mono ?_); (case side1 => exact Kd.C_nil _ _); (case side2 => exact Nat.le_refl _); (case side3 => repeat (first | exact (Kd.R_reads' HO_245006.out).2.2 | (with_reducible refine Kd.C_alloc ?_ _) | (with_reducible refine Kd.C_drewN ?_ _) | (with_reducible refine Kd.C_drew ?_))); (case side4 => exact (Kd.R_reads' HO_245006.out).2.1); (case side5 => exact Kd.C_nil _ _); (case side6 => exact Nat.le_refl _); (case side7 => exact Kd.C_nil _ _); (case side8 => exact Nat.le_refl _); (case side9 => exact Kd.C_nil _ _); (case side10 => exact Nat.le_refl _); rintro e w44 ⟨rfl, hb⟩; refine ⟨_, rfl, ?_⟩; have n0_ := Aside0.mk (Kd.R_below (by (with_reducible repeat (first | apply Kd.R_alloc | apply Kd.R_drewN | apply Kd.R_drew)); exact HO_11.out) hb); have n1_ := Aside0.mk (Kd.R_below (by (with_reducible repeat (first | apply Kd.R_alloc | apply Kd.R_drewN | apply Kd.R_drew)); exact HO_245006.out) hb); have n2_ := Aside0.mk (blk_below (g := gb244) (o := .cells #[.string (⟨#[]⟩ : ByteArray), .string (⟨#[]⟩ : ByteArray), .string (⟨#[]⟩ : ByteArray), .slice none 0 0, .bool false, .bool false, .slice Ao43 x245006_2.length co43, .bool false, .slice none 0 0, .slice none 0 0, .slice none 0 0] 26 (0, 0)) (by (with_reducible repeat (first | refine blk_drewN ?_ _ | refine blk_drew ?_ | refine blk_alloc ?_ _)); exact BK244.out) hb); have n3_ := Aside0.mk (below_step (by repeat (first | (with_reducible first | exact HB.out | apply below_alloc | apply pw_below_drewN | apply below_drew1 | refine below_set ?_ GE244.out) | exact HB.out)) hb); clear HO_11; clear HO_245006; clear BK244; clear HB; have HO_11 := n0_; have HO_245006 := n1_; have BK244 := n2_; have HB := n3_; clear n0_ n1_ n2_ n3_; (try clear hb); (try clear hb2); (try clear hk); (try clear hi); obtain ⟨Ao45, co45, eo45⟩ := Kd.R_slice HO_11.out; subst eo45; have p261 : 0 ≤ (x15_4 : Int) := of_decide_eq_true (by first | (with_reducible assumption) | assumption); have q261 : x15_4 < (x11_3.length : Int) := of_decide_eq_true (by first | (with_reducible assumption) | assumption); obtain ⟨ad261, e261, hx261_0⟩ := Kd.at_string (Kd.R_reads' HO_11.out).2.2 x15_4 p261 q261; cases e261; replace p261 := eq_true p261; replace q261 := eq_true q261))
                                  go_roundg k4
                                  case measure => have := HJ3.out; have := HK2.out; have := HK3.out; have := HK4.out; omega
                                  case rel => exact ⟨(t260), (wrap64 (x15_4 - 1)), (by first | rfl | (simp; done) | (simp [*]; done)), (by first | rfl | (simp; done) | (simp [*]; done)), H', ⟨by have := HJ3.out; have := HK2.out; have := HK3.out; have := HK4.out; omega⟩, ⟨by (with_reducible repeat (first | apply Kd.R_alloc | apply Kd.R_drewN | apply Kd.R_drew)); exact HO_11.out⟩, ⟨by (with_reducible repeat (first | apply Kd.R_alloc | apply Kd.R_drewN | apply Kd.R_drew)); exact HO_245006.out⟩, ⟨by (with_reducible repeat (first | refine blk_drewN ?_ _ | refine blk_drew ?_ | refine blk_alloc ?_ _)); exact BK244.out⟩, ⟨by repeat (first | (with_reducible first | exact HB.out | apply below_alloc | apply pw_below_drewN | apply below_drew1 | refine below_set ?_ GE244.out) | exact HB.out)⟩⟩
                                · rw [if_neg c41] at H
                                  have c41b0 : (t259.toList == (rdOf ByteArray.empty x11_3 x15_4).toList) = false := beq_eq_false_iff_ne.mpr c41
                                  have c41b1 : (t259.toList != (rdOf ByteArray.empty x11_3 x15_4).toList) = true := bne_iff_ne.mpr c41
                                  exact absurd (H.trans (congrArg some HTRUE.out)) (by simp)
                              · rw [if_neg c40] at H
                                exact absurd H (by simp)
                            · rw [if_neg c39] at H
                              exact absurd H (by simp)
                          · rw [if_neg c38] at H
                            have c38b0 : (t260 == (wrap64 (x10_4 - 1))) = false := beq_eq_false_iff_ne.mpr c38
                            have c38b1 : (t260 != (wrap64 (x10_4 - 1))) = true := bne_iff_ne.mpr c38
                            exact absurd (H.trans (congrArg some HTRUE.out)) (by simp)
                        · rw [if_neg c36] at H
                          have c36b0 : decide (0 ≤ x15_4) = false := decide_eq_false c36
                          clear c36
                          by_cases c46 : x10_4 = a1
                          · rw [if_pos c46] at H
                            have c46b0 : (x10_4 == a1) = true := beq_iff_eq.mpr c46
                            have c46b1 : (x10_4 != a1) = false := bne_eq_false_iff_eq.mpr c46
                            clear c46
                            replace H := Option.bind_eq_some_iff.mp H
                            obtain ⟨t262, A470, H⟩ := H
                            replace H : (some t262) = some r := H
                            have A47 := Aside0.mk A470
                            clear A470
                            obtain rfl := Option.some.inj H
                            go_wp2_with (first | (go_at_call 8; (with_reducible refine (fleuronlaw17_awake.calls  t262 _ A47.out).mono ?_); rintro e w48 ⟨rfl, hb⟩; have n0_ := Aside0.mk (Kd.R_below (by (with_reducible repeat (first | apply Kd.R_alloc | apply Kd.R_drewN | apply Kd.R_drew)); exact HO_11.out) hb); have n1_ := Aside0.mk (Kd.R_below (by (with_reducible repeat (first | apply Kd.R_alloc | apply Kd.R_drewN | apply Kd.R_drew)); exact HO_245006.out) hb); have n2_ := Aside0.mk (blk_below (g := gb244) (o := .cells #[.string (⟨#[]⟩ : ByteArray), .string (⟨#[]⟩ : ByteArray), .string (⟨#[]⟩ : ByteArray), .slice none 0 0, .bool false, .bool false, u245006, .bool false, .slice none 0 0, .slice none 0 0, .slice none 0 0] 26 (0, 0)) (by (with_reducible repeat (first | refine blk_drewN ?_ _ | refine blk_drew ?_ | refine blk_alloc ?_ _)); exact BK244.out) hb); have n3_ := Aside0.mk (below_step (by repeat (first | (with_reducible first | exact HB.out | apply below_alloc | apply pw_below_drewN | apply below_drew1 | refine below_set ?_ GE244.out) | exact HB.out)) hb); clear HO_11; clear HO_245006; clear BK244; clear HB; have HO_11 := n0_; have HO_245006 := n1_; have BK244 := n2_; have HB := n3_; clear n0_ n1_ n2_ n3_; (try clear hb); (try clear hb2); (try clear hk); (try clear hi)))
                            go_ret
                            exact ⟨by first | rfl | (simp [errW_none, errW_some] <;> rfl) | (simp [*, errW_none, errW_some] <;> rfl), by repeat (first | (with_reducible first | exact HB.out | apply below_alloc | apply pw_below_drewN | apply below_drew1 | refine below_set ?_ GE244.out) | exact HB.out)⟩
                          · rw [if_neg c46] at H
                            have c46b0 : (x10_4 == a1) = false := beq_eq_false_iff_ne.mpr c46
                            have c46b1 : (x10_4 != a1) = true := bne_iff_ne.mpr c46
                            exact absurd (H.trans (congrArg some HTRUE.out)) (by simp)

/-- THE ONE PURE STATEMENT of fleuronlaw17_QuoteBack: yours. -/
def fleuronlaw17_QuoteBack.Pure : Prop := ∀ (a0 : Int) (a1 : Int) (a2 : Int), (Lit.int .i64 a0).wf = true → (Lit.int .i64 a1).wf = true → (Lit.int .i64 a2).wf = true → ∃ k, fleuronlaw17_QuoteBack.f k a0 a1 a2 = some true
theorem fleuronlaw17_QuoteBack.walk (P : fleuronlaw17_QuoteBack.Pure) (a0 : Int) (a1 : Int) (a2 : Int) (w : World) (w0 : (Lit.int .i64 a0).wf = true) (w1 : (Lit.int .i64 a1).wf = true) (w2 : (Lit.int .i64 a2).wf = true) :
    Calls Try.prog 6 #[.int .i64 a0, .int .i64 a1, .int .i64 a2] w fun e w' => e = .returned (.bool true) ∧ Below w.heap.size w w' := by
  obtain ⟨k, h⟩ := P a0 a1 a2 w0 w1 w2
  refine (fleuronlaw17_QuoteBack.calls k a0 a1 a2 true w h rfl).mono ?_
  rintro e w' ⟨rfl, hd⟩
  exact ⟨rfl, hd⟩

end Go.Proofs.Ytodcbiehocphkaa.P
