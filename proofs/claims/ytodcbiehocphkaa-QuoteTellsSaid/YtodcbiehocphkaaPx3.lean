/- A text written by a program of this session's own (wip/tools/fprint.py), which extends the kit's print. -/
import Derived.Test.YtodcbiehocphkaaPx0
namespace Go.Proofs.Ytodcbiehocphkaa.P
open Go.RowKit Go.Proofs.YtodcbiehocphkaaW.PrintWords Go.Proofs.YtodcbiehocphkaaW.PrintLast Go.Proofs.YtodcbiehocphkaaW.PrintMore
attribute [local go_sem] max2_int min2_int max_two min_two max_three min_three max_four min_four   -- for this text's walks alone
set_option linter.unusedVariables false
set_option linter.unusedSimpArgs false

/-! ### slices_Clone_string_string: function 19 -/
def slices_Clone_string_string.f (l0 : List ByteArray) : Option (List ByteArray) := (some (([] : List ByteArray) : List ByteArray)).bind fun y110 => (if y110.length + l0.length < 8796093022208 then (some (y110 ++ l0)) else (none))
set_option maxHeartbeats 8000000 in
set_option maxRecDepth 100000 in
theorem slices_Clone_string_string.calls (A0 : Option Addr) (c0 : Nat) (l0 : List ByteArray) (r : List ByteArray) (w : World) (hr0 : Kd.C Kd.string w A0 l0.length l0) (hc0 : l0.length ≤ c0) (h : slices_Clone_string_string.f l0 = some r) :
    Calls Try.prog 19 #[.slice A0 l0.length c0] w fun e w' => ∃ v0_ : Value, e = .returned (v0_) ∧ Kd.R Kd.string 9 w' w.heap.size (fun _ => True) v0_ r ∧ Below w.heap.size w w' := by
  by_cases hA0_ : A0 = none
  · subst hA0_
    have hl0_ : l0 = [] := by
      rcases Nat.eq_zero_or_pos l0.length with h0_ | h0_
      · exact List.eq_nil_of_length_eq_zero h0_
      · obtain ⟨ad_, e_, _⟩ := hr0.2.2 h0_
        exact absurd e_ (by simp)
    have hr_ : r = [] := by
      rw [hl0_] at h
      have h_ : some ([] : List ByteArray) = some r := h
      exact (Option.some.inj h_).symm
    subst hr_
    clear h hr0 hc0 hl0_
    have hnil := fun (W : World) (n_ c_ n' c' : Nat) => Lib.run_eql_slice_nil (P := Try.prog) W 23 _ none n_ c_ n' c' Try.underlying23
    go_enter Try.func19, Try.ntmps19
    go_wp2
    go_ret
    exact ⟨_, rfl, Kd.R_nil _ _ _ _ _, Below.refl _ _⟩
  have hnil : ∀ (W : World) (n_ c_ n' c' : Nat), (binOp .eql 23 (.slice A0 n_ c_) (.slice none n' c')).run Try.prog W = .ok (.bool false) W := fun W n_ c_ n' c' => by
    rw [Lib.run_eql_slice_nil (P := Try.prog) W 23 _ A0 n_ c_ n' c' Try.underlying23]
    cases A0 with
    | none => exact absurd rfl hA0_
    | some _ => rfl
  clear hA0_
  have HR0 := Aside0.mk hr0
  have HC0 := Aside0.mk hc0
  clear hr0 hc0
  have HB := Aside0.mk (Below.refl w.heap.size w)
  have H : ((some (([] : List ByteArray) : List ByteArray)).bind fun y110 => (if y110.length + l0.length < 8796093022208 then (some (y110 ++ l0)) else (none))) = some r := h
  clear h
  obtain ⟨y110, hy110⟩ : ∃ y_ : List ByteArray, y_ = (([] : List ByteArray)) := ⟨_, rfl⟩
  replace H : (if y110.length + l0.length < 8796093022208 then (some (y110 ++ l0)) else (none)) = some r := by first | (rw [hy110]; with_reducible exact H) | (have H2_ := (Option.bind_some _ _).symm.trans H; rw [hy110]; with_reducible exact H2_) | (have H2_ := (Option.bind_some _ _).symm.trans H; with_reducible exact H2_) | with_reducible exact H | (rw [hy110]; exact H) | exact H
  have Ny110 := Aside0.mk hy110
  clear hy110
  by_cases c2 : y110.length + l0.length < 8796093022208
  · rw [if_pos c2] at H
    have LMc2 := Aside0.mk c2
    clear c2
    obtain ⟨y113, hy113⟩ : ∃ y_ : List ByteArray, y_ = (y110 ++ l0) := ⟨_, rfl⟩
    replace H : (some y113) = some r := by first | (rw [hy113]; with_reducible exact H) | (have H2_ := (Option.bind_some _ _).symm.trans H; rw [hy113]; with_reducible exact H2_) | (have H2_ := (Option.bind_some _ _).symm.trans H; with_reducible exact H2_) | with_reducible exact H | (rw [hy113]; exact H) | exact H
    have Ny113 := Aside0.mk hy113
    clear hy113
    obtain rfl := Option.some.inj H
    go_enter Try.func19, Try.ntmps19
    go_wp2_with (first | ((with_reducible refine gate_dst (N := 5) rfl ?_); refine Kd.R_lit Kd.string _ 9 ?hg (N := 5) ?hd (xs := ([] : List ByteArray)) (inner := []) (ok := fun _ => True) (okp := fun _ => True) ?hr ?hp (fun _ hk => hk) trivial (Below.refl _ _) (Nat.le_refl _) (by simp) ?_; (case hd => rfl); (case hg => rfl); (case hr => first | (go_simp; done) | (go_simp; rfl)); (case hp => exact (Reps.none _ _)); intro v111 w3 ho4 hb hg_ hnew_; clear hg_ hnew_; (first | rw [← Ny110.out] at ho4 | (simp only [Int.reduceToNat] at ho4; rw [← Ny110.out] at ho4)); have n0_ := Aside0.mk (Kd.R_lower ho4 (below_size (by repeat (first | (with_reducible first | exact HB.out | apply below_alloc | apply pw_below_drewN | apply below_drew1) | exact HB.out)))); have n1_ := Aside0.mk (below_step (by repeat (first | (with_reducible first | exact HB.out | apply below_alloc | apply pw_below_drewN | apply below_drew1) | exact HB.out)) hb); clear HB; have HO112 := n0_; have HB := n1_; clear n0_ n1_; clear hb ho4) | ((with_reducible refine gate_builtin (b := .append) (xs := #[.tmp 5, .tmp 6]) rfl ?_); at_builtin; refine Kd.R_append_rows Kd.string (w0 := w) w.heap.size rfl (.tmp 5) (.tmp 6) 23 9 (.string ⟨#[]⟩) 16 rfl Try.underlying23 info9 rfl (by decide) (by omega) v111 y110 l0 _ _ _ (fun _ => True) (fun _ => False) rfl rfl ?aO ?aR (fun _ _ h => h) (fun _ h => h.elim) ?aF ?aB ?aS ?aL ?_; (case aR => repeat (first | exact (Kd.C_below HR0.out HB.out) | (with_reducible refine Kd.C_alloc ?_ _) | (with_reducible refine Kd.C_drewN ?_ _) | (with_reducible refine Kd.C_drew ?_))); (case aB => exact (by repeat (first | (with_reducible first | exact HB.out | apply below_alloc | apply pw_below_drewN | apply below_drew1) | exact HB.out))); (case aF => exact (fun _ _ => trivial)); (case aO => exact (by (with_reducible repeat (first | apply Kd.R_alloc | apply Kd.R_drewN | apply Kd.R_drew)); exact HO112.out)); (case aS => exact (below_size (by repeat (first | (with_reducible first | exact HB.out | apply below_alloc | apply pw_below_drewN | apply below_drew1) | exact HB.out)))); (case aL => have := LMc2.out; omega); intro v114 w5 ho hb hg hat; rw [← Ny113.out] at ho; have n0_ := Aside0.mk (hb); have n1_ := Aside0.mk (ho); clear HB; clear HO112; have HB := n0_; have HO115 := n1_; clear n0_ n1_; clear ho hb hg hat))
    go_ret
    exact ⟨_, by first | rfl | (simp [errW_none, errW_some] <;> rfl) | (simp [*, errW_none, errW_some] <;> rfl), by (with_reducible repeat (first | apply Kd.R_alloc | apply Kd.R_drewN | apply Kd.R_drew)); exact HO115.out, by repeat (first | (with_reducible first | exact HB.out | apply below_alloc | apply pw_below_drewN | apply below_drew1) | exact HB.out)⟩
  · rw [if_neg c2] at H
    exact absurd H (by simp)

/-! ### quote_Marks: function 12 -/
def quote_Marks.f (a0_0 : ByteArray) (a0_1 : ByteArray) (a0_2 : ByteArray) (l0_3 : List (S43)) (a0_4 : Bool) (a0_5 : Bool) (l0_6 : List ByteArray) (a0_7 : Bool) (l0_8 : List (S47)) (l0_9 : List (S47)) (l0_10 : List (S47)) : Option (List ByteArray) := if a0_7 = true then (some (([(⟨#[226, 128, 156]⟩ : ByteArray), (⟨#[226, 128, 157]⟩ : ByteArray), (⟨#[226, 128, 152]⟩ : ByteArray), (⟨#[226, 128, 153]⟩ : ByteArray)] : List ByteArray))) else ((slices_Clone_string_string.f l0_6).bind fun t120 => (some t120))
set_option maxHeartbeats 8000000 in
set_option maxRecDepth 100000 in
theorem quote_Marks.calls (a0_0 : ByteArray) (a0_1 : ByteArray) (a0_2 : ByteArray) (A0_3 : Option Addr) (c0_3 : Nat) (l0_3 : List (S43)) (a0_4 : Bool) (a0_5 : Bool) (A0_6 : Option Addr) (c0_6 : Nat) (l0_6 : List ByteArray) (a0_7 : Bool) (A0_8 : Option Addr) (c0_8 : Nat) (l0_8 : List (S47)) (A0_9 : Option Addr) (c0_9 : Nat) (l0_9 : List (S47)) (A0_10 : Option Addr) (c0_10 : Nat) (l0_10 : List (S47)) (r : List ByteArray) (w : World) (hr0_3 : Kd.C k43 w A0_3 l0_3.length l0_3) (hc0_3 : l0_3.length ≤ c0_3) (hr0_6 : Kd.C Kd.string w A0_6 l0_6.length l0_6) (hc0_6 : l0_6.length ≤ c0_6) (hr0_8 : Kd.C k47 w A0_8 l0_8.length l0_8) (hc0_8 : l0_8.length ≤ c0_8) (hr0_9 : Kd.C k47 w A0_9 l0_9.length l0_9) (hc0_9 : l0_9.length ≤ c0_9) (hr0_10 : Kd.C k47 w A0_10 l0_10.length l0_10) (hc0_10 : l0_10.length ≤ c0_10) (h : quote_Marks.f a0_0 a0_1 a0_2 l0_3 a0_4 a0_5 l0_6 a0_7 l0_8 l0_9 l0_10 = some r) :
    Calls Try.prog 12 #[.agg #[.string a0_0, .string a0_1, .string a0_2, .slice A0_3 l0_3.length c0_3, .bool a0_4, .bool a0_5, .slice A0_6 l0_6.length c0_6, .bool a0_7, .slice A0_8 l0_8.length c0_8, .slice A0_9 l0_9.length c0_9, .slice A0_10 l0_10.length c0_10]] w fun e w' => ∃ v0_ : Value, e = .returned (v0_) ∧ Kd.R Kd.string 9 w' w.heap.size (fun _ => True) v0_ r ∧ Below w.heap.size w w' := by
  have hu26 := Try.underlying26
  have HR0_3 := Aside0.mk hr0_3
  have HC0_3 := Aside0.mk hc0_3
  clear hr0_3 hc0_3
  have HR0_6 := Aside0.mk hr0_6
  have HC0_6 := Aside0.mk hc0_6
  clear hr0_6 hc0_6
  have HR0_8 := Aside0.mk hr0_8
  have HC0_8 := Aside0.mk hc0_8
  clear hr0_8 hc0_8
  have HR0_9 := Aside0.mk hr0_9
  have HC0_9 := Aside0.mk hc0_9
  clear hr0_9 hc0_9
  have HR0_10 := Aside0.mk hr0_10
  have HC0_10 := Aside0.mk hc0_10
  clear hr0_10 hc0_10
  have HB := Aside0.mk (Below.refl w.heap.size w)
  have H : (if a0_7 = true then (some (([(⟨#[226, 128, 156]⟩ : ByteArray), (⟨#[226, 128, 157]⟩ : ByteArray), (⟨#[226, 128, 152]⟩ : ByteArray), (⟨#[226, 128, 153]⟩ : ByteArray)] : List ByteArray))) else ((slices_Clone_string_string.f l0_6).bind fun t120 => (some t120))) = some r := h
  clear h
  by_cases c2 : a0_7 = true
  · subst c2
    have H1 : (some (([(⟨#[226, 128, 156]⟩ : ByteArray), (⟨#[226, 128, 157]⟩ : ByteArray), (⟨#[226, 128, 152]⟩ : ByteArray), (⟨#[226, 128, 153]⟩ : ByteArray)] : List ByteArray))) = some r := by rw [if_pos rfl] at H; exact H
    clear H
    have H := H1
    clear H1
    obtain ⟨y117, hy117⟩ : ∃ y_ : List ByteArray, y_ = (([(⟨#[226, 128, 156]⟩ : ByteArray), (⟨#[226, 128, 157]⟩ : ByteArray), (⟨#[226, 128, 152]⟩ : ByteArray), (⟨#[226, 128, 153]⟩ : ByteArray)] : List ByteArray)) := ⟨_, rfl⟩
    replace H : (some y117) = some r := by first | (rw [hy117]; with_reducible exact H) | (have H2_ := (Option.bind_some _ _).symm.trans H; rw [hy117]; with_reducible exact H2_) | (have H2_ := (Option.bind_some _ _).symm.trans H; with_reducible exact H2_) | with_reducible exact H | (rw [hy117]; exact H) | exact H
    have Ny117 := Aside0.mk hy117
    clear hy117
    obtain rfl := Option.some.inj H
    go_enter Try.func12, Try.ntmps12
    go_wp2_with (first | ((with_reducible refine gate_dst (N := 1) rfl ?_); refine box_event ?hg (N := 1) ?hd (cs := #[.string a0_0, .string a0_1, .string a0_2, .slice A0_3 l0_3.length c0_3, .bool a0_4, .bool a0_5, .slice A0_6 l0_6.length c0_6, .bool true, .slice A0_8 l0_8.length c0_8, .slice A0_9 l0_9.length c0_9, .slice A0_10 l0_10.length c0_10]) (t := 26) ?hr ?_; (case hd => rfl); (case hg => rfl); (case hr => first | (go_simp; done) | (go_simp; rfl)); intro gb116 hg w3 hbox hb; have n0_ := Aside0.mk (below_step (by repeat (first | (with_reducible first | exact HB.out | apply below_alloc | apply pw_below_drewN | apply below_drew1) | exact HB.out)) hb); have n1_ := Aside0.mk (hbox); have n2_ := Aside0.mk ((by rw [hg]; exact (below_size (by repeat (first | (with_reducible first | exact HB.out | apply below_alloc | apply pw_below_drewN | apply below_drew1) | exact HB.out))) : w.heap.size ≤ gb116)); have n3_ := Aside0.mk ((by rw [hg]; exact (below_size (by repeat (first | (with_reducible first | exact HB.out | apply below_alloc | apply pw_below_drewN | apply below_drew1) | exact HB.out))) : w.heap.size ≤ gb116)); clear HB; have HB := n0_; have BK116 := n1_; have GW116 := n2_; have GE116 := n3_; clear n0_ n1_ n2_ n3_; clear hb hbox hg; have hcz4_0 : w3.cell? ⟨gb116, 0, none⟩ = some (.string a0_0) := (blk_cell BK116.out 0).trans rfl; have hcz4_1 : w3.cell? ⟨gb116, 1, none⟩ = some (.string a0_1) := (blk_cell BK116.out 1).trans rfl; have hcz4_2 : w3.cell? ⟨gb116, 2, none⟩ = some (.string a0_2) := (blk_cell BK116.out 2).trans rfl; have hcz4_3 : w3.cell? ⟨gb116, 3, none⟩ = some (.slice A0_3 l0_3.length c0_3) := (blk_cell BK116.out 3).trans rfl; have hcz4_4 : w3.cell? ⟨gb116, 4, none⟩ = some (.bool a0_4) := (blk_cell BK116.out 4).trans rfl; have hcz4_5 : w3.cell? ⟨gb116, 5, none⟩ = some (.bool a0_5) := (blk_cell BK116.out 5).trans rfl; have hcz4_6 : w3.cell? ⟨gb116, 6, none⟩ = some (.slice A0_6 l0_6.length c0_6) := (blk_cell BK116.out 6).trans rfl; have hcz4_7 : w3.cell? ⟨gb116, 7, none⟩ = some (.bool true) := (blk_cell BK116.out 7).trans rfl; have hcz4_8 : w3.cell? ⟨gb116, 8, none⟩ = some (.slice A0_8 l0_8.length c0_8) := (blk_cell BK116.out 8).trans rfl; have hcz4_9 : w3.cell? ⟨gb116, 9, none⟩ = some (.slice A0_9 l0_9.length c0_9) := (blk_cell BK116.out 9).trans rfl; have hcz4_10 : w3.cell? ⟨gb116, 10, none⟩ = some (.slice A0_10 l0_10.length c0_10) := (blk_cell BK116.out 10).trans rfl; have hfz4_0 := blk_frozen BK116.out 0; have hfz4_1 := blk_frozen BK116.out 1; have hfz4_2 := blk_frozen BK116.out 2; have hfz4_3 := blk_frozen BK116.out 3; have hfz4_4 := blk_frozen BK116.out 4; have hfz4_5 := blk_frozen BK116.out 5; have hfz4_6 := blk_frozen BK116.out 6; have hfz4_7 := blk_frozen BK116.out 7; have hfz4_8 := blk_frozen BK116.out 8; have hfz4_9 := blk_frozen BK116.out 9; have hfz4_10 := blk_frozen BK116.out 10) | ((with_reducible refine gate_dst (N := 5) rfl ?_); refine Kd.R_lit Kd.string _ 9 ?hg (N := 5) ?hd (xs := ([(⟨#[226, 128, 156]⟩ : ByteArray), (⟨#[226, 128, 157]⟩ : ByteArray), (⟨#[226, 128, 152]⟩ : ByteArray), (⟨#[226, 128, 153]⟩ : ByteArray)] : List ByteArray)) (inner := [.string (⟨#[226, 128, 156]⟩ : ByteArray), .string (⟨#[226, 128, 157]⟩ : ByteArray), .string (⟨#[226, 128, 152]⟩ : ByteArray), .string (⟨#[226, 128, 153]⟩ : ByteArray)]) (ok := fun _ => True) (okp := fun _ => True) ?hr ?hp (fun _ hk => hk) trivial (Below.refl _ _) (Nat.le_refl _) (by simp) ?_; (case hd => rfl); (case hg => rfl); (case hr => first | (go_simp; done) | (go_simp; rfl)); (case hp => exact (Reps.one (show Kd.M Kd.string _ _ _ (⟨#[226, 128, 156]⟩ : ByteArray) [.string (⟨#[226, 128, 156]⟩ : ByteArray)] from rfl) (Reps.one (show Kd.M Kd.string _ _ _ (⟨#[226, 128, 157]⟩ : ByteArray) [.string (⟨#[226, 128, 157]⟩ : ByteArray)] from rfl) (Reps.one (show Kd.M Kd.string _ _ _ (⟨#[226, 128, 152]⟩ : ByteArray) [.string (⟨#[226, 128, 152]⟩ : ByteArray)] from rfl) (Reps.one (show Kd.M Kd.string _ _ _ (⟨#[226, 128, 153]⟩ : ByteArray) [.string (⟨#[226, 128, 153]⟩ : ByteArray)] from rfl) (Reps.none _ _)))))); intro v118 w5 ho6 hb hg_ hnew_; clear hg_ hnew_; (first | rw [← Ny117.out] at ho6 | (simp only [Int.reduceToNat] at ho6; rw [← Ny117.out] at ho6)); have n0_ := Aside0.mk (Kd.R_lower ho6 (below_size (by repeat (first | (with_reducible first | exact HB.out | apply below_alloc | apply pw_below_drewN | apply below_drew1 | refine below_set ?_ GE116.out) | exact HB.out)))); have n1_ := Aside0.mk (blk_below (g := gb116) (o := .cells #[.string a0_0, .string a0_1, .string a0_2, .slice A0_3 l0_3.length c0_3, .bool a0_4, .bool a0_5, .slice A0_6 l0_6.length c0_6, .bool true, .slice A0_8 l0_8.length c0_8, .slice A0_9 l0_9.length c0_9, .slice A0_10 l0_10.length c0_10] 26 (0, 0)) (by (with_reducible repeat (first | refine blk_drewN ?_ _ | refine blk_drew ?_ | refine blk_alloc ?_ _)); exact BK116.out) hb); have n2_ := Aside0.mk (below_step (by repeat (first | (with_reducible first | exact HB.out | apply below_alloc | apply pw_below_drewN | apply below_drew1 | refine below_set ?_ GE116.out) | exact HB.out)) hb); clear BK116; clear HB; have HO119 := n0_; have BK116 := n1_; have HB := n2_; clear n0_ n1_ n2_; clear hb ho6))
    go_ret
    exact ⟨_, by first | rfl | (simp [errW_none, errW_some] <;> rfl) | (simp [*, errW_none, errW_some] <;> rfl), by (with_reducible repeat (first | apply Kd.R_alloc | apply Kd.R_drewN | apply Kd.R_drew)); exact HO119.out, by repeat (first | (with_reducible first | exact HB.out | apply below_alloc | apply pw_below_drewN | apply below_drew1 | refine below_set ?_ GE116.out) | exact HB.out)⟩
  · replace c2 := Bool.eq_false_iff.mpr c2
    subst c2
    have H1 : ((slices_Clone_string_string.f l0_6).bind fun t120 => (some t120)) = some r := by rw [if_neg (show ¬ (false = true) by decide)] at H; exact H
    clear H
    have H := H1
    clear H1
    replace H := Option.bind_eq_some_iff.mp H
    obtain ⟨t120, A70, H⟩ := H
    replace H : (some t120) = some r := H
    have A7 := Aside0.mk A70
    clear A70
    obtain rfl := Option.some.inj H
    go_enter Try.func12, Try.ntmps12
    go_wp2_with (first | ((with_reducible refine gate_dst (N := 1) rfl ?_); refine box_event ?hg (N := 1) ?hd (cs := #[.string a0_0, .string a0_1, .string a0_2, .slice A0_3 l0_3.length c0_3, .bool a0_4, .bool a0_5, .slice A0_6 l0_6.length c0_6, .bool false, .slice A0_8 l0_8.length c0_8, .slice A0_9 l0_9.length c0_9, .slice A0_10 l0_10.length c0_10]) (t := 26) ?hr ?_; (case hd => rfl); (case hg => rfl); (case hr => first | (go_simp; done) | (go_simp; rfl)); intro gb116 hg w8 hbox hb; have n0_ := Aside0.mk (below_step (by repeat (first | (with_reducible first | exact HB.out | apply below_alloc | apply pw_below_drewN | apply below_drew1) | exact HB.out)) hb); have n1_ := Aside0.mk (hbox); have n2_ := Aside0.mk ((by rw [hg]; exact (below_size (by repeat (first | (with_reducible first | exact HB.out | apply below_alloc | apply pw_below_drewN | apply below_drew1) | exact HB.out))) : w.heap.size ≤ gb116)); have n3_ := Aside0.mk ((by rw [hg]; exact (below_size (by repeat (first | (with_reducible first | exact HB.out | apply below_alloc | apply pw_below_drewN | apply below_drew1) | exact HB.out))) : w.heap.size ≤ gb116)); clear HB; have HB := n0_; have BK116 := n1_; have GW116 := n2_; have GE116 := n3_; clear n0_ n1_ n2_ n3_; clear hb hbox hg; have hcz9_0 : w8.cell? ⟨gb116, 0, none⟩ = some (.string a0_0) := (blk_cell BK116.out 0).trans rfl; have hcz9_1 : w8.cell? ⟨gb116, 1, none⟩ = some (.string a0_1) := (blk_cell BK116.out 1).trans rfl; have hcz9_2 : w8.cell? ⟨gb116, 2, none⟩ = some (.string a0_2) := (blk_cell BK116.out 2).trans rfl; have hcz9_3 : w8.cell? ⟨gb116, 3, none⟩ = some (.slice A0_3 l0_3.length c0_3) := (blk_cell BK116.out 3).trans rfl; have hcz9_4 : w8.cell? ⟨gb116, 4, none⟩ = some (.bool a0_4) := (blk_cell BK116.out 4).trans rfl; have hcz9_5 : w8.cell? ⟨gb116, 5, none⟩ = some (.bool a0_5) := (blk_cell BK116.out 5).trans rfl; have hcz9_6 : w8.cell? ⟨gb116, 6, none⟩ = some (.slice A0_6 l0_6.length c0_6) := (blk_cell BK116.out 6).trans rfl; have hcz9_7 : w8.cell? ⟨gb116, 7, none⟩ = some (.bool false) := (blk_cell BK116.out 7).trans rfl; have hcz9_8 : w8.cell? ⟨gb116, 8, none⟩ = some (.slice A0_8 l0_8.length c0_8) := (blk_cell BK116.out 8).trans rfl; have hcz9_9 : w8.cell? ⟨gb116, 9, none⟩ = some (.slice A0_9 l0_9.length c0_9) := (blk_cell BK116.out 9).trans rfl; have hcz9_10 : w8.cell? ⟨gb116, 10, none⟩ = some (.slice A0_10 l0_10.length c0_10) := (blk_cell BK116.out 10).trans rfl; have hfz9_0 := blk_frozen BK116.out 0; have hfz9_1 := blk_frozen BK116.out 1; have hfz9_2 := blk_frozen BK116.out 2; have hfz9_3 := blk_frozen BK116.out 3; have hfz9_4 := blk_frozen BK116.out 4; have hfz9_5 := blk_frozen BK116.out 5; have hfz9_6 := blk_frozen BK116.out 6; have hfz9_7 := blk_frozen BK116.out 7; have hfz9_8 := blk_frozen BK116.out 8; have hfz9_9 := blk_frozen BK116.out 9; have hfz9_10 := blk_frozen BK116.out 10) | ((with_reducible refine gate_callee (f := 19) rfl ?_); refine goesL_ (some 8) rfl rfl Try.func19 (by kernel_rfl) rfl #[.slice A0_6 l0_6.length c0_6] rfl (by (try simp only [List.map_toArray, List.map_cons, List.map_nil]); first | done | rfl | (simp only [List.length_drop, List.length_take]; rfl)) ?_; (with_reducible refine (slices_Clone_string_string.calls _ _ l0_6 t120 _ ?side1 ?side2 A7.out).mono ?_); (case side1 => repeat (first | exact (Kd.C_below HR0_6.out HB.out) | (with_reducible refine Kd.C_alloc ?_ _) | (with_reducible refine Kd.C_drewN ?_ _) | (with_reducible refine Kd.C_drew ?_))); (case side2 => exact HC0_6.out); rintro e w10 ⟨v121, rfl, ho0, hb⟩; refine ⟨_, rfl, ?_⟩; have n0_ := Aside0.mk (Kd.R_lower ho0 (below_size (by repeat (first | (with_reducible first | exact HB.out | apply below_alloc | apply pw_below_drewN | apply below_drew1 | refine below_set ?_ GE116.out) | exact HB.out)))); have n1_ := Aside0.mk (blk_below (g := gb116) (o := .cells #[.string a0_0, .string a0_1, .string a0_2, .slice A0_3 l0_3.length c0_3, .bool a0_4, .bool a0_5, .slice A0_6 l0_6.length c0_6, .bool false, .slice A0_8 l0_8.length c0_8, .slice A0_9 l0_9.length c0_9, .slice A0_10 l0_10.length c0_10] 26 (0, 0)) (by (with_reducible repeat (first | refine blk_drewN ?_ _ | refine blk_drew ?_ | refine blk_alloc ?_ _)); exact BK116.out) hb); have n2_ := Aside0.mk (below_step (by repeat (first | (with_reducible first | exact HB.out | apply below_alloc | apply pw_below_drewN | apply below_drew1 | refine below_set ?_ GE116.out) | exact HB.out)) hb); clear BK116; clear HB; have HO122 := n0_; have BK116 := n1_; have HB := n2_; clear n0_ n1_ n2_; (try clear hb); (try clear hb2); (try clear hk); (try clear hi); (try clear ho0)))
    go_ret
    exact ⟨_, by first | rfl | (simp [errW_none, errW_some] <;> rfl) | (simp [*, errW_none, errW_some] <;> rfl), by (with_reducible repeat (first | apply Kd.R_alloc | apply Kd.R_drewN | apply Kd.R_drew)); exact HO122.out, by repeat (first | (with_reducible first | exact HB.out | apply below_alloc | apply pw_below_drewN | apply below_drew1 | refine below_set ?_ GE116.out) | exact HB.out)⟩

/-! ### quote_mark: function 17 -/
def quote_mark.f (a0_0 : ByteArray) (a0_1 : ByteArray) (a0_2 : ByteArray) (l0_3 : List (S43)) (a0_4 : Bool) (a0_5 : Bool) (l0_6 : List ByteArray) (a0_7 : Bool) (l0_8 : List (S47)) (l0_9 : List (S47)) (l0_10 : List (S47)) (a1 : Int) (a2 : Int) : Option (ByteArray) := (quote_Marks.f a0_0 a0_1 a0_2 l0_3 a0_4 a0_5 l0_6 a0_7 l0_8 l0_9 l0_10).bind fun t124 => (if (wrap64 ((t124.length : Int) / 2)) = 0 then (some (⟨#[]⟩ : ByteArray)) else (if 0 ≤ (wrap64 ((wrap64 (2 * (mn a1 (wrap64 ((wrap64 ((t124.length : Int) / 2)) - 1))))) + a2)) then (if (wrap64 ((wrap64 (2 * (mn a1 (wrap64 ((wrap64 ((t124.length : Int) / 2)) - 1))))) + a2)) < (t124.length : Int) then (some (rdOf ByteArray.empty t124 (wrap64 ((wrap64 (2 * (mn a1 (wrap64 ((wrap64 ((t124.length : Int) / 2)) - 1))))) + a2)))) else (none)) else (none)))
set_option maxHeartbeats 8000000 in
set_option maxRecDepth 100000 in
theorem quote_mark.calls (a0_0 : ByteArray) (a0_1 : ByteArray) (a0_2 : ByteArray) (A0_3 : Option Addr) (c0_3 : Nat) (l0_3 : List (S43)) (a0_4 : Bool) (a0_5 : Bool) (A0_6 : Option Addr) (c0_6 : Nat) (l0_6 : List ByteArray) (a0_7 : Bool) (A0_8 : Option Addr) (c0_8 : Nat) (l0_8 : List (S47)) (A0_9 : Option Addr) (c0_9 : Nat) (l0_9 : List (S47)) (A0_10 : Option Addr) (c0_10 : Nat) (l0_10 : List (S47)) (a1 : Int) (a2 : Int) (r : ByteArray) (w : World) (hr0_3 : Kd.C k43 w A0_3 l0_3.length l0_3) (hc0_3 : l0_3.length ≤ c0_3) (hr0_6 : Kd.C Kd.string w A0_6 l0_6.length l0_6) (hc0_6 : l0_6.length ≤ c0_6) (hr0_8 : Kd.C k47 w A0_8 l0_8.length l0_8) (hc0_8 : l0_8.length ≤ c0_8) (hr0_9 : Kd.C k47 w A0_9 l0_9.length l0_9) (hc0_9 : l0_9.length ≤ c0_9) (hr0_10 : Kd.C k47 w A0_10 l0_10.length l0_10) (hc0_10 : l0_10.length ≤ c0_10) (h : quote_mark.f a0_0 a0_1 a0_2 l0_3 a0_4 a0_5 l0_6 a0_7 l0_8 l0_9 l0_10 a1 a2 = some r) :
    Calls Try.prog 17 #[.agg #[.string a0_0, .string a0_1, .string a0_2, .slice A0_3 l0_3.length c0_3, .bool a0_4, .bool a0_5, .slice A0_6 l0_6.length c0_6, .bool a0_7, .slice A0_8 l0_8.length c0_8, .slice A0_9 l0_9.length c0_9, .slice A0_10 l0_10.length c0_10], .int .i64 a1, .int .i64 a2] w fun e w' => e = .returned (.string r) ∧ Below w.heap.size w w' := by
  have hu26 := Try.underlying26
  have HR0_3 := Aside0.mk hr0_3
  have HC0_3 := Aside0.mk hc0_3
  clear hr0_3 hc0_3
  have HR0_6 := Aside0.mk hr0_6
  have HC0_6 := Aside0.mk hc0_6
  clear hr0_6 hc0_6
  have HR0_8 := Aside0.mk hr0_8
  have HC0_8 := Aside0.mk hc0_8
  clear hr0_8 hc0_8
  have HR0_9 := Aside0.mk hr0_9
  have HC0_9 := Aside0.mk hc0_9
  clear hr0_9 hc0_9
  have HR0_10 := Aside0.mk hr0_10
  have HC0_10 := Aside0.mk hc0_10
  clear hr0_10 hc0_10
  have HB := Aside0.mk (Below.refl w.heap.size w)
  have H : ((quote_Marks.f a0_0 a0_1 a0_2 l0_3 a0_4 a0_5 l0_6 a0_7 l0_8 l0_9 l0_10).bind fun t124 => (if (wrap64 ((t124.length : Int) / 2)) = 0 then (some (⟨#[]⟩ : ByteArray)) else (if 0 ≤ (wrap64 ((wrap64 (2 * (mn a1 (wrap64 ((wrap64 ((t124.length : Int) / 2)) - 1))))) + a2)) then (if (wrap64 ((wrap64 (2 * (mn a1 (wrap64 ((wrap64 ((t124.length : Int) / 2)) - 1))))) + a2)) < (t124.length : Int) then (some (rdOf ByteArray.empty t124 (wrap64 ((wrap64 (2 * (mn a1 (wrap64 ((wrap64 ((t124.length : Int) / 2)) - 1))))) + a2)))) else (none)) else (none)))) = some r := h
  clear h
  replace H := Option.bind_eq_some_iff.mp H
  obtain ⟨t124, A40, H⟩ := H
  replace H : (if (wrap64 ((t124.length : Int) / 2)) = 0 then (some (⟨#[]⟩ : ByteArray)) else (if 0 ≤ (wrap64 ((wrap64 (2 * (mn a1 (wrap64 ((wrap64 ((t124.length : Int) / 2)) - 1))))) + a2)) then (if (wrap64 ((wrap64 (2 * (mn a1 (wrap64 ((wrap64 ((t124.length : Int) / 2)) - 1))))) + a2)) < (t124.length : Int) then (some (rdOf ByteArray.empty t124 (wrap64 ((wrap64 (2 * (mn a1 (wrap64 ((wrap64 ((t124.length : Int) / 2)) - 1))))) + a2)))) else (none)) else (none))) = some r := H
  have A4 := Aside0.mk A40
  clear A40
  by_cases c5 : (wrap64 ((t124.length : Int) / 2)) = 0
  · rw [if_pos c5] at H
    have c5b0 : ((wrap64 ((t124.length : Int) / 2)) == 0) = true := beq_iff_eq.mpr c5
    have c5b1 : ((wrap64 ((t124.length : Int) / 2)) != 0) = false := bne_eq_false_iff_eq.mpr c5
    clear c5
    obtain rfl := Option.some.inj H
    go_enter Try.func17, Try.ntmps17
    go_wp2_with (first | ((with_reducible refine gate_dst (N := 3) rfl ?_); refine box_event ?hg (N := 3) ?hd (cs := #[.string a0_0, .string a0_1, .string a0_2, .slice A0_3 l0_3.length c0_3, .bool a0_4, .bool a0_5, .slice A0_6 l0_6.length c0_6, .bool a0_7, .slice A0_8 l0_8.length c0_8, .slice A0_9 l0_9.length c0_9, .slice A0_10 l0_10.length c0_10]) (t := 26) ?hr ?_; (case hd => rfl); (case hg => rfl); (case hr => first | (go_simp; done) | (go_simp; rfl)); intro gb123 hg w6 hbox hb; have n0_ := Aside0.mk (below_step (by repeat (first | (with_reducible first | exact HB.out | apply below_alloc | apply pw_below_drewN | apply below_drew1) | exact HB.out)) hb); have n1_ := Aside0.mk (hbox); have n2_ := Aside0.mk ((by rw [hg]; exact (below_size (by repeat (first | (with_reducible first | exact HB.out | apply below_alloc | apply pw_below_drewN | apply below_drew1) | exact HB.out))) : w.heap.size ≤ gb123)); have n3_ := Aside0.mk ((by rw [hg]; exact (below_size (by repeat (first | (with_reducible first | exact HB.out | apply below_alloc | apply pw_below_drewN | apply below_drew1) | exact HB.out))) : w.heap.size ≤ gb123)); clear HB; have HB := n0_; have BK123 := n1_; have GW123 := n2_; have GE123 := n3_; clear n0_ n1_ n2_ n3_; clear hb hbox hg; have hcz7_0 : w6.cell? ⟨gb123, 0, none⟩ = some (.string a0_0) := (blk_cell BK123.out 0).trans rfl; have hcz7_1 : w6.cell? ⟨gb123, 1, none⟩ = some (.string a0_1) := (blk_cell BK123.out 1).trans rfl; have hcz7_2 : w6.cell? ⟨gb123, 2, none⟩ = some (.string a0_2) := (blk_cell BK123.out 2).trans rfl; have hcz7_3 : w6.cell? ⟨gb123, 3, none⟩ = some (.slice A0_3 l0_3.length c0_3) := (blk_cell BK123.out 3).trans rfl; have hcz7_4 : w6.cell? ⟨gb123, 4, none⟩ = some (.bool a0_4) := (blk_cell BK123.out 4).trans rfl; have hcz7_5 : w6.cell? ⟨gb123, 5, none⟩ = some (.bool a0_5) := (blk_cell BK123.out 5).trans rfl; have hcz7_6 : w6.cell? ⟨gb123, 6, none⟩ = some (.slice A0_6 l0_6.length c0_6) := (blk_cell BK123.out 6).trans rfl; have hcz7_7 : w6.cell? ⟨gb123, 7, none⟩ = some (.bool a0_7) := (blk_cell BK123.out 7).trans rfl; have hcz7_8 : w6.cell? ⟨gb123, 8, none⟩ = some (.slice A0_8 l0_8.length c0_8) := (blk_cell BK123.out 8).trans rfl; have hcz7_9 : w6.cell? ⟨gb123, 9, none⟩ = some (.slice A0_9 l0_9.length c0_9) := (blk_cell BK123.out 9).trans rfl; have hcz7_10 : w6.cell? ⟨gb123, 10, none⟩ = some (.slice A0_10 l0_10.length c0_10) := (blk_cell BK123.out 10).trans rfl; have hfz7_0 := blk_frozen BK123.out 0; have hfz7_1 := blk_frozen BK123.out 1; have hfz7_2 := blk_frozen BK123.out 2; have hfz7_3 := blk_frozen BK123.out 3; have hfz7_4 := blk_frozen BK123.out 4; have hfz7_5 := blk_frozen BK123.out 5; have hfz7_6 := blk_frozen BK123.out 6; have hfz7_7 := blk_frozen BK123.out 7; have hfz7_8 := blk_frozen BK123.out 8; have hfz7_9 := blk_frozen BK123.out 9; have hfz7_10 := blk_frozen BK123.out 10) | ((with_reducible refine gate_callee (f := 12) rfl ?_); refine goesL_ (some 10) rfl rfl Try.func12 (by kernel_rfl) rfl #[.agg #[.string a0_0, .string a0_1, .string a0_2, .slice A0_3 l0_3.length c0_3, .bool a0_4, .bool a0_5, .slice A0_6 l0_6.length c0_6, .bool a0_7, .slice A0_8 l0_8.length c0_8, .slice A0_9 l0_9.length c0_9, .slice A0_10 l0_10.length c0_10]] rfl (by (try simp only [List.map_toArray, List.map_cons, List.map_nil]); first | done | rfl | (simp only [List.length_drop, List.length_take]; rfl)) ?_; (with_reducible refine (quote_Marks.calls a0_0 a0_1 a0_2 _ _ l0_3 a0_4 a0_5 _ _ l0_6 a0_7 _ _ l0_8 _ _ l0_9 _ _ l0_10 t124 _ ?side1 ?side2 ?side3 ?side4 ?side5 ?side6 ?side7 ?side8 ?side9 ?side10 A4.out).mono ?_); (case side1 => repeat (first | exact (Kd.C_below HR0_3.out HB.out) | (with_reducible refine Kd.C_alloc ?_ _) | (with_reducible refine Kd.C_drewN ?_ _) | (with_reducible refine Kd.C_drew ?_))); (case side2 => exact HC0_3.out); (case side3 => repeat (first | exact (Kd.C_below HR0_6.out HB.out) | (with_reducible refine Kd.C_alloc ?_ _) | (with_reducible refine Kd.C_drewN ?_ _) | (with_reducible refine Kd.C_drew ?_))); (case side4 => exact HC0_6.out); (case side5 => repeat (first | exact (Kd.C_below HR0_8.out HB.out) | (with_reducible refine Kd.C_alloc ?_ _) | (with_reducible refine Kd.C_drewN ?_ _) | (with_reducible refine Kd.C_drew ?_))); (case side6 => exact HC0_8.out); (case side7 => repeat (first | exact (Kd.C_below HR0_9.out HB.out) | (with_reducible refine Kd.C_alloc ?_ _) | (with_reducible refine Kd.C_drewN ?_ _) | (with_reducible refine Kd.C_drew ?_))); (case side8 => exact HC0_9.out); (case side9 => repeat (first | exact (Kd.C_below HR0_10.out HB.out) | (with_reducible refine Kd.C_alloc ?_ _) | (with_reducible refine Kd.C_drewN ?_ _) | (with_reducible refine Kd.C_drew ?_))); (case side10 => exact HC0_10.out); rintro e w8 ⟨v125, rfl, ho0, hb⟩; refine ⟨_, rfl, ?_⟩; have n0_ := Aside0.mk (Kd.R_lower ho0 (below_size (by repeat (first | (with_reducible first | exact HB.out | apply below_alloc | apply pw_below_drewN | apply below_drew1 | refine below_set ?_ GE123.out) | exact HB.out)))); have n1_ := Aside0.mk (blk_below (g := gb123) (o := .cells #[.string a0_0, .string a0_1, .string a0_2, .slice A0_3 l0_3.length c0_3, .bool a0_4, .bool a0_5, .slice A0_6 l0_6.length c0_6, .bool a0_7, .slice A0_8 l0_8.length c0_8, .slice A0_9 l0_9.length c0_9, .slice A0_10 l0_10.length c0_10] 26 (0, 0)) (by (with_reducible repeat (first | refine blk_drewN ?_ _ | refine blk_drew ?_ | refine blk_alloc ?_ _)); exact BK123.out) hb); have n2_ := Aside0.mk (below_step (by repeat (first | (with_reducible first | exact HB.out | apply below_alloc | apply pw_below_drewN | apply below_drew1 | refine below_set ?_ GE123.out) | exact HB.out)) hb); clear BK123; clear HB; have HO126 := n0_; have BK123 := n1_; have HB := n2_; clear n0_ n1_ n2_; (try clear hb); (try clear hb2); (try clear hk); (try clear hi); (try clear ho0); obtain ⟨Ao9, co9, eo9⟩ := Kd.R_slice HO126.out; subst eo9))
    go_ret
    exact ⟨by first | rfl | (simp [errW_none, errW_some] <;> rfl) | (simp [*, errW_none, errW_some] <;> rfl), by repeat (first | (with_reducible first | exact HB.out | apply below_alloc | apply pw_below_drewN | apply below_drew1 | refine below_set ?_ GE123.out) | exact HB.out)⟩
  · rw [if_neg c5] at H
    have c5b0 : ((wrap64 ((t124.length : Int) / 2)) == 0) = false := beq_eq_false_iff_ne.mpr c5
    have c5b1 : ((wrap64 ((t124.length : Int) / 2)) != 0) = true := bne_iff_ne.mpr c5
    obtain ⟨ji10, hji10⟩ : ∃ j_ : Int, (mn a1 (wrap64 ((wrap64 ((t124.length : Int) / 2)) - 1))) = j_ := ⟨_, rfl⟩
    replace H : (if 0 ≤ (wrap64 ((wrap64 (2 * (ji10))) + a2)) then (if (wrap64 ((wrap64 (2 * (ji10))) + a2)) < (t124.length : Int) then (some (rdOf ByteArray.empty t124 (wrap64 ((wrap64 (2 * (ji10))) + a2)))) else (none)) else (none)) = some r := by first | (rw [hji10] at H; exact H) | (simp only [hji10] at H ⊢; exact H)
    (try rw [hji10] at A4)
    have hji10_ : (if (wrap64 ((wrap64 ((t124.length : Int) / 2)) - 1)) < a1 then (wrap64 ((wrap64 ((t124.length : Int) / 2)) - 1)) else a1) = ji10 := hji10
    obtain ⟨ji11, hji11⟩ : ∃ j_ : Int, (wrap64 ((wrap64 (2 * (ji10))) + a2)) = j_ := ⟨_, rfl⟩
    replace H : (if 0 ≤ (ji11) then (if (ji11) < (t124.length : Int) then (some (rdOf ByteArray.empty t124 (ji11))) else (none)) else (none)) = some r := by first | (rw [hji11] at H; exact H) | (simp only [hji11] at H ⊢; exact H)
    (try rw [hji11] at A4)
    have hji11w : (IntKind.i64.wrap ((wrap64 (2 * (ji10))) + a2)) = ji11 := (i64_w _).trans hji11
    by_cases c12 : 0 ≤ (ji11)
    · rw [if_pos c12] at H
      have c12b0 : decide (0 ≤ (ji11)) = true := decide_eq_true c12
      clear c12
      by_cases c13 : (ji11) < (t124.length : Int)
      · rw [if_pos c13] at H
        have c13b0 : decide ((ji11) < (t124.length : Int)) = true := decide_eq_true c13
        clear c13
        obtain rfl := Option.some.inj H
        go_enter Try.func17, Try.ntmps17
        go_wp2_with (first | ((with_reducible refine gate_dst (N := 3) rfl ?_); refine box_event ?hg (N := 3) ?hd (cs := #[.string a0_0, .string a0_1, .string a0_2, .slice A0_3 l0_3.length c0_3, .bool a0_4, .bool a0_5, .slice A0_6 l0_6.length c0_6, .bool a0_7, .slice A0_8 l0_8.length c0_8, .slice A0_9 l0_9.length c0_9, .slice A0_10 l0_10.length c0_10]) (t := 26) ?hr ?_; (case hd => rfl); (case hg => rfl); (case hr => first | (go_simp; done) | (go_simp; rfl)); intro gb123 hg w14 hbox hb; have n0_ := Aside0.mk (below_step (by repeat (first | (with_reducible first | exact HB.out | apply below_alloc | apply pw_below_drewN | apply below_drew1) | exact HB.out)) hb); have n1_ := Aside0.mk (hbox); have n2_ := Aside0.mk ((by rw [hg]; exact (below_size (by repeat (first | (with_reducible first | exact HB.out | apply below_alloc | apply pw_below_drewN | apply below_drew1) | exact HB.out))) : w.heap.size ≤ gb123)); have n3_ := Aside0.mk ((by rw [hg]; exact (below_size (by repeat (first | (with_reducible first | exact HB.out | apply below_alloc | apply pw_below_drewN | apply below_drew1) | exact HB.out))) : w.heap.size ≤ gb123)); clear HB; have HB := n0_; have BK123 := n1_; have GW123 := n2_; have GE123 := n3_; clear n0_ n1_ n2_ n3_; clear hb hbox hg; have hcz15_0 : w14.cell? ⟨gb123, 0, none⟩ = some (.string a0_0) := (blk_cell BK123.out 0).trans rfl; have hcz15_1 : w14.cell? ⟨gb123, 1, none⟩ = some (.string a0_1) := (blk_cell BK123.out 1).trans rfl; have hcz15_2 : w14.cell? ⟨gb123, 2, none⟩ = some (.string a0_2) := (blk_cell BK123.out 2).trans rfl; have hcz15_3 : w14.cell? ⟨gb123, 3, none⟩ = some (.slice A0_3 l0_3.length c0_3) := (blk_cell BK123.out 3).trans rfl; have hcz15_4 : w14.cell? ⟨gb123, 4, none⟩ = some (.bool a0_4) := (blk_cell BK123.out 4).trans rfl; have hcz15_5 : w14.cell? ⟨gb123, 5, none⟩ = some (.bool a0_5) := (blk_cell BK123.out 5).trans rfl; have hcz15_6 : w14.cell? ⟨gb123, 6, none⟩ = some (.slice A0_6 l0_6.length c0_6) := (blk_cell BK123.out 6).trans rfl; have hcz15_7 : w14.cell? ⟨gb123, 7, none⟩ = some (.bool a0_7) := (blk_cell BK123.out 7).trans rfl; have hcz15_8 : w14.cell? ⟨gb123, 8, none⟩ = some (.slice A0_8 l0_8.length c0_8) := (blk_cell BK123.out 8).trans rfl; have hcz15_9 : w14.cell? ⟨gb123, 9, none⟩ = some (.slice A0_9 l0_9.length c0_9) := (blk_cell BK123.out 9).trans rfl; have hcz15_10 : w14.cell? ⟨gb123, 10, none⟩ = some (.slice A0_10 l0_10.length c0_10) := (blk_cell BK123.out 10).trans rfl; have hfz15_0 := blk_frozen BK123.out 0; have hfz15_1 := blk_frozen BK123.out 1; have hfz15_2 := blk_frozen BK123.out 2; have hfz15_3 := blk_frozen BK123.out 3; have hfz15_4 := blk_frozen BK123.out 4; have hfz15_5 := blk_frozen BK123.out 5; have hfz15_6 := blk_frozen BK123.out 6; have hfz15_7 := blk_frozen BK123.out 7; have hfz15_8 := blk_frozen BK123.out 8; have hfz15_9 := blk_frozen BK123.out 9; have hfz15_10 := blk_frozen BK123.out 10) | ((with_reducible refine gate_callee (f := 12) rfl ?_); refine goesL_ (some 10) rfl rfl Try.func12 (by kernel_rfl) rfl #[.agg #[.string a0_0, .string a0_1, .string a0_2, .slice A0_3 l0_3.length c0_3, .bool a0_4, .bool a0_5, .slice A0_6 l0_6.length c0_6, .bool a0_7, .slice A0_8 l0_8.length c0_8, .slice A0_9 l0_9.length c0_9, .slice A0_10 l0_10.length c0_10]] rfl (by (try simp only [List.map_toArray, List.map_cons, List.map_nil]); first | done | rfl | (simp only [List.length_drop, List.length_take]; rfl)) ?_; (with_reducible refine (quote_Marks.calls a0_0 a0_1 a0_2 _ _ l0_3 a0_4 a0_5 _ _ l0_6 a0_7 _ _ l0_8 _ _ l0_9 _ _ l0_10 t124 _ ?side1 ?side2 ?side3 ?side4 ?side5 ?side6 ?side7 ?side8 ?side9 ?side10 A4.out).mono ?_); (case side1 => repeat (first | exact (Kd.C_below HR0_3.out HB.out) | (with_reducible refine Kd.C_alloc ?_ _) | (with_reducible refine Kd.C_drewN ?_ _) | (with_reducible refine Kd.C_drew ?_))); (case side2 => exact HC0_3.out); (case side3 => repeat (first | exact (Kd.C_below HR0_6.out HB.out) | (with_reducible refine Kd.C_alloc ?_ _) | (with_reducible refine Kd.C_drewN ?_ _) | (with_reducible refine Kd.C_drew ?_))); (case side4 => exact HC0_6.out); (case side5 => repeat (first | exact (Kd.C_below HR0_8.out HB.out) | (with_reducible refine Kd.C_alloc ?_ _) | (with_reducible refine Kd.C_drewN ?_ _) | (with_reducible refine Kd.C_drew ?_))); (case side6 => exact HC0_8.out); (case side7 => repeat (first | exact (Kd.C_below HR0_9.out HB.out) | (with_reducible refine Kd.C_alloc ?_ _) | (with_reducible refine Kd.C_drewN ?_ _) | (with_reducible refine Kd.C_drew ?_))); (case side8 => exact HC0_9.out); (case side9 => repeat (first | exact (Kd.C_below HR0_10.out HB.out) | (with_reducible refine Kd.C_alloc ?_ _) | (with_reducible refine Kd.C_drewN ?_ _) | (with_reducible refine Kd.C_drew ?_))); (case side10 => exact HC0_10.out); rintro e w16 ⟨v125, rfl, ho0, hb⟩; refine ⟨_, rfl, ?_⟩; have n0_ := Aside0.mk (Kd.R_lower ho0 (below_size (by repeat (first | (with_reducible first | exact HB.out | apply below_alloc | apply pw_below_drewN | apply below_drew1 | refine below_set ?_ GE123.out) | exact HB.out)))); have n1_ := Aside0.mk (blk_below (g := gb123) (o := .cells #[.string a0_0, .string a0_1, .string a0_2, .slice A0_3 l0_3.length c0_3, .bool a0_4, .bool a0_5, .slice A0_6 l0_6.length c0_6, .bool a0_7, .slice A0_8 l0_8.length c0_8, .slice A0_9 l0_9.length c0_9, .slice A0_10 l0_10.length c0_10] 26 (0, 0)) (by (with_reducible repeat (first | refine blk_drewN ?_ _ | refine blk_drew ?_ | refine blk_alloc ?_ _)); exact BK123.out) hb); have n2_ := Aside0.mk (below_step (by repeat (first | (with_reducible first | exact HB.out | apply below_alloc | apply pw_below_drewN | apply below_drew1 | refine below_set ?_ GE123.out) | exact HB.out)) hb); clear BK123; clear HB; have HO126 := n0_; have BK123 := n1_; have HB := n2_; clear n0_ n1_ n2_; (try clear hb); (try clear hb2); (try clear hk); (try clear hi); (try clear ho0); obtain ⟨Ao17, co17, eo17⟩ := Kd.R_slice HO126.out; subst eo17; have p127 : 0 ≤ ((ji11) : Int) := of_decide_eq_true (by first | (with_reducible assumption) | assumption); have q127 : (ji11) < (t124.length : Int) := of_decide_eq_true (by first | (with_reducible assumption) | assumption); obtain ⟨ad127, e127, hx127_0⟩ := Kd.at_string (Kd.R_reads' HO126.out).2.2 (ji11) p127 q127; cases e127; replace p127 := eq_true p127; replace q127 := eq_true q127))
        go_ret
        exact ⟨by first | rfl | (simp [errW_none, errW_some] <;> rfl) | (simp only [← hji10, ← hji11]; first | rfl | (simp [errW_none, errW_some] <;> rfl)) | (simp [*, errW_none, errW_some] <;> rfl), by repeat (first | (with_reducible first | exact HB.out | apply below_alloc | apply pw_below_drewN | apply below_drew1 | refine below_set ?_ GE123.out) | exact HB.out)⟩
      · rw [if_neg c13] at H
        exact absurd H (by simp)
    · rw [if_neg c12] at H
      exact absurd H (by simp)

/-! ### quote_Do: function 9 -/
def quote_Do.j0 : Nat → Int → Int → Bool → ByteArray → ByteArray → ByteArray → List (S43) → Bool → Bool → List ByteArray → Bool → List (S47) → List (S47) → List (S47) → Option (ByteArray × Int)
  | 0, _, _, _, _, _, _, _, _, _, _, _, _, _, _ => none
  | k + 1, x1, x2, x25, x129000, x129001, x129002, x129003, x129004, x129005, x129006, x129007, x129008, x129009, x129010 => if x25 = true then ((quote_mark.f x129000 x129001 x129002 x129003 x129004 x129005 x129006 x129007 x129008 x129009 x129010 (wrap64 (x1 - 1)) 1).bind fun t130 => (some (t130, wrap64 (x1 - 1)))) else (if x2 = 8 then (if x1 > 0 then (some ((⟨#[]⟩ : ByteArray), wrap64 (x1 - 1))) else (some ((⟨#[]⟩ : ByteArray), x1))) else (some ((⟨#[]⟩ : ByteArray), x1)))
def quote_Do.f (k : Nat) (a0_0 : ByteArray) (a0_1 : ByteArray) (a0_2 : ByteArray) (l0_3 : List (S43)) (a0_4 : Bool) (a0_5 : Bool) (l0_6 : List ByteArray) (a0_7 : Bool) (l0_8 : List (S47)) (l0_9 : List (S47)) (l0_10 : List (S47)) (a1 : Int) (a2 : Int) : Option (ByteArray × Int) := if a2 = 5 then ((quote_mark.f a0_0 a0_1 a0_2 l0_3 a0_4 a0_5 l0_6 a0_7 l0_8 l0_9 l0_10 (mx a1 0) 0).bind fun t129 => (some (t129, (mn (mx a1 0) 2147483646) + 1))) else (if a2 = 7 then (some ((⟨#[]⟩ : ByteArray), (mn (mx a1 0) 2147483646) + 1)) else (if a2 = 6 then (quote_Do.j0 k (mx a1 0) a2 (decide ((mx a1 0) > 0)) a0_0 a0_1 a0_2 l0_3 a0_4 a0_5 l0_6 a0_7 l0_8 l0_9 l0_10) else (quote_Do.j0 k (mx a1 0) a2 false a0_0 a0_1 a0_2 l0_3 a0_4 a0_5 l0_6 a0_7 l0_8 l0_9 l0_10)))
theorem quote_Do.mono_l : ∀ k, (∀ y0 y1 y2 y3 y4 y5 y6 y7 y8 y9 y10 y11 y12 y13, LeO (quote_Do.j0 k y0 y1 y2 y3 y4 y5 y6 y7 y8 y9 y10 y11 y12 y13) (quote_Do.j0 (k + 1) y0 y1 y2 y3 y4 y5 y6 y7 y8 y9 y10 y11 y12 y13))
  | 0 => fun _ _ _ _ _ _ _ _ _ _ _ _ _ _ r h => by simp [quote_Do.j0] at h
  | k + 1 => by
    have ih0 := quote_Do.mono_l k
    · intro y0 y1 y2 y3 y4 y5 y6 y7 y8 y9 y10 y11 y12 y13
      unfold quote_Do.j0
      repeat' first
      | (with_reducible exact ih0 _ _ _ _ _ _ _ _ _ _ _ _ _ _)
      | (with_reducible exact LeO.refl _)
      | (with_reducible exact LeO.none _)
      | (with_reducible refine LeO.ite ?_ ?_)
      | (with_reducible refine LeO.bind ?_ (fun _ => ?_))
      | exact ih0 _ _ _ _ _ _ _ _ _ _ _ _ _ _
      | exact LeO.none _
      | refine LeO.ite ?_ ?_
      | refine LeO.bind ?_ (fun _ => ?_)
theorem quote_Do.mono : ∀ a0 a1 a2 a3 a4 a5 a6 a7 a8 a9 a10 a11 a12 k, LeO (quote_Do.f k a0 a1 a2 a3 a4 a5 a6 a7 a8 a9 a10 a11 a12) (quote_Do.f (k + 1) a0 a1 a2 a3 a4 a5 a6 a7 a8 a9 a10 a11 a12) := by
  intro a0 a1 a2 a3 a4 a5 a6 a7 a8 a9 a10 a11 a12 k
  have ih0 := quote_Do.mono_l k
  unfold quote_Do.f
  repeat' first
      | (with_reducible exact ih0 _ _ _ _ _ _ _ _ _ _ _ _ _ _)
      | (with_reducible exact LeO.refl _)
      | (with_reducible exact LeO.none _)
      | (with_reducible refine LeO.ite ?_ ?_)
      | (with_reducible refine LeO.bind ?_ (fun _ => ?_))
      | exact ih0 _ _ _ _ _ _ _ _ _ _ _ _ _ _
      | exact LeO.none _
      | refine LeO.ite ?_ ?_
      | refine LeO.bind ?_ (fun _ => ?_)
set_option maxHeartbeats 8000000 in
set_option maxRecDepth 100000 in
theorem quote_Do.calls (k : Nat) (a0_0 : ByteArray) (a0_1 : ByteArray) (a0_2 : ByteArray) (A0_3 : Option Addr) (c0_3 : Nat) (l0_3 : List (S43)) (a0_4 : Bool) (a0_5 : Bool) (A0_6 : Option Addr) (c0_6 : Nat) (l0_6 : List ByteArray) (a0_7 : Bool) (A0_8 : Option Addr) (c0_8 : Nat) (l0_8 : List (S47)) (A0_9 : Option Addr) (c0_9 : Nat) (l0_9 : List (S47)) (A0_10 : Option Addr) (c0_10 : Nat) (l0_10 : List (S47)) (a1 : Int) (a2 : Int) (r1 : ByteArray) (r2 : Int) (w : World) (hr0_3 : Kd.C k43 w A0_3 l0_3.length l0_3) (hc0_3 : l0_3.length ≤ c0_3) (hr0_6 : Kd.C Kd.string w A0_6 l0_6.length l0_6) (hc0_6 : l0_6.length ≤ c0_6) (hr0_8 : Kd.C k47 w A0_8 l0_8.length l0_8) (hc0_8 : l0_8.length ≤ c0_8) (hr0_9 : Kd.C k47 w A0_9 l0_9.length l0_9) (hc0_9 : l0_9.length ≤ c0_9) (hr0_10 : Kd.C k47 w A0_10 l0_10.length l0_10) (hc0_10 : l0_10.length ≤ c0_10) (h : quote_Do.f k a0_0 a0_1 a0_2 l0_3 a0_4 a0_5 l0_6 a0_7 l0_8 l0_9 l0_10 a1 a2 = some (r1, r2)) :
    Calls Try.prog 9 #[.agg #[.string a0_0, .string a0_1, .string a0_2, .slice A0_3 l0_3.length c0_3, .bool a0_4, .bool a0_5, .slice A0_6 l0_6.length c0_6, .bool a0_7, .slice A0_8 l0_8.length c0_8, .slice A0_9 l0_9.length c0_9, .slice A0_10 l0_10.length c0_10], .int .i64 a1, .int .i64 a2] w fun e w' => e = .returned (.tuple #[.string r1, .int .i64 r2]) ∧ Below w.heap.size w w' := by
  have hu26 := Try.underlying26
  have HR0_3 := Aside0.mk hr0_3
  have HC0_3 := Aside0.mk hc0_3
  clear hr0_3 hc0_3
  have HR0_6 := Aside0.mk hr0_6
  have HC0_6 := Aside0.mk hc0_6
  clear hr0_6 hc0_6
  have HR0_8 := Aside0.mk hr0_8
  have HC0_8 := Aside0.mk hc0_8
  clear hr0_8 hc0_8
  have HR0_9 := Aside0.mk hr0_9
  have HC0_9 := Aside0.mk hc0_9
  clear hr0_9 hc0_9
  have HR0_10 := Aside0.mk hr0_10
  have HC0_10 := Aside0.mk hc0_10
  clear hr0_10 hc0_10
  have HB := Aside0.mk (Below.refl w.heap.size w)
  have H : (if a2 = 5 then ((quote_mark.f a0_0 a0_1 a0_2 l0_3 a0_4 a0_5 l0_6 a0_7 l0_8 l0_9 l0_10 (mx a1 0) 0).bind fun t129 => (some (t129, (mn (mx a1 0) 2147483646) + 1))) else (if a2 = 7 then (some ((⟨#[]⟩ : ByteArray), (mn (mx a1 0) 2147483646) + 1)) else (if a2 = 6 then (quote_Do.j0 k (mx a1 0) a2 (decide ((mx a1 0) > 0)) a0_0 a0_1 a0_2 l0_3 a0_4 a0_5 l0_6 a0_7 l0_8 l0_9 l0_10) else (quote_Do.j0 k (mx a1 0) a2 false a0_0 a0_1 a0_2 l0_3 a0_4 a0_5 l0_6 a0_7 l0_8 l0_9 l0_10)))) = some (r1, r2) := h
  clear h
  obtain ⟨ji4, hji4⟩ : ∃ j_ : Int, (mx a1 0) = j_ := ⟨_, rfl⟩
  replace H : (if a2 = 5 then ((quote_mark.f a0_0 a0_1 a0_2 l0_3 a0_4 a0_5 l0_6 a0_7 l0_8 l0_9 l0_10 (ji4) 0).bind fun t129 => (some (t129, (mn (ji4) 2147483646) + 1))) else (if a2 = 7 then (some ((⟨#[]⟩ : ByteArray), (mn (ji4) 2147483646) + 1)) else (if a2 = 6 then (quote_Do.j0 k ji4 a2 (decide ((ji4) > 0)) a0_0 a0_1 a0_2 l0_3 a0_4 a0_5 l0_6 a0_7 l0_8 l0_9 l0_10) else (quote_Do.j0 k ji4 a2 false a0_0 a0_1 a0_2 l0_3 a0_4 a0_5 l0_6 a0_7 l0_8 l0_9 l0_10)))) = some (r1, r2) := by first | (rw [hji4] at H; exact H) | (simp only [hji4] at H ⊢; exact H)
  (try (have hji4l : 0 ≤ ji4 := by (rw [← hji4]; unfold mx; (repeat' split) <;> omega)))
  (try (have hji4m : 0 ≤ ji4 := by omega))
  have hji4_ : (if a1 < 0 then 0 else a1) = ji4 := hji4
  by_cases c5 : a2 = 5
  · rw [if_pos c5] at H
    have c5b0 : (a2 == 5) = true := beq_iff_eq.mpr c5
    have c5b1 : (a2 != 5) = false := bne_eq_false_iff_eq.mpr c5
    clear c5
    replace H := Option.bind_eq_some_iff.mp H
    obtain ⟨t129, A60, H⟩ := H
    replace H : (some (t129, (mn (ji4) 2147483646) + 1)) = some (r1, r2) := H
    have A6 := Aside0.mk A60
    clear A60
    obtain ⟨ji7, hji7⟩ : ∃ j_ : Int, (mn (ji4) 2147483646) = j_ := ⟨_, rfl⟩
    replace H : (some (t129, (ji7) + 1)) = some (r1, r2) := by first | (rw [hji7] at H; exact H) | (simp only [hji7] at H ⊢; exact H)
    (try rw [hji7] at A6)
    have hji7_ : (if 2147483646 < (ji4) then 2147483646 else (ji4)) = ji7 := hji7
    simp only [Option.some.injEq, Prod.mk.injEq] at H
    obtain ⟨rfl, rfl⟩ := H
    go_enter Try.func9, Try.ntmps9
    go_wp2_with (first | ((with_reducible refine gate_dst (N := 3) rfl ?_); refine box_event ?hg (N := 3) ?hd (cs := #[.string a0_0, .string a0_1, .string a0_2, .slice A0_3 l0_3.length c0_3, .bool a0_4, .bool a0_5, .slice A0_6 l0_6.length c0_6, .bool a0_7, .slice A0_8 l0_8.length c0_8, .slice A0_9 l0_9.length c0_9, .slice A0_10 l0_10.length c0_10]) (t := 26) ?hr ?_; (case hd => rfl); (case hg => rfl); (case hr => first | (go_simp; done) | (go_simp; rfl)); intro gb128 hg w8 hbox hb; have n0_ := Aside0.mk (below_step (by repeat (first | (with_reducible first | exact HB.out | apply below_alloc | apply pw_below_drewN | apply below_drew1) | exact HB.out)) hb); have n1_ := Aside0.mk (hbox); have n2_ := Aside0.mk ((by rw [hg]; exact (below_size (by repeat (first | (with_reducible first | exact HB.out | apply below_alloc | apply pw_below_drewN | apply below_drew1) | exact HB.out))) : w.heap.size ≤ gb128)); have n3_ := Aside0.mk ((by rw [hg]; exact (below_size (by repeat (first | (with_reducible first | exact HB.out | apply below_alloc | apply pw_below_drewN | apply below_drew1) | exact HB.out))) : w.heap.size ≤ gb128)); clear HB; have HB := n0_; have BK128 := n1_; have GW128 := n2_; have GE128 := n3_; clear n0_ n1_ n2_ n3_; clear hb hbox hg; have hcz9_0 : w8.cell? ⟨gb128, 0, none⟩ = some (.string a0_0) := (blk_cell BK128.out 0).trans rfl; have hcz9_1 : w8.cell? ⟨gb128, 1, none⟩ = some (.string a0_1) := (blk_cell BK128.out 1).trans rfl; have hcz9_2 : w8.cell? ⟨gb128, 2, none⟩ = some (.string a0_2) := (blk_cell BK128.out 2).trans rfl; have hcz9_3 : w8.cell? ⟨gb128, 3, none⟩ = some (.slice A0_3 l0_3.length c0_3) := (blk_cell BK128.out 3).trans rfl; have hcz9_4 : w8.cell? ⟨gb128, 4, none⟩ = some (.bool a0_4) := (blk_cell BK128.out 4).trans rfl; have hcz9_5 : w8.cell? ⟨gb128, 5, none⟩ = some (.bool a0_5) := (blk_cell BK128.out 5).trans rfl; have hcz9_6 : w8.cell? ⟨gb128, 6, none⟩ = some (.slice A0_6 l0_6.length c0_6) := (blk_cell BK128.out 6).trans rfl; have hcz9_7 : w8.cell? ⟨gb128, 7, none⟩ = some (.bool a0_7) := (blk_cell BK128.out 7).trans rfl; have hcz9_8 : w8.cell? ⟨gb128, 8, none⟩ = some (.slice A0_8 l0_8.length c0_8) := (blk_cell BK128.out 8).trans rfl; have hcz9_9 : w8.cell? ⟨gb128, 9, none⟩ = some (.slice A0_9 l0_9.length c0_9) := (blk_cell BK128.out 9).trans rfl; have hcz9_10 : w8.cell? ⟨gb128, 10, none⟩ = some (.slice A0_10 l0_10.length c0_10) := (blk_cell BK128.out 10).trans rfl; have hfz9_0 := blk_frozen BK128.out 0; have hfz9_1 := blk_frozen BK128.out 1; have hfz9_2 := blk_frozen BK128.out 2; have hfz9_3 := blk_frozen BK128.out 3; have hfz9_4 := blk_frozen BK128.out 4; have hfz9_5 := blk_frozen BK128.out 5; have hfz9_6 := blk_frozen BK128.out 6; have hfz9_7 := blk_frozen BK128.out 7; have hfz9_8 := blk_frozen BK128.out 8; have hfz9_9 := blk_frozen BK128.out 9; have hfz9_10 := blk_frozen BK128.out 10) | ((with_reducible refine gate_callee (f := 17) rfl ?_); refine goesL_ (some 15) rfl rfl Try.func17 (by kernel_rfl) rfl #[.agg #[.string a0_0, .string a0_1, .string a0_2, .slice A0_3 l0_3.length c0_3, .bool a0_4, .bool a0_5, .slice A0_6 l0_6.length c0_6, .bool a0_7, .slice A0_8 l0_8.length c0_8, .slice A0_9 l0_9.length c0_9, .slice A0_10 l0_10.length c0_10], .int .i64 ji4, .int .i64 0] rfl (by (try simp only [List.map_toArray, List.map_cons, List.map_nil]); first | done | (simp only [hji4]; rfl) | rfl | (simp only [List.length_drop, List.length_take]; rfl)) ?_; (with_reducible refine (quote_mark.calls a0_0 a0_1 a0_2 _ _ l0_3 a0_4 a0_5 _ _ l0_6 a0_7 _ _ l0_8 _ _ l0_9 _ _ l0_10 ji4 0 t129 _ ?side1 ?side2 ?side3 ?side4 ?side5 ?side6 ?side7 ?side8 ?side9 ?side10 A6.out).mono ?_); (case side1 => repeat (first | exact (Kd.C_below HR0_3.out HB.out) | (with_reducible refine Kd.C_alloc ?_ _) | (with_reducible refine Kd.C_drewN ?_ _) | (with_reducible refine Kd.C_drew ?_))); (case side2 => exact HC0_3.out); (case side3 => repeat (first | exact (Kd.C_below HR0_6.out HB.out) | (with_reducible refine Kd.C_alloc ?_ _) | (with_reducible refine Kd.C_drewN ?_ _) | (with_reducible refine Kd.C_drew ?_))); (case side4 => exact HC0_6.out); (case side5 => repeat (first | exact (Kd.C_below HR0_8.out HB.out) | (with_reducible refine Kd.C_alloc ?_ _) | (with_reducible refine Kd.C_drewN ?_ _) | (with_reducible refine Kd.C_drew ?_))); (case side6 => exact HC0_8.out); (case side7 => repeat (first | exact (Kd.C_below HR0_9.out HB.out) | (with_reducible refine Kd.C_alloc ?_ _) | (with_reducible refine Kd.C_drewN ?_ _) | (with_reducible refine Kd.C_drew ?_))); (case side8 => exact HC0_9.out); (case side9 => repeat (first | exact (Kd.C_below HR0_10.out HB.out) | (with_reducible refine Kd.C_alloc ?_ _) | (with_reducible refine Kd.C_drewN ?_ _) | (with_reducible refine Kd.C_drew ?_))); (case side10 => exact HC0_10.out); rintro e w10 ⟨rfl, hb⟩; refine ⟨_, rfl, ?_⟩; have n0_ := Aside0.mk (blk_below (g := gb128) (o := .cells #[.string a0_0, .string a0_1, .string a0_2, .slice A0_3 l0_3.length c0_3, .bool a0_4, .bool a0_5, .slice A0_6 l0_6.length c0_6, .bool a0_7, .slice A0_8 l0_8.length c0_8, .slice A0_9 l0_9.length c0_9, .slice A0_10 l0_10.length c0_10] 26 (0, 0)) (by (with_reducible repeat (first | refine blk_drewN ?_ _ | refine blk_drew ?_ | refine blk_alloc ?_ _)); exact BK128.out) hb); have n1_ := Aside0.mk (below_step (by repeat (first | (with_reducible first | exact HB.out | apply below_alloc | apply pw_below_drewN | apply below_drew1 | refine below_set ?_ GE128.out) | exact HB.out)) hb); clear BK128; clear HB; have BK128 := n0_; have HB := n1_; clear n0_ n1_; (try clear hb); (try clear hb2); (try clear hk); (try clear hi)))
    go_ret2
    exact ⟨by first | rfl | (simp [errW_none, errW_some] <;> rfl) | (simp only [← hji4, ← hji7]; first | rfl | (simp [errW_none, errW_some] <;> rfl)) | (simp [*, errW_none, errW_some] <;> rfl), by repeat (first | (with_reducible first | exact HB.out | apply below_alloc | apply pw_below_drewN | apply below_drew1 | refine below_set ?_ GE128.out) | exact HB.out)⟩
  · rw [if_neg c5] at H
    have c5b0 : (a2 == 5) = false := beq_eq_false_iff_ne.mpr c5
    have c5b1 : (a2 != 5) = true := bne_iff_ne.mpr c5
    by_cases c11 : a2 = 7
    · rw [if_pos c11] at H
      have c11b0 : (a2 == 7) = true := beq_iff_eq.mpr c11
      have c11b1 : (a2 != 7) = false := bne_eq_false_iff_eq.mpr c11
      clear c11
      obtain ⟨ji12, hji12⟩ : ∃ j_ : Int, (mn (ji4) 2147483646) = j_ := ⟨_, rfl⟩
      replace H : (some ((⟨#[]⟩ : ByteArray), (ji12) + 1)) = some (r1, r2) := by first | (rw [hji12] at H; exact H) | (simp only [hji12] at H ⊢; exact H)
      have hji12_ : (if 2147483646 < (ji4) then 2147483646 else (ji4)) = ji12 := hji12
      simp only [Option.some.injEq, Prod.mk.injEq] at H
      obtain ⟨rfl, rfl⟩ := H
      go_enter Try.func9, Try.ntmps9
      go_wp2_with (first | ((with_reducible refine gate_dst (N := 3) rfl ?_); refine box_event ?hg (N := 3) ?hd (cs := #[.string a0_0, .string a0_1, .string a0_2, .slice A0_3 l0_3.length c0_3, .bool a0_4, .bool a0_5, .slice A0_6 l0_6.length c0_6, .bool a0_7, .slice A0_8 l0_8.length c0_8, .slice A0_9 l0_9.length c0_9, .slice A0_10 l0_10.length c0_10]) (t := 26) ?hr ?_; (case hd => rfl); (case hg => rfl); (case hr => first | (go_simp; done) | (go_simp; rfl)); intro gb128 hg w13 hbox hb; have n0_ := Aside0.mk (below_step (by repeat (first | (with_reducible first | exact HB.out | apply below_alloc | apply pw_below_drewN | apply below_drew1) | exact HB.out)) hb); have n1_ := Aside0.mk (hbox); have n2_ := Aside0.mk ((by rw [hg]; exact (below_size (by repeat (first | (with_reducible first | exact HB.out | apply below_alloc | apply pw_below_drewN | apply below_drew1) | exact HB.out))) : w.heap.size ≤ gb128)); have n3_ := Aside0.mk ((by rw [hg]; exact (below_size (by repeat (first | (with_reducible first | exact HB.out | apply below_alloc | apply pw_below_drewN | apply below_drew1) | exact HB.out))) : w.heap.size ≤ gb128)); clear HB; have HB := n0_; have BK128 := n1_; have GW128 := n2_; have GE128 := n3_; clear n0_ n1_ n2_ n3_; clear hb hbox hg))
      go_ret2
      exact ⟨by first | rfl | (simp [errW_none, errW_some] <;> rfl) | (simp only [← hji4, ← hji12]; first | rfl | (simp [errW_none, errW_some] <;> rfl)) | (simp [*, errW_none, errW_some] <;> rfl), by repeat (first | (with_reducible first | exact HB.out | apply below_alloc | apply pw_below_drewN | apply below_drew1 | refine below_set ?_ GE128.out) | exact HB.out)⟩
    · rw [if_neg c11] at H
      have c11b0 : (a2 == 7) = false := beq_eq_false_iff_ne.mpr c11
      have c11b1 : (a2 != 7) = true := bne_iff_ne.mpr c11
      have HC14 := Aside0.mk H
      clear H
      go_enter Try.func9, Try.ntmps9
      go_upto_region 6 with (first | ((with_reducible refine gate_dst (N := 3) rfl ?_); refine box_event ?hg (N := 3) ?hd (cs := #[.string a0_0, .string a0_1, .string a0_2, .slice A0_3 l0_3.length c0_3, .bool a0_4, .bool a0_5, .slice A0_6 l0_6.length c0_6, .bool a0_7, .slice A0_8 l0_8.length c0_8, .slice A0_9 l0_9.length c0_9, .slice A0_10 l0_10.length c0_10]) (t := 26) ?hr ?_; (case hd => rfl); (case hg => rfl); (case hr => first | (go_simp; done) | (go_simp; rfl)); intro gb128 hg w15 hbox hb; have n0_ := Aside0.mk (below_step (by repeat (first | (with_reducible first | exact HB.out | apply below_alloc | apply pw_below_drewN | apply below_drew1) | exact HB.out)) hb); have n1_ := Aside0.mk (hbox); have n2_ := Aside0.mk ((by rw [hg]; exact (below_size (by repeat (first | (with_reducible first | exact HB.out | apply below_alloc | apply pw_below_drewN | apply below_drew1) | exact HB.out))) : w.heap.size ≤ gb128)); have n3_ := Aside0.mk ((by rw [hg]; exact (below_size (by repeat (first | (with_reducible first | exact HB.out | apply below_alloc | apply pw_below_drewN | apply below_drew1) | exact HB.out))) : w.heap.size ≤ gb128)); clear HB; have HB := n0_; have BK128 := n1_; have GW128 := n2_; have GE128 := n3_; clear n0_ n1_ n2_ n3_; clear hb hbox hg))
      (try simp only [Act.put, List.setIfInBounds_toArray, List.set_cons_zero, List.set_cons_succ])
      go_cut [25] (fun v25 wc => ∃ (kq : Nat) (x25_13 : Bool), v25 = .bool x25_13 ∧ Aside0 (quote_Do.j0 kq ji4 a2 x25_13 a0_0 a0_1 a0_2 l0_3 a0_4 a0_5 l0_6 a0_7 l0_8 l0_9 l0_10 = some (r1, r2)) ∧ Aside0 (kq ≤ k) ∧ Aside0 (wc.heap[gb128]? = some (.cells #[.string a0_0, .string a0_1, .string a0_2, (.slice A0_3 l0_3.length c0_3), .bool a0_4, .bool a0_5, (.slice A0_6 l0_6.length c0_6), .bool a0_7, (.slice A0_8 l0_8.length c0_8), (.slice A0_9 l0_9.length c0_9), (.slice A0_10 l0_10.length c0_10)] 26 (0, 0))) ∧ Aside0 (Below w.heap.size w wc))
      case first =>
        have H := HC14.out
        clear HC14
        by_cases c16 : a2 = 6
        · rw [if_pos c16] at H
          have c16b0 : (a2 == 6) = true := beq_iff_eq.mpr c16
          have c16b1 : (a2 != 6) = false := bne_eq_false_iff_eq.mpr c16
          clear c16
          (first | rw [c16b0] | (simp only [i64_w, i32_w]; rw [c16b0]) | skip)
          have H' := Aside0.mk H
          clear H
          go_wp2
          go_meet
          case rel => exact ⟨_, (decide ((ji4) > 0)), (by first | rfl | (simp; done) | (simp only [← hji4] <;> (first | rfl | simp)) | (simp [*]; done)), H', ⟨by first | omega | exact Nat.le_refl _⟩, ⟨by (with_reducible repeat (first | refine blk_drewN ?_ _ | refine blk_drew ?_ | refine blk_alloc ?_ _)); exact BK128.out⟩, ⟨by repeat (first | (with_reducible first | exact HB.out | apply below_alloc | apply pw_below_drewN | apply below_drew1 | refine below_set ?_ GE128.out) | exact HB.out)⟩⟩
        · rw [if_neg c16] at H
          have c16b0 : (a2 == 6) = false := beq_eq_false_iff_ne.mpr c16
          have c16b1 : (a2 != 6) = true := bne_iff_ne.mpr c16
          (first | rw [c16b0] | (simp only [i64_w, i32_w]; rw [c16b0]) | skip)
          have H' := Aside0.mk H
          clear H
          go_wp2
          go_meet
          case rel => exact ⟨_, (false), (by first | rfl | (simp; done) | (simp [*]; done)), H', ⟨by first | omega | exact Nat.le_refl _⟩, ⟨by (with_reducible repeat (first | refine blk_drewN ?_ _ | refine blk_drew ?_ | refine blk_alloc ?_ _)); exact BK128.out⟩, ⟨by repeat (first | (with_reducible first | exact HB.out | apply below_alloc | apply pw_below_drewN | apply below_drew1 | refine below_set ?_ GE128.out) | exact HB.out)⟩⟩
      case rest =>
        clear HC14
        try clear c1
        try clear p2
        try clear c5
        try clear c5b0
        try clear c5b1
        try clear c9
        try clear c11
        try clear c11b0
        try clear c11b1
        try clear c16
        try clear c16b0
        try clear c16b1
        try clear hcz9_0
        try clear hcz9_1
        try clear hcz9_10
        try clear hcz9_2
        try clear hcz9_3
        try clear hcz9_4
        try clear hcz9_5
        try clear hcz9_6
        try clear hcz9_7
        try clear hcz9_8
        try clear hcz9_9
        try clear hfz9_0
        try clear hfz9_1
        try clear hfz9_10
        try clear hfz9_2
        try clear hfz9_3
        try clear hfz9_4
        try clear hfz9_5
        try clear hfz9_6
        try clear hfz9_7
        try clear hfz9_8
        try clear hfz9_9
        obtain ⟨kq, x25_13, rfl, HA, HJ13, BK128, HB⟩ := hcut
        cases kq with
        | zero => exact absurd HA.out (by simp [quote_Do.j0])
        | succ kj13 =>
          have H := HA.out
          clear HA
          simp only [quote_Do.j0] at H
          by_cases c17 : x25_13 = true
          · subst c17
            have H1 : ((quote_mark.f a0_0 a0_1 a0_2 l0_3 a0_4 a0_5 l0_6 a0_7 l0_8 l0_9 l0_10 (wrap64 (ji4 - 1)) 1).bind fun t130 => (some (t130, wrap64 (ji4 - 1)))) = some (r1, r2) := by rw [if_pos rfl] at H; exact H
            clear H
            have H := H1
            clear H1
            replace H := Option.bind_eq_some_iff.mp H
            obtain ⟨t130, A180, H⟩ := H
            replace H : (some (t130, wrap64 (ji4 - 1))) = some (r1, r2) := H
            have A18 := Aside0.mk A180
            clear A180
            simp only [Option.some.injEq, Prod.mk.injEq] at H
            obtain ⟨rfl, rfl⟩ := H
            have hcz19_0 : wc.cell? ⟨gb128, 0, none⟩ = some (.string a0_0) := (blk_cell BK128.out 0).trans rfl
            have hcz19_1 : wc.cell? ⟨gb128, 1, none⟩ = some (.string a0_1) := (blk_cell BK128.out 1).trans rfl
            have hcz19_2 : wc.cell? ⟨gb128, 2, none⟩ = some (.string a0_2) := (blk_cell BK128.out 2).trans rfl
            have hcz19_3 : wc.cell? ⟨gb128, 3, none⟩ = some (.slice A0_3 l0_3.length c0_3) := (blk_cell BK128.out 3).trans rfl
            have hcz19_4 : wc.cell? ⟨gb128, 4, none⟩ = some (.bool a0_4) := (blk_cell BK128.out 4).trans rfl
            have hcz19_5 : wc.cell? ⟨gb128, 5, none⟩ = some (.bool a0_5) := (blk_cell BK128.out 5).trans rfl
            have hcz19_6 : wc.cell? ⟨gb128, 6, none⟩ = some (.slice A0_6 l0_6.length c0_6) := (blk_cell BK128.out 6).trans rfl
            have hcz19_7 : wc.cell? ⟨gb128, 7, none⟩ = some (.bool a0_7) := (blk_cell BK128.out 7).trans rfl
            have hcz19_8 : wc.cell? ⟨gb128, 8, none⟩ = some (.slice A0_8 l0_8.length c0_8) := (blk_cell BK128.out 8).trans rfl
            have hcz19_9 : wc.cell? ⟨gb128, 9, none⟩ = some (.slice A0_9 l0_9.length c0_9) := (blk_cell BK128.out 9).trans rfl
            have hcz19_10 : wc.cell? ⟨gb128, 10, none⟩ = some (.slice A0_10 l0_10.length c0_10) := (blk_cell BK128.out 10).trans rfl
            have hfz19_0 := blk_frozen BK128.out 0
            have hfz19_1 := blk_frozen BK128.out 1
            have hfz19_2 := blk_frozen BK128.out 2
            have hfz19_3 := blk_frozen BK128.out 3
            have hfz19_4 := blk_frozen BK128.out 4
            have hfz19_5 := blk_frozen BK128.out 5
            have hfz19_6 := blk_frozen BK128.out 6
            have hfz19_7 := blk_frozen BK128.out 7
            have hfz19_8 := blk_frozen BK128.out 8
            have hfz19_9 := blk_frozen BK128.out 9
            have hfz19_10 := blk_frozen BK128.out 10
            go_wp2_with (first | ((with_reducible refine gate_callee (f := 17) rfl ?_); refine goesL_ (some 35) rfl rfl Try.func17 (by kernel_rfl) rfl #[.agg #[.string a0_0, .string a0_1, .string a0_2, .slice A0_3 l0_3.length c0_3, .bool a0_4, .bool a0_5, .slice A0_6 l0_6.length c0_6, .bool a0_7, .slice A0_8 l0_8.length c0_8, .slice A0_9 l0_9.length c0_9, .slice A0_10 l0_10.length c0_10], .int .i64 (wrap64 (ji4 - 1)), .int .i64 1] rfl (by (try simp only [List.map_toArray, List.map_cons, List.map_nil]); first | done | (simp only [hji4]; rfl) | rfl | (simp only [List.length_drop, List.length_take]; rfl)) ?_; (with_reducible refine (quote_mark.calls a0_0 a0_1 a0_2 _ _ l0_3 a0_4 a0_5 _ _ l0_6 a0_7 _ _ l0_8 _ _ l0_9 _ _ l0_10 (wrap64 (ji4 - 1)) 1 t130 _ ?side1 ?side2 ?side3 ?side4 ?side5 ?side6 ?side7 ?side8 ?side9 ?side10 A18.out).mono ?_); (case side1 => repeat (first | exact (Kd.C_below HR0_3.out HB.out) | (with_reducible refine Kd.C_alloc ?_ _) | (with_reducible refine Kd.C_drewN ?_ _) | (with_reducible refine Kd.C_drew ?_))); (case side2 => exact HC0_3.out); (case side3 => repeat (first | exact (Kd.C_below HR0_6.out HB.out) | (with_reducible refine Kd.C_alloc ?_ _) | (with_reducible refine Kd.C_drewN ?_ _) | (with_reducible refine Kd.C_drew ?_))); (case side4 => exact HC0_6.out); (case side5 => repeat (first | exact (Kd.C_below HR0_8.out HB.out) | (with_reducible refine Kd.C_alloc ?_ _) | (with_reducible refine Kd.C_drewN ?_ _) | (with_reducible refine Kd.C_drew ?_))); (case side6 => exact HC0_8.out); (case side7 => repeat (first | exact (Kd.C_below HR0_9.out HB.out) | (with_reducible refine Kd.C_alloc ?_ _) | (with_reducible refine Kd.C_drewN ?_ _) | (with_reducible refine Kd.C_drew ?_))); (case side8 => exact HC0_9.out); (case side9 => repeat (first | exact (Kd.C_below HR0_10.out HB.out) | (with_reducible refine Kd.C_alloc ?_ _) | (with_reducible refine Kd.C_drewN ?_ _) | (with_reducible refine Kd.C_drew ?_))); (case side10 => exact HC0_10.out); rintro e w20 ⟨rfl, hb⟩; refine ⟨_, rfl, ?_⟩; have n0_ := Aside0.mk (blk_below (g := gb128) (o := .cells #[.string a0_0, .string a0_1, .string a0_2, .slice A0_3 l0_3.length c0_3, .bool a0_4, .bool a0_5, .slice A0_6 l0_6.length c0_6, .bool a0_7, .slice A0_8 l0_8.length c0_8, .slice A0_9 l0_9.length c0_9, .slice A0_10 l0_10.length c0_10] 26 (0, 0)) (by (with_reducible repeat (first | refine blk_drewN ?_ _ | refine blk_drew ?_ | refine blk_alloc ?_ _)); exact BK128.out) hb); have n1_ := Aside0.mk (below_step (by repeat (first | (with_reducible first | exact HB.out | apply below_alloc | apply pw_below_drewN | apply below_drew1 | refine below_set ?_ GE128.out) | exact HB.out)) hb); clear BK128; clear HB; have BK128 := n0_; have HB := n1_; clear n0_ n1_; (try clear hb); (try clear hb2); (try clear hk); (try clear hi)))
            go_ret2
            exact ⟨by first | rfl | (simp [errW_none, errW_some] <;> rfl) | (simp only [← hji4]; first | rfl | (simp [errW_none, errW_some] <;> rfl)) | (simp [*, errW_none, errW_some] <;> rfl), by repeat (first | (with_reducible first | exact HB.out | apply below_alloc | apply pw_below_drewN | apply below_drew1 | refine below_set ?_ GE128.out) | exact HB.out)⟩
          · replace c17 := Bool.eq_false_iff.mpr c17
            subst c17
            have H1 : (if a2 = 8 then (if ji4 > 0 then (some ((⟨#[]⟩ : ByteArray), wrap64 (ji4 - 1))) else (some ((⟨#[]⟩ : ByteArray), ji4))) else (some ((⟨#[]⟩ : ByteArray), ji4))) = some (r1, r2) := by rw [if_neg (show ¬ (false = true) by decide)] at H; exact H
            clear H
            have H := H1
            clear H1
            by_cases c21 : a2 = 8
            · rw [if_pos c21] at H
              have c21b0 : (a2 == 8) = true := beq_iff_eq.mpr c21
              have c21b1 : (a2 != 8) = false := bne_eq_false_iff_eq.mpr c21
              clear c21
              by_cases c22 : ji4 > 0
              · rw [if_pos c22] at H
                have c22b0 : decide (0 < ji4) = true := decide_eq_true c22
                clear c22
                simp only [Option.some.injEq, Prod.mk.injEq] at H
                obtain ⟨rfl, rfl⟩ := H
                go_wp2
                go_ret2
                exact ⟨by first | rfl | (simp [errW_none, errW_some] <;> rfl) | (simp only [← hji4]; first | rfl | (simp [errW_none, errW_some] <;> rfl)) | (simp [*, errW_none, errW_some] <;> rfl), by repeat (first | (with_reducible first | exact HB.out | apply below_alloc | apply pw_below_drewN | apply below_drew1 | refine below_set ?_ GE128.out) | exact HB.out)⟩
              · rw [if_neg c22] at H
                have c22b0 : decide (0 < ji4) = false := decide_eq_false c22
                clear c22
                simp only [Option.some.injEq, Prod.mk.injEq] at H
                obtain ⟨rfl, rfl⟩ := H
                go_wp2
                go_ret2
                exact ⟨by first | rfl | (simp [errW_none, errW_some] <;> rfl) | (simp only [← hji4]; first | rfl | (simp [errW_none, errW_some] <;> rfl)) | (simp [*, errW_none, errW_some] <;> rfl), by repeat (first | (with_reducible first | exact HB.out | apply below_alloc | apply pw_below_drewN | apply below_drew1 | refine below_set ?_ GE128.out) | exact HB.out)⟩
            · rw [if_neg c21] at H
              have c21b0 : (a2 == 8) = false := beq_eq_false_iff_ne.mpr c21
              have c21b1 : (a2 != 8) = true := bne_iff_ne.mpr c21
              simp only [Option.some.injEq, Prod.mk.injEq] at H
              obtain ⟨rfl, rfl⟩ := H
              go_wp2
              go_ret2
              exact ⟨by first | rfl | (simp [errW_none, errW_some] <;> rfl) | (simp only [← hji4]; first | rfl | (simp [errW_none, errW_some] <;> rfl)) | (simp [*, errW_none, errW_some] <;> rfl), by repeat (first | (with_reducible first | exact HB.out | apply below_alloc | apply pw_below_drewN | apply below_drew1 | refine below_set ?_ GE128.out) | exact HB.out)⟩

/-! ### quote_Depth: function 15 -/
def quote_Depth.l0 : Nat → Int → List Int → Int → Int → Option (Int)
  | 0, _, _, _, _ => none
  | k + 1, x2, x5, x6, x7 => if x7 < x6 then (if 0 ≤ x7 then (if x7 < (x5.length : Int) then ((quote_Do.f k (⟨#[]⟩ : ByteArray) (⟨#[]⟩ : ByteArray) (⟨#[]⟩ : ByteArray) ([] : List (S43)) false false ([] : List ByteArray) false ([] : List (S47)) ([] : List (S47)) ([] : List (S47)) x2 (rd x5 x7)).bind fun bt132 => (quote_Depth.l0 k bt132.2 x5 x6 (wrap64 (x7 + 1)))) else (none)) else (none)) else (some x2)
def quote_Depth.f (k : Nat) (l0 : List Int) : Option (Int) := quote_Depth.l0 k 0 l0 (l0.length : Int) 0
theorem quote_Depth.mono_l : ∀ k, (∀ y0 y1 y2 y3, LeO (quote_Depth.l0 k y0 y1 y2 y3) (quote_Depth.l0 (k + 1) y0 y1 y2 y3))
  | 0 => fun _ _ _ _ r h => by simp [quote_Depth.l0] at h
  | k + 1 => by
    have ih0 := quote_Depth.mono_l k
    · intro y0 y1 y2 y3
      unfold quote_Depth.l0
      repeat' first
      | (with_reducible exact ih0 _ _ _ _)
      | (with_reducible exact quote_Do.mono _ _ _ _ _ _ _ _ _ _ _ _ _ _)
      | (with_reducible exact LeO.refl _)
      | (with_reducible exact LeO.none _)
      | (with_reducible refine LeO.ite ?_ ?_)
      | (with_reducible refine LeO.bind ?_ (fun _ => ?_))
      | exact ih0 _ _ _ _
      | exact quote_Do.mono _ _ _ _ _ _ _ _ _ _ _ _ _ _
      | exact LeO.none _
      | refine LeO.ite ?_ ?_
      | refine LeO.bind ?_ (fun _ => ?_)
theorem quote_Depth.mono : ∀ a0 k, LeO (quote_Depth.f k a0) (quote_Depth.f (k + 1) a0) := by
  intro a0 k
  have ih0 := quote_Depth.mono_l k
  unfold quote_Depth.f
  repeat' first
      | (with_reducible exact ih0 _ _ _ _)
      | (with_reducible exact quote_Do.mono _ _ _ _ _ _ _ _ _ _ _ _ _ _)
      | (with_reducible exact LeO.refl _)
      | (with_reducible exact LeO.none _)
      | (with_reducible refine LeO.ite ?_ ?_)
      | (with_reducible refine LeO.bind ?_ (fun _ => ?_))
      | exact ih0 _ _ _ _
      | exact quote_Do.mono _ _ _ _ _ _ _ _ _ _ _ _ _ _
      | exact LeO.none _
      | refine LeO.ite ?_ ?_
      | refine LeO.bind ?_ (fun _ => ?_)
set_option maxHeartbeats 8000000 in
set_option maxRecDepth 100000 in
theorem quote_Depth.calls (k : Nat) (A0 : Option Addr) (c0 : Nat) (l0 : List Int) (r : Int) (w : World) (hr0 : Kd.C (Kd.int .i64) w A0 l0.length l0) (hc0 : l0.length ≤ c0) (h : quote_Depth.f k l0 = some r) :
    Calls Try.prog 15 #[.slice A0 l0.length c0] w fun e w' => e = .returned (.int .i64 r) ∧ Below w.heap.size w w' := by
  have hu26 := Try.underlying26
  have HR0 := Aside0.mk hr0
  have HC0 := Aside0.mk hc0
  clear hr0 hc0
  have HB := Aside0.mk (Below.refl w.heap.size w)
  have H : (quote_Depth.l0 k 0 l0 (l0.length : Int) 0) = some r := h
  clear h
  have H' := Aside0.mk H
  clear H
  go_enter Try.func15, Try.ntmps15
  go_wp2
  go_loopg [2, 7] k (fun kq v2 v7 w' => ∃ (x2_1 : Int) (x7_1 : Int), v2 = .int .i64 x2_1 ∧ v7 = .int .i64 x7_1 ∧ Aside0 (quote_Depth.l0 kq x2_1 l0 (l0.length : Int) x7_1 = some r) ∧ Aside0 (kq ≤ k) ∧ Aside0 (Below w.heap.size w w'))
  case atStart => exact ⟨(0), (0), (by first | rfl | (simp; done) | (simp [*]; done)), (by first | rfl | (simp; done) | (simp [*]; done)), H', ⟨Nat.le_refl _⟩, ⟨by repeat (first | (with_reducible first | exact HB.out | apply below_alloc | apply pw_below_drewN | apply below_drew1) | exact HB.out)⟩⟩
  case round =>
    clear H'
    try clear c1
    obtain ⟨x2_1, x7_1, rfl, rfl, HA, HK1, HB⟩ := hrel
    cases gk with
    | zero => exact absurd HA.out (by simp [quote_Depth.l0])
    | succ k1 =>
      have H := HA.out
      clear HA
      simp only [quote_Depth.l0] at H
      by_cases c2 : x7_1 < (l0.length : Int)
      · rw [if_pos c2] at H
        have c2b0 : decide (x7_1 < (l0.length : Int)) = true := decide_eq_true c2
        clear c2
        by_cases c3 : 0 ≤ x7_1
        · rw [if_pos c3] at H
          have c3b0 : decide (0 ≤ x7_1) = true := decide_eq_true c3
          clear c3
          by_cases c4 : x7_1 < (l0.length : Int)
          · rw [if_pos c4] at H
            have c4b0 : decide (x7_1 < (l0.length : Int)) = true := decide_eq_true c4
            clear c4
            replace H := Option.bind_eq_some_iff.mp H
            obtain ⟨⟨t132, t133⟩, A50, H⟩ := H
            replace H : (quote_Depth.l0 k1 t133 l0 (l0.length : Int) (wrap64 (x7_1 + 1))) = some r := H
            have A5 := Aside0.mk A50
            clear A50
            have H' := Aside0.mk H
            clear H
            have p131 : 0 ≤ (x7_1 : Int) := of_decide_eq_true (by first | (with_reducible assumption) | assumption)
            have q131 : x7_1 < (l0.length : Int) := of_decide_eq_true (by first | (with_reducible assumption) | assumption)
            obtain ⟨ad131, e131, hx131_0⟩ := Kd.at_int HR0.out x7_1 p131 q131
            cases e131
            replace hx131_0 := (HB.out.cell (World.block_lt_of_cell? w _ hx131_0)).trans hx131_0
            replace p131 := eq_true p131
            replace q131 := eq_true q131
            go_wp2_with (first | ((with_reducible refine gate_callee (f := 9) rfl ?_); refine goesL_ (some 15) rfl rfl Try.func9 (by kernel_rfl) rfl #[.agg #[.string (⟨#[]⟩ : ByteArray), .string (⟨#[]⟩ : ByteArray), .string (⟨#[]⟩ : ByteArray), .slice none 0 0, .bool false, .bool false, .slice none 0 0, .bool false, .slice none 0 0, .slice none 0 0, .slice none 0 0], .int .i64 x2_1, .int .i64 (rd l0 x7_1)] rfl (by (try simp only [List.map_toArray, List.map_cons, List.map_nil]); first | done | rfl | (simp only [List.length_drop, List.length_take]; rfl)) ?_; (refine (quote_Do.calls k1 (⟨#[]⟩ : ByteArray) (⟨#[]⟩ : ByteArray) (⟨#[]⟩ : ByteArray) _ _ ([] : List (S43)) false false _ _ ([] : List ByteArray) false _ _ ([] : List (S47)) _ _ ([] : List (S47)) _ _ ([] : List (S47)) x2_1 (rd l0 x7_1) t132 t133 _ ?side1 ?side2 ?side3 ?side4 ?side5 ?side6 ?side7 ?side8 ?side9 ?side10 A5.out).mono ?_); (case side1 => exact Kd.C_nil _ _); (case side2 => exact Nat.le_refl _); (case side3 => exact Kd.C_nil _ _); (case side4 => exact Nat.le_refl _); (case side5 => exact Kd.C_nil _ _); (case side6 => exact Nat.le_refl _); (case side7 => exact Kd.C_nil _ _); (case side8 => exact Nat.le_refl _); (case side9 => exact Kd.C_nil _ _); (case side10 => exact Nat.le_refl _); rintro e w6 ⟨rfl, hb⟩; refine ⟨_, rfl, ?_⟩; have n0_ := Aside0.mk (below_step (by repeat (first | (with_reducible first | exact HB.out | apply below_alloc | apply pw_below_drewN | apply below_drew1) | exact HB.out)) hb); clear HB; have HB := n0_; clear n0_; (try clear hb); (try clear hb2); (try clear hk); (try clear hi)))
            go_roundg k1
            case measure => have := HK1.out; omega
            case rel => exact ⟨(t133), (wrap64 (x7_1 + 1)), (by first | rfl | (simp; done) | (simp [*]; done)), (by first | rfl | (simp; done) | (simp [*]; done)), H', ⟨by have := HK1.out; omega⟩, ⟨by repeat (first | (with_reducible first | exact HB.out | apply below_alloc | apply pw_below_drewN | apply below_drew1) | exact HB.out)⟩⟩
          · rw [if_neg c4] at H
            exact absurd H (by simp)
        · rw [if_neg c3] at H
          exact absurd H (by simp)
      · rw [if_neg c2] at H
        have c2b0 : decide (x7_1 < (l0.length : Int)) = false := decide_eq_false c2
        clear c2
        obtain rfl := Option.some.inj H
        go_wp2
        go_ret
        exact ⟨by first | rfl | (simp [errW_none, errW_some] <;> rfl) | (simp [*, errW_none, errW_some] <;> rfl), by repeat (first | (with_reducible first | exact HB.out | apply below_alloc | apply pw_below_drewN | apply below_drew1) | exact HB.out)⟩

/-! ### fleuronlaw17_awake0: function 8 -/
def fleuronlaw17_awake0.f (k : Nat)  : Option (Bool) := (some (([(⟨#[60]⟩ : ByteArray), (⟨#[62]⟩ : ByteArray), (⟨#[40]⟩ : ByteArray), (⟨#[41]⟩ : ByteArray)] : List ByteArray) : List ByteArray)).bind fun y134 => ((quote_Do.f k (⟨#[]⟩ : ByteArray) (⟨#[]⟩ : ByteArray) (⟨#[]⟩ : ByteArray) ([] : List (S43)) false false y134 false ([] : List (S47)) ([] : List (S47)) ([] : List (S47)) 0 5).bind fun bt138 => ((quote_Do.f k (⟨#[]⟩ : ByteArray) (⟨#[]⟩ : ByteArray) (⟨#[]⟩ : ByteArray) ([] : List (S43)) false false y134 false ([] : List (S47)) ([] : List (S47)) ([] : List (S47)) 5 5).bind fun bt140 => ((quote_Do.f k (⟨#[]⟩ : ByteArray) (⟨#[]⟩ : ByteArray) (⟨#[]⟩ : ByteArray) ([] : List (S43)) false false y134 false ([] : List (S47)) ([] : List (S47)) ([] : List (S47)) 1 6).bind fun bt142 => ((quote_Do.f k (⟨#[]⟩ : ByteArray) (⟨#[]⟩ : ByteArray) (⟨#[]⟩ : ByteArray) ([] : List (S43)) false false y134 false ([] : List (S47)) ([] : List (S47)) ([] : List (S47)) 0 6).bind fun bt144 => (if bt138.1.toList = ([60] : List UInt8) then (if bt138.2 = 1 then (if bt140.1.toList = ([40] : List UInt8) then (if bt140.2 = 6 then (if bt142.1.toList = ([62] : List UInt8) then (if bt142.2 = 0 then (if bt144.1.toList = ([] : List UInt8) then (if bt144.2 = 0 then ((quote_Marks.f (⟨#[]⟩ : ByteArray) (⟨#[]⟩ : ByteArray) (⟨#[]⟩ : ByteArray) ([] : List (S43)) false false ([] : List ByteArray) true ([] : List (S47)) ([] : List (S47)) ([] : List (S47))).bind fun t146 => (if (t146.length : Int) = 4 then ((quote_Depth.f k (([7, 5, 8] : List Int))).bind fun t152 => (some (t152 == 1))) else (some false))) else (some false)) else (some false)) else (some false)) else (some false)) else (some false)) else (some false)) else (some false)) else (some false))))))
theorem fleuronlaw17_awake0.mono : ∀ k, LeO (fleuronlaw17_awake0.f k ) (fleuronlaw17_awake0.f (k + 1) ) := by
  intro  k
  unfold fleuronlaw17_awake0.f
  repeat' first
      | (with_reducible exact quote_Depth.mono _ _)
      | (with_reducible exact quote_Do.mono _ _ _ _ _ _ _ _ _ _ _ _ _ _)
      | (with_reducible exact LeO.refl _)
      | (with_reducible exact LeO.none _)
      | (with_reducible refine LeO.ite ?_ ?_)
      | (with_reducible refine LeO.bind ?_ (fun _ => ?_))
      | exact quote_Depth.mono _ _
      | exact quote_Do.mono _ _ _ _ _ _ _ _ _ _ _ _ _ _
      | exact LeO.none _
      | refine LeO.ite ?_ ?_
      | refine LeO.bind ?_ (fun _ => ?_)
set_option maxHeartbeats 8000000 in
set_option maxRecDepth 100000 in
theorem fleuronlaw17_awake0.calls (k : Nat)  (r : Bool) (w : World) (h : fleuronlaw17_awake0.f k  = some r) (htrue_ : r = true) :
    Calls Try.prog 8 #[] w fun e w' => e = .returned (.bool r) ∧ Below w.heap.size w w' := by
  have hu26 := Try.underlying26
  have HB := Aside0.mk (Below.refl w.heap.size w)
  have H : ((some (([(⟨#[60]⟩ : ByteArray), (⟨#[62]⟩ : ByteArray), (⟨#[40]⟩ : ByteArray), (⟨#[41]⟩ : ByteArray)] : List ByteArray) : List ByteArray)).bind fun y134 => ((quote_Do.f k (⟨#[]⟩ : ByteArray) (⟨#[]⟩ : ByteArray) (⟨#[]⟩ : ByteArray) ([] : List (S43)) false false y134 false ([] : List (S47)) ([] : List (S47)) ([] : List (S47)) 0 5).bind fun bt138 => ((quote_Do.f k (⟨#[]⟩ : ByteArray) (⟨#[]⟩ : ByteArray) (⟨#[]⟩ : ByteArray) ([] : List (S43)) false false y134 false ([] : List (S47)) ([] : List (S47)) ([] : List (S47)) 5 5).bind fun bt140 => ((quote_Do.f k (⟨#[]⟩ : ByteArray) (⟨#[]⟩ : ByteArray) (⟨#[]⟩ : ByteArray) ([] : List (S43)) false false y134 false ([] : List (S47)) ([] : List (S47)) ([] : List (S47)) 1 6).bind fun bt142 => ((quote_Do.f k (⟨#[]⟩ : ByteArray) (⟨#[]⟩ : ByteArray) (⟨#[]⟩ : ByteArray) ([] : List (S43)) false false y134 false ([] : List (S47)) ([] : List (S47)) ([] : List (S47)) 0 6).bind fun bt144 => (if bt138.1.toList = ([60] : List UInt8) then (if bt138.2 = 1 then (if bt140.1.toList = ([40] : List UInt8) then (if bt140.2 = 6 then (if bt142.1.toList = ([62] : List UInt8) then (if bt142.2 = 0 then (if bt144.1.toList = ([] : List UInt8) then (if bt144.2 = 0 then ((quote_Marks.f (⟨#[]⟩ : ByteArray) (⟨#[]⟩ : ByteArray) (⟨#[]⟩ : ByteArray) ([] : List (S43)) false false ([] : List ByteArray) true ([] : List (S47)) ([] : List (S47)) ([] : List (S47))).bind fun t146 => (if (t146.length : Int) = 4 then ((quote_Depth.f k (([7, 5, 8] : List Int))).bind fun t152 => (some (t152 == 1))) else (some false))) else (some false)) else (some false)) else (some false)) else (some false)) else (some false)) else (some false)) else (some false)) else (some false))))))) = some r := h
  clear h
  have HTRUE := Aside0.mk htrue_
  clear htrue_
  obtain ⟨y134, hy134⟩ : ∃ y_ : List ByteArray, y_ = (([(⟨#[60]⟩ : ByteArray), (⟨#[62]⟩ : ByteArray), (⟨#[40]⟩ : ByteArray), (⟨#[41]⟩ : ByteArray)] : List ByteArray)) := ⟨_, rfl⟩
  replace H : ((quote_Do.f k (⟨#[]⟩ : ByteArray) (⟨#[]⟩ : ByteArray) (⟨#[]⟩ : ByteArray) ([] : List (S43)) false false y134 false ([] : List (S47)) ([] : List (S47)) ([] : List (S47)) 0 5).bind fun bt138 => ((quote_Do.f k (⟨#[]⟩ : ByteArray) (⟨#[]⟩ : ByteArray) (⟨#[]⟩ : ByteArray) ([] : List (S43)) false false y134 false ([] : List (S47)) ([] : List (S47)) ([] : List (S47)) 5 5).bind fun bt140 => ((quote_Do.f k (⟨#[]⟩ : ByteArray) (⟨#[]⟩ : ByteArray) (⟨#[]⟩ : ByteArray) ([] : List (S43)) false false y134 false ([] : List (S47)) ([] : List (S47)) ([] : List (S47)) 1 6).bind fun bt142 => ((quote_Do.f k (⟨#[]⟩ : ByteArray) (⟨#[]⟩ : ByteArray) (⟨#[]⟩ : ByteArray) ([] : List (S43)) false false y134 false ([] : List (S47)) ([] : List (S47)) ([] : List (S47)) 0 6).bind fun bt144 => (if bt138.1.toList = ([60] : List UInt8) then (if bt138.2 = 1 then (if bt140.1.toList = ([40] : List UInt8) then (if bt140.2 = 6 then (if bt142.1.toList = ([62] : List UInt8) then (if bt142.2 = 0 then (if bt144.1.toList = ([] : List UInt8) then (if bt144.2 = 0 then ((quote_Marks.f (⟨#[]⟩ : ByteArray) (⟨#[]⟩ : ByteArray) (⟨#[]⟩ : ByteArray) ([] : List (S43)) false false ([] : List ByteArray) true ([] : List (S47)) ([] : List (S47)) ([] : List (S47))).bind fun t146 => (if (t146.length : Int) = 4 then ((quote_Depth.f k (([7, 5, 8] : List Int))).bind fun t152 => (some (t152 == 1))) else (some false))) else (some false)) else (some false)) else (some false)) else (some false)) else (some false)) else (some false)) else (some false)) else (some false)))))) = some r := by first | (rw [hy134]; with_reducible exact H) | (have H2_ := (Option.bind_some _ _).symm.trans H; rw [hy134]; with_reducible exact H2_) | (have H2_ := (Option.bind_some _ _).symm.trans H; with_reducible exact H2_) | with_reducible exact H | (rw [hy134]; exact H) | exact H
  have Ny134 := Aside0.mk hy134
  clear hy134
  replace H := Option.bind_eq_some_iff.mp H
  obtain ⟨⟨t138, t139⟩, A10, H⟩ := H
  replace H : ((quote_Do.f k (⟨#[]⟩ : ByteArray) (⟨#[]⟩ : ByteArray) (⟨#[]⟩ : ByteArray) ([] : List (S43)) false false y134 false ([] : List (S47)) ([] : List (S47)) ([] : List (S47)) 5 5).bind fun bt140 => ((quote_Do.f k (⟨#[]⟩ : ByteArray) (⟨#[]⟩ : ByteArray) (⟨#[]⟩ : ByteArray) ([] : List (S43)) false false y134 false ([] : List (S47)) ([] : List (S47)) ([] : List (S47)) 1 6).bind fun bt142 => ((quote_Do.f k (⟨#[]⟩ : ByteArray) (⟨#[]⟩ : ByteArray) (⟨#[]⟩ : ByteArray) ([] : List (S43)) false false y134 false ([] : List (S47)) ([] : List (S47)) ([] : List (S47)) 0 6).bind fun bt144 => (if t138.toList = ([60] : List UInt8) then (if t139 = 1 then (if bt140.1.toList = ([40] : List UInt8) then (if bt140.2 = 6 then (if bt142.1.toList = ([62] : List UInt8) then (if bt142.2 = 0 then (if bt144.1.toList = ([] : List UInt8) then (if bt144.2 = 0 then ((quote_Marks.f (⟨#[]⟩ : ByteArray) (⟨#[]⟩ : ByteArray) (⟨#[]⟩ : ByteArray) ([] : List (S43)) false false ([] : List ByteArray) true ([] : List (S47)) ([] : List (S47)) ([] : List (S47))).bind fun t146 => (if (t146.length : Int) = 4 then ((quote_Depth.f k (([7, 5, 8] : List Int))).bind fun t152 => (some (t152 == 1))) else (some false))) else (some false)) else (some false)) else (some false)) else (some false)) else (some false)) else (some false)) else (some false)) else (some false))))) = some r := H
  have A1 := Aside0.mk A10
  clear A10
  replace H := Option.bind_eq_some_iff.mp H
  obtain ⟨⟨t140, t141⟩, A20, H⟩ := H
  replace H : ((quote_Do.f k (⟨#[]⟩ : ByteArray) (⟨#[]⟩ : ByteArray) (⟨#[]⟩ : ByteArray) ([] : List (S43)) false false y134 false ([] : List (S47)) ([] : List (S47)) ([] : List (S47)) 1 6).bind fun bt142 => ((quote_Do.f k (⟨#[]⟩ : ByteArray) (⟨#[]⟩ : ByteArray) (⟨#[]⟩ : ByteArray) ([] : List (S43)) false false y134 false ([] : List (S47)) ([] : List (S47)) ([] : List (S47)) 0 6).bind fun bt144 => (if t138.toList = ([60] : List UInt8) then (if t139 = 1 then (if t140.toList = ([40] : List UInt8) then (if t141 = 6 then (if bt142.1.toList = ([62] : List UInt8) then (if bt142.2 = 0 then (if bt144.1.toList = ([] : List UInt8) then (if bt144.2 = 0 then ((quote_Marks.f (⟨#[]⟩ : ByteArray) (⟨#[]⟩ : ByteArray) (⟨#[]⟩ : ByteArray) ([] : List (S43)) false false ([] : List ByteArray) true ([] : List (S47)) ([] : List (S47)) ([] : List (S47))).bind fun t146 => (if (t146.length : Int) = 4 then ((quote_Depth.f k (([7, 5, 8] : List Int))).bind fun t152 => (some (t152 == 1))) else (some false))) else (some false)) else (some false)) else (some false)) else (some false)) else (some false)) else (some false)) else (some false)) else (some false)))) = some r := H
  have A2 := Aside0.mk A20
  clear A20
  replace H := Option.bind_eq_some_iff.mp H
  obtain ⟨⟨t142, t143⟩, A30, H⟩ := H
  replace H : ((quote_Do.f k (⟨#[]⟩ : ByteArray) (⟨#[]⟩ : ByteArray) (⟨#[]⟩ : ByteArray) ([] : List (S43)) false false y134 false ([] : List (S47)) ([] : List (S47)) ([] : List (S47)) 0 6).bind fun bt144 => (if t138.toList = ([60] : List UInt8) then (if t139 = 1 then (if t140.toList = ([40] : List UInt8) then (if t141 = 6 then (if t142.toList = ([62] : List UInt8) then (if t143 = 0 then (if bt144.1.toList = ([] : List UInt8) then (if bt144.2 = 0 then ((quote_Marks.f (⟨#[]⟩ : ByteArray) (⟨#[]⟩ : ByteArray) (⟨#[]⟩ : ByteArray) ([] : List (S43)) false false ([] : List ByteArray) true ([] : List (S47)) ([] : List (S47)) ([] : List (S47))).bind fun t146 => (if (t146.length : Int) = 4 then ((quote_Depth.f k (([7, 5, 8] : List Int))).bind fun t152 => (some (t152 == 1))) else (some false))) else (some false)) else (some false)) else (some false)) else (some false)) else (some false)) else (some false)) else (some false)) else (some false))) = some r := H
  have A3 := Aside0.mk A30
  clear A30
  replace H := Option.bind_eq_some_iff.mp H
  obtain ⟨⟨t144, t145⟩, A40, H⟩ := H
  replace H : (if t138.toList = ([60] : List UInt8) then (if t139 = 1 then (if t140.toList = ([40] : List UInt8) then (if t141 = 6 then (if t142.toList = ([62] : List UInt8) then (if t143 = 0 then (if t144.toList = ([] : List UInt8) then (if t145 = 0 then ((quote_Marks.f (⟨#[]⟩ : ByteArray) (⟨#[]⟩ : ByteArray) (⟨#[]⟩ : ByteArray) ([] : List (S43)) false false ([] : List ByteArray) true ([] : List (S47)) ([] : List (S47)) ([] : List (S47))).bind fun t146 => (if (t146.length : Int) = 4 then ((quote_Depth.f k (([7, 5, 8] : List Int))).bind fun t152 => (some (t152 == 1))) else (some false))) else (some false)) else (some false)) else (some false)) else (some false)) else (some false)) else (some false)) else (some false)) else (some false)) = some r := H
  have A4 := Aside0.mk A40
  clear A40
  by_cases c5 : t138.toList = ([60] : List UInt8)
  · rw [if_pos c5] at H
    have c5b0 : (t138.toList == ([60] : List UInt8)) = true := beq_iff_eq.mpr c5
    have c5b1 : (t138.toList != ([60] : List UInt8)) = false := bne_eq_false_iff_eq.mpr c5
    clear c5
    by_cases c6 : t139 = 1
    · rw [if_pos c6] at H
      have c6b0 : (t139 == 1) = true := beq_iff_eq.mpr c6
      have c6b1 : (t139 != 1) = false := bne_eq_false_iff_eq.mpr c6
      clear c6
      by_cases c7 : t140.toList = ([40] : List UInt8)
      · rw [if_pos c7] at H
        have c7b0 : (t140.toList == ([40] : List UInt8)) = true := beq_iff_eq.mpr c7
        have c7b1 : (t140.toList != ([40] : List UInt8)) = false := bne_eq_false_iff_eq.mpr c7
        clear c7
        by_cases c8 : t141 = 6
        · rw [if_pos c8] at H
          have c8b0 : (t141 == 6) = true := beq_iff_eq.mpr c8
          have c8b1 : (t141 != 6) = false := bne_eq_false_iff_eq.mpr c8
          clear c8
          by_cases c9 : t142.toList = ([62] : List UInt8)
          · rw [if_pos c9] at H
            have c9b0 : (t142.toList == ([62] : List UInt8)) = true := beq_iff_eq.mpr c9
            have c9b1 : (t142.toList != ([62] : List UInt8)) = false := bne_eq_false_iff_eq.mpr c9
            clear c9
            by_cases c10 : t143 = 0
            · rw [if_pos c10] at H
              have c10b0 : (t143 == 0) = true := beq_iff_eq.mpr c10
              have c10b1 : (t143 != 0) = false := bne_eq_false_iff_eq.mpr c10
              clear c10
              by_cases c11 : t144.toList = ([] : List UInt8)
              · rw [if_pos c11] at H
                have c11b0 : (t144.toList == ([] : List UInt8)) = true := beq_iff_eq.mpr c11
                have c11b1 : (t144.toList != ([] : List UInt8)) = false := bne_eq_false_iff_eq.mpr c11
                clear c11
                by_cases c12 : t145 = 0
                · rw [if_pos c12] at H
                  have c12b0 : (t145 == 0) = true := beq_iff_eq.mpr c12
                  have c12b1 : (t145 != 0) = false := bne_eq_false_iff_eq.mpr c12
                  clear c12
                  replace H := Option.bind_eq_some_iff.mp H
                  obtain ⟨t146, A130, H⟩ := H
                  replace H : (if (t146.length : Int) = 4 then ((quote_Depth.f k (([7, 5, 8] : List Int))).bind fun t152 => (some (t152 == 1))) else (some false)) = some r := H
                  have A13 := Aside0.mk A130
                  clear A130
                  by_cases c14 : (t146.length : Int) = 4
                  · rw [if_pos c14] at H
                    have c14b0 : ((t146.length : Int) == 4) = true := beq_iff_eq.mpr c14
                    have c14b1 : ((t146.length : Int) != 4) = false := bne_eq_false_iff_eq.mpr c14
                    clear c14
                    obtain ⟨y149, hy149⟩ : ∃ y_ : List Int, y_ = (([7, 5, 8] : List Int)) := ⟨_, rfl⟩
                    replace H : ((quote_Depth.f k y149).bind fun t152 => (some (t152 == 1))) = some r := by first | (rw [hy149]; with_reducible exact H) | (have H2_ := (Option.bind_some _ _).symm.trans H; rw [hy149]; with_reducible exact H2_) | (have H2_ := (Option.bind_some _ _).symm.trans H; with_reducible exact H2_) | with_reducible exact H | (rw [hy149]; exact H) | exact H
                    have Ny149 := Aside0.mk hy149
                    clear hy149
                    replace H := Option.bind_eq_some_iff.mp H
                    obtain ⟨t152, A150, H⟩ := H
                    replace H : (some (t152 == 1)) = some r := H
                    have A15 := Aside0.mk A150
                    clear A150
                    obtain rfl := Option.some.inj H
                    go_enter Try.func8, Try.ntmps8
                    go_wp2_with (first | ((with_reducible refine gate_dst (N := 10) rfl ?_); (try (refine gate_guard (by rfl) ?_; dsimp only)); refine Kd.R_lit Kd.string _ 9 ?hg (N := 10) ?hd (xs := ([(⟨#[60]⟩ : ByteArray), (⟨#[62]⟩ : ByteArray), (⟨#[40]⟩ : ByteArray), (⟨#[41]⟩ : ByteArray)] : List ByteArray)) (inner := [.string (⟨#[60]⟩ : ByteArray), .string (⟨#[62]⟩ : ByteArray), .string (⟨#[40]⟩ : ByteArray), .string (⟨#[41]⟩ : ByteArray)]) (ok := fun _ => True) (okp := fun _ => True) ?hr ?hp (fun _ hk => hk) trivial (Below.refl _ _) (Nat.le_refl _) (by simp) ?_; (case hd => rfl); (case hg => rfl); (case hr => first | (go_simp; done) | (go_simp; rfl)); (case hp => exact (Reps.one (show Kd.M Kd.string _ _ _ (⟨#[60]⟩ : ByteArray) [.string (⟨#[60]⟩ : ByteArray)] from rfl) (Reps.one (show Kd.M Kd.string _ _ _ (⟨#[62]⟩ : ByteArray) [.string (⟨#[62]⟩ : ByteArray)] from rfl) (Reps.one (show Kd.M Kd.string _ _ _ (⟨#[40]⟩ : ByteArray) [.string (⟨#[40]⟩ : ByteArray)] from rfl) (Reps.one (show Kd.M Kd.string _ _ _ (⟨#[41]⟩ : ByteArray) [.string (⟨#[41]⟩ : ByteArray)] from rfl) (Reps.none _ _)))))); intro v135 w16 ho17 hb hg_ hnew_; clear hg_ hnew_; (first | rw [← Ny134.out] at ho17 | (simp only [Int.reduceToNat] at ho17; rw [← Ny134.out] at ho17)); have n0_ := Aside0.mk (Kd.R_lower ho17 (below_size (by repeat (first | (with_reducible first | exact HB.out | apply below_alloc | apply pw_below_drewN | apply below_drew1) | exact HB.out)))); have n1_ := Aside0.mk (below_step (by repeat (first | (with_reducible first | exact HB.out | apply below_alloc | apply pw_below_drewN | apply below_drew1) | exact HB.out)) hb); clear HB; have HO136 := n0_; have HB := n1_; clear n0_ n1_; clear hb ho17; obtain ⟨Ao18, co18, eo18⟩ := Kd.R_slice HO136.out; subst eo18) | ((with_reducible refine gate_dst (N := 1) rfl ?_); (try (refine gate_guard (by rfl) ?_; dsimp only)); refine box_event ?hg (N := 1) ?hd (cs := #[.string (⟨#[]⟩ : ByteArray), .string (⟨#[]⟩ : ByteArray), .string (⟨#[]⟩ : ByteArray), .slice none 0 0, .bool false, .bool false, .slice none 0 0, .bool false, .slice none 0 0, .slice none 0 0, .slice none 0 0]) (t := 26) ?hr ?_; (case hd => rfl); (case hg => rfl); (case hr => first | (go_simp; done) | (go_simp; rfl)); intro gb137 hg w19 hbox hb; have n0_ := Aside0.mk (Kd.R_below (by (with_reducible repeat (first | apply Kd.R_alloc | apply Kd.R_drewN | apply Kd.R_drew)); exact HO136.out) hb); have n1_ := Aside0.mk (below_step (by repeat (first | (with_reducible first | exact HB.out | apply below_alloc | apply pw_below_drewN | apply below_drew1) | exact HB.out)) hb); have n2_ := Aside0.mk (hbox); have n3_ := Aside0.mk ((by rw [hg]; exact (below_size (by repeat (first | (with_reducible first | exact HB.out | apply below_alloc | apply pw_below_drewN | apply below_drew1) | exact HB.out))) : w.heap.size ≤ gb137)); have n4_ := Aside0.mk ((by rw [hg]; exact (below_size (by repeat (first | (with_reducible first | exact HB.out | apply below_alloc | apply pw_below_drewN | apply below_drew1) | exact HB.out))) : w.heap.size ≤ gb137)); clear HO136; clear HB; have HO136 := n0_; have HB := n1_; have BK137 := n2_; have GW137 := n3_; have GE137 := n4_; clear n0_ n1_ n2_ n3_ n4_; clear hb hbox hg; have hcz20_0 : w19.cell? ⟨gb137, 0, none⟩ = some (.string (⟨#[]⟩ : ByteArray)) := (blk_cell BK137.out 0).trans rfl; have hcz20_1 : w19.cell? ⟨gb137, 1, none⟩ = some (.string (⟨#[]⟩ : ByteArray)) := (blk_cell BK137.out 1).trans rfl; have hcz20_2 : w19.cell? ⟨gb137, 2, none⟩ = some (.string (⟨#[]⟩ : ByteArray)) := (blk_cell BK137.out 2).trans rfl; have hcz20_3 : w19.cell? ⟨gb137, 3, none⟩ = some (.slice none 0 0) := (blk_cell BK137.out 3).trans rfl; have hcz20_4 : w19.cell? ⟨gb137, 4, none⟩ = some (.bool false) := (blk_cell BK137.out 4).trans rfl; have hcz20_5 : w19.cell? ⟨gb137, 5, none⟩ = some (.bool false) := (blk_cell BK137.out 5).trans rfl; have hcz20_6 : w19.cell? ⟨gb137, 6, none⟩ = some (.slice none 0 0) := (blk_cell BK137.out 6).trans rfl; have hcz20_7 : w19.cell? ⟨gb137, 7, none⟩ = some (.bool false) := (blk_cell BK137.out 7).trans rfl; have hcz20_8 : w19.cell? ⟨gb137, 8, none⟩ = some (.slice none 0 0) := (blk_cell BK137.out 8).trans rfl; have hcz20_9 : w19.cell? ⟨gb137, 9, none⟩ = some (.slice none 0 0) := (blk_cell BK137.out 9).trans rfl; have hcz20_10 : w19.cell? ⟨gb137, 10, none⟩ = some (.slice none 0 0) := (blk_cell BK137.out 10).trans rfl; have hfz20_0 := blk_frozen BK137.out 0; have hfz20_1 := blk_frozen BK137.out 1; have hfz20_2 := blk_frozen BK137.out 2; have hfz20_3 := blk_frozen BK137.out 3; have hfz20_4 := blk_frozen BK137.out 4; have hfz20_5 := blk_frozen BK137.out 5; have hfz20_6 := blk_frozen BK137.out 6; have hfz20_7 := blk_frozen BK137.out 7; have hfz20_8 := blk_frozen BK137.out 8; have hfz20_9 := blk_frozen BK137.out 9; have hfz20_10 := blk_frozen BK137.out 10) | ((with_reducible refine gate_callee (f := 9) rfl ?_); refine goesL_ (some 14) rfl rfl Try.func9 (by kernel_rfl) rfl #[.agg #[.string (⟨#[]⟩ : ByteArray), .string (⟨#[]⟩ : ByteArray), .string (⟨#[]⟩ : ByteArray), .slice none 0 0, .bool false, .bool false, .slice Ao18 y134.length co18, .bool false, .slice none 0 0, .slice none 0 0, .slice none 0 0], .int .i64 0, .int .i64 5] rfl (by (try simp only [List.map_toArray, List.map_cons, List.map_nil]); first | done | rfl | (simp only [List.length_drop, List.length_take]; rfl)) ?_; (refine (quote_Do.calls k (⟨#[]⟩ : ByteArray) (⟨#[]⟩ : ByteArray) (⟨#[]⟩ : ByteArray) _ _ ([] : List (S43)) false false _ _ y134 false _ _ ([] : List (S47)) _ _ ([] : List (S47)) _ _ ([] : List (S47)) 0 5 t138 t139 _ ?side1 ?side2 ?side3 ?side4 ?side5 ?side6 ?side7 ?side8 ?side9 ?side10 A1.out).mono ?_); (case side1 => exact Kd.C_nil _ _); (case side2 => exact Nat.le_refl _); (case side3 => refine (Kd.R_reads' (e := 9) (base := w.heap.size) (ok := fun k_ => True) (n := y134.length) (c := co18) ?_).2.2; exact (by (with_reducible repeat (first | apply Kd.R_alloc | apply Kd.R_drewN | apply Kd.R_drew)); exact (Kd.R_mono (Kd.R_far (p := ⟨gb137, 10, none⟩) (Kd.R_far (p := ⟨gb137, 9, none⟩) (Kd.R_far (p := ⟨gb137, 8, none⟩) (Kd.R_far (p := ⟨gb137, 7, none⟩) (Kd.R_far (p := ⟨gb137, 6, none⟩) (Kd.R_far (p := ⟨gb137, 5, none⟩) (Kd.R_far (p := ⟨gb137, 4, none⟩) (Kd.R_far (p := ⟨gb137, 3, none⟩) (Kd.R_far (p := ⟨gb137, 2, none⟩) (Kd.R_far (p := ⟨gb137, 1, none⟩) (Kd.R_far (p := ⟨gb137, 0, none⟩) (Kd.R_types HO136.out BK137.out (by decide)) (fun _ hk => hk.2) (.string (⟨#[]⟩ : ByteArray))) (fun _ hk => hk.2) (.string (⟨#[]⟩ : ByteArray))) (fun _ hk => hk.2) (.string (⟨#[]⟩ : ByteArray))) (fun _ hk => hk.2) (.slice none 0 0)) (fun _ hk => hk.2) (.bool false)) (fun _ hk => hk.2) (.bool false)) (fun _ hk => hk.2) (.slice Ao18 y134.length co18)) (fun _ hk => hk.2) (.bool false)) (fun _ hk => hk.2) (.slice none 0 0)) (fun _ hk => hk.2) (.slice none 0 0)) (fun _ hk => hk.2) (.slice none 0 0)) (fun _ h_ => h_.1)))); (case side4 => exact (Kd.R_reads' HO136.out).2.1); (case side5 => exact Kd.C_nil _ _); (case side6 => exact Nat.le_refl _); (case side7 => exact Kd.C_nil _ _); (case side8 => exact Nat.le_refl _); (case side9 => exact Kd.C_nil _ _); (case side10 => exact Nat.le_refl _); rintro e w21 ⟨rfl, hb⟩; refine ⟨_, rfl, ?_⟩; have n0_ := Aside0.mk (Kd.R_below (by (with_reducible repeat (first | apply Kd.R_alloc | apply Kd.R_drewN | apply Kd.R_drew)); exact (Kd.R_mono (Kd.R_far (p := ⟨gb137, 10, none⟩) (Kd.R_far (p := ⟨gb137, 9, none⟩) (Kd.R_far (p := ⟨gb137, 8, none⟩) (Kd.R_far (p := ⟨gb137, 7, none⟩) (Kd.R_far (p := ⟨gb137, 6, none⟩) (Kd.R_far (p := ⟨gb137, 5, none⟩) (Kd.R_far (p := ⟨gb137, 4, none⟩) (Kd.R_far (p := ⟨gb137, 3, none⟩) (Kd.R_far (p := ⟨gb137, 2, none⟩) (Kd.R_far (p := ⟨gb137, 1, none⟩) (Kd.R_far (p := ⟨gb137, 0, none⟩) (Kd.R_types HO136.out BK137.out (by decide)) (fun _ hk => hk.2) (.string (⟨#[]⟩ : ByteArray))) (fun _ hk => hk.2) (.string (⟨#[]⟩ : ByteArray))) (fun _ hk => hk.2) (.string (⟨#[]⟩ : ByteArray))) (fun _ hk => hk.2) (.slice none 0 0)) (fun _ hk => hk.2) (.bool false)) (fun _ hk => hk.2) (.bool false)) (fun _ hk => hk.2) (.slice Ao18 y134.length co18)) (fun _ hk => hk.2) (.bool false)) (fun _ hk => hk.2) (.slice none 0 0)) (fun _ hk => hk.2) (.slice none 0 0)) (fun _ hk => hk.2) (.slice none 0 0)) (fun _ h_ => h_.1))) hb); have n1_ := Aside0.mk (blk_below (g := gb137) (o := .cells #[.string (⟨#[]⟩ : ByteArray), .string (⟨#[]⟩ : ByteArray), .string (⟨#[]⟩ : ByteArray), .slice none 0 0, .bool false, .bool false, .slice Ao18 y134.length co18, .bool false, .slice none 0 0, .slice none 0 0, .slice none 0 0] 26 (0, 0)) (by (with_reducible repeat (first | refine blk_drewN ?_ _ | refine blk_drew ?_ | refine blk_alloc ?_ _)); refine blk_put (cs := #[.string (⟨#[]⟩ : ByteArray), .string (⟨#[]⟩ : ByteArray), .string (⟨#[]⟩ : ByteArray), .slice none 0 0, .bool false, .bool false, .slice Ao18 y134.length co18, .bool false, .slice none 0 0, .slice none 0 0, .slice none 0 0]) ?_ 10 _ rfl; (with_reducible repeat (first | refine blk_drewN ?_ _ | refine blk_drew ?_ | refine blk_alloc ?_ _)); refine blk_put (cs := #[.string (⟨#[]⟩ : ByteArray), .string (⟨#[]⟩ : ByteArray), .string (⟨#[]⟩ : ByteArray), .slice none 0 0, .bool false, .bool false, .slice Ao18 y134.length co18, .bool false, .slice none 0 0, .slice none 0 0, .slice none 0 0]) ?_ 9 _ rfl; (with_reducible repeat (first | refine blk_drewN ?_ _ | refine blk_drew ?_ | refine blk_alloc ?_ _)); refine blk_put (cs := #[.string (⟨#[]⟩ : ByteArray), .string (⟨#[]⟩ : ByteArray), .string (⟨#[]⟩ : ByteArray), .slice none 0 0, .bool false, .bool false, .slice Ao18 y134.length co18, .bool false, .slice none 0 0, .slice none 0 0, .slice none 0 0]) ?_ 8 _ rfl; (with_reducible repeat (first | refine blk_drewN ?_ _ | refine blk_drew ?_ | refine blk_alloc ?_ _)); refine blk_put (cs := #[.string (⟨#[]⟩ : ByteArray), .string (⟨#[]⟩ : ByteArray), .string (⟨#[]⟩ : ByteArray), .slice none 0 0, .bool false, .bool false, .slice Ao18 y134.length co18, .bool false, .slice none 0 0, .slice none 0 0, .slice none 0 0]) ?_ 7 _ rfl; (with_reducible repeat (first | refine blk_drewN ?_ _ | refine blk_drew ?_ | refine blk_alloc ?_ _)); refine blk_put (cs := #[.string (⟨#[]⟩ : ByteArray), .string (⟨#[]⟩ : ByteArray), .string (⟨#[]⟩ : ByteArray), .slice none 0 0, .bool false, .bool false, .slice none 0 0, .bool false, .slice none 0 0, .slice none 0 0, .slice none 0 0]) ?_ 6 _ rfl; (with_reducible repeat (first | refine blk_drewN ?_ _ | refine blk_drew ?_ | refine blk_alloc ?_ _)); refine blk_put (cs := #[.string (⟨#[]⟩ : ByteArray), .string (⟨#[]⟩ : ByteArray), .string (⟨#[]⟩ : ByteArray), .slice none 0 0, .bool false, .bool false, .slice none 0 0, .bool false, .slice none 0 0, .slice none 0 0, .slice none 0 0]) ?_ 5 _ rfl; (with_reducible repeat (first | refine blk_drewN ?_ _ | refine blk_drew ?_ | refine blk_alloc ?_ _)); refine blk_put (cs := #[.string (⟨#[]⟩ : ByteArray), .string (⟨#[]⟩ : ByteArray), .string (⟨#[]⟩ : ByteArray), .slice none 0 0, .bool false, .bool false, .slice none 0 0, .bool false, .slice none 0 0, .slice none 0 0, .slice none 0 0]) ?_ 4 _ rfl; (with_reducible repeat (first | refine blk_drewN ?_ _ | refine blk_drew ?_ | refine blk_alloc ?_ _)); refine blk_put (cs := #[.string (⟨#[]⟩ : ByteArray), .string (⟨#[]⟩ : ByteArray), .string (⟨#[]⟩ : ByteArray), .slice none 0 0, .bool false, .bool false, .slice none 0 0, .bool false, .slice none 0 0, .slice none 0 0, .slice none 0 0]) ?_ 3 _ rfl; (with_reducible repeat (first | refine blk_drewN ?_ _ | refine blk_drew ?_ | refine blk_alloc ?_ _)); refine blk_put (cs := #[.string (⟨#[]⟩ : ByteArray), .string (⟨#[]⟩ : ByteArray), .string (⟨#[]⟩ : ByteArray), .slice none 0 0, .bool false, .bool false, .slice none 0 0, .bool false, .slice none 0 0, .slice none 0 0, .slice none 0 0]) ?_ 2 _ rfl; (with_reducible repeat (first | refine blk_drewN ?_ _ | refine blk_drew ?_ | refine blk_alloc ?_ _)); refine blk_put (cs := #[.string (⟨#[]⟩ : ByteArray), .string (⟨#[]⟩ : ByteArray), .string (⟨#[]⟩ : ByteArray), .slice none 0 0, .bool false, .bool false, .slice none 0 0, .bool false, .slice none 0 0, .slice none 0 0, .slice none 0 0]) ?_ 1 _ rfl; (with_reducible repeat (first | refine blk_drewN ?_ _ | refine blk_drew ?_ | refine blk_alloc ?_ _)); refine blk_put (cs := #[.string (⟨#[]⟩ : ByteArray), .string (⟨#[]⟩ : ByteArray), .string (⟨#[]⟩ : ByteArray), .slice none 0 0, .bool false, .bool false, .slice none 0 0, .bool false, .slice none 0 0, .slice none 0 0, .slice none 0 0]) ?_ 0 _ rfl; (with_reducible repeat (first | refine blk_drewN ?_ _ | refine blk_drew ?_ | refine blk_alloc ?_ _)); exact BK137.out) hb); have n2_ := Aside0.mk (below_step (by repeat (first | (with_reducible first | exact HB.out | apply below_alloc | apply pw_below_drewN | apply below_drew1 | refine below_set ?_ GE137.out) | exact HB.out)) hb); clear HO136; clear BK137; clear HB; have HO136 := n0_; have BK137 := n1_; have HB := n2_; clear n0_ n1_ n2_; (try clear hb); (try clear hb2); (try clear hk); (try clear hi); have hcz22_0 : w21.cell? ⟨gb137, 0, none⟩ = some (.string (⟨#[]⟩ : ByteArray)) := (blk_cell BK137.out 0).trans rfl; have hcz22_1 : w21.cell? ⟨gb137, 1, none⟩ = some (.string (⟨#[]⟩ : ByteArray)) := (blk_cell BK137.out 1).trans rfl; have hcz22_2 : w21.cell? ⟨gb137, 2, none⟩ = some (.string (⟨#[]⟩ : ByteArray)) := (blk_cell BK137.out 2).trans rfl; have hcz22_3 : w21.cell? ⟨gb137, 3, none⟩ = some (.slice none 0 0) := (blk_cell BK137.out 3).trans rfl; have hcz22_4 : w21.cell? ⟨gb137, 4, none⟩ = some (.bool false) := (blk_cell BK137.out 4).trans rfl; have hcz22_5 : w21.cell? ⟨gb137, 5, none⟩ = some (.bool false) := (blk_cell BK137.out 5).trans rfl; have hcz22_6 : w21.cell? ⟨gb137, 6, none⟩ = some (.slice Ao18 y134.length co18) := (blk_cell BK137.out 6).trans rfl; have hcz22_7 : w21.cell? ⟨gb137, 7, none⟩ = some (.bool false) := (blk_cell BK137.out 7).trans rfl; have hcz22_8 : w21.cell? ⟨gb137, 8, none⟩ = some (.slice none 0 0) := (blk_cell BK137.out 8).trans rfl; have hcz22_9 : w21.cell? ⟨gb137, 9, none⟩ = some (.slice none 0 0) := (blk_cell BK137.out 9).trans rfl; have hcz22_10 : w21.cell? ⟨gb137, 10, none⟩ = some (.slice none 0 0) := (blk_cell BK137.out 10).trans rfl; have hfz22_0 := blk_frozen BK137.out 0; have hfz22_1 := blk_frozen BK137.out 1; have hfz22_2 := blk_frozen BK137.out 2; have hfz22_3 := blk_frozen BK137.out 3; have hfz22_4 := blk_frozen BK137.out 4; have hfz22_5 := blk_frozen BK137.out 5; have hfz22_6 := blk_frozen BK137.out 6; have hfz22_7 := blk_frozen BK137.out 7; have hfz22_8 := blk_frozen BK137.out 8; have hfz22_9 := blk_frozen BK137.out 9; have hfz22_10 := blk_frozen BK137.out 10) | ((with_reducible refine gate_callee (f := 9) rfl ?_); refine goesL_ (some 19) rfl rfl Try.func9 (by kernel_rfl) rfl #[.agg #[.string (⟨#[]⟩ : ByteArray), .string (⟨#[]⟩ : ByteArray), .string (⟨#[]⟩ : ByteArray), .slice none 0 0, .bool false, .bool false, .slice Ao18 y134.length co18, .bool false, .slice none 0 0, .slice none 0 0, .slice none 0 0], .int .i64 5, .int .i64 5] rfl (by (try simp only [List.map_toArray, List.map_cons, List.map_nil]); first | done | rfl | (simp only [List.length_drop, List.length_take]; rfl)) ?_; (refine (quote_Do.calls k (⟨#[]⟩ : ByteArray) (⟨#[]⟩ : ByteArray) (⟨#[]⟩ : ByteArray) _ _ ([] : List (S43)) false false _ _ y134 false _ _ ([] : List (S47)) _ _ ([] : List (S47)) _ _ ([] : List (S47)) 5 5 t140 t141 _ ?side1 ?side2 ?side3 ?side4 ?side5 ?side6 ?side7 ?side8 ?side9 ?side10 A2.out).mono ?_); (case side1 => exact Kd.C_nil _ _); (case side2 => exact Nat.le_refl _); (case side3 => repeat (first | exact (Kd.R_reads' HO136.out).2.2 | (with_reducible refine Kd.C_alloc ?_ _) | (with_reducible refine Kd.C_drewN ?_ _) | (with_reducible refine Kd.C_drew ?_))); (case side4 => exact (Kd.R_reads' HO136.out).2.1); (case side5 => exact Kd.C_nil _ _); (case side6 => exact Nat.le_refl _); (case side7 => exact Kd.C_nil _ _); (case side8 => exact Nat.le_refl _); (case side9 => exact Kd.C_nil _ _); (case side10 => exact Nat.le_refl _); rintro e w23 ⟨rfl, hb⟩; refine ⟨_, rfl, ?_⟩; have n0_ := Aside0.mk (Kd.R_below (by (with_reducible repeat (first | apply Kd.R_alloc | apply Kd.R_drewN | apply Kd.R_drew)); exact HO136.out) hb); have n1_ := Aside0.mk (blk_below (g := gb137) (o := .cells #[.string (⟨#[]⟩ : ByteArray), .string (⟨#[]⟩ : ByteArray), .string (⟨#[]⟩ : ByteArray), .slice none 0 0, .bool false, .bool false, .slice Ao18 y134.length co18, .bool false, .slice none 0 0, .slice none 0 0, .slice none 0 0] 26 (0, 0)) (by (with_reducible repeat (first | refine blk_drewN ?_ _ | refine blk_drew ?_ | refine blk_alloc ?_ _)); exact BK137.out) hb); have n2_ := Aside0.mk (below_step (by repeat (first | (with_reducible first | exact HB.out | apply below_alloc | apply pw_below_drewN | apply below_drew1 | refine below_set ?_ GE137.out) | exact HB.out)) hb); clear HO136; clear BK137; clear HB; have HO136 := n0_; have BK137 := n1_; have HB := n2_; clear n0_ n1_ n2_; (try clear hb); (try clear hb2); (try clear hk); (try clear hi); have hcz24_0 : w23.cell? ⟨gb137, 0, none⟩ = some (.string (⟨#[]⟩ : ByteArray)) := (blk_cell BK137.out 0).trans rfl; have hcz24_1 : w23.cell? ⟨gb137, 1, none⟩ = some (.string (⟨#[]⟩ : ByteArray)) := (blk_cell BK137.out 1).trans rfl; have hcz24_2 : w23.cell? ⟨gb137, 2, none⟩ = some (.string (⟨#[]⟩ : ByteArray)) := (blk_cell BK137.out 2).trans rfl; have hcz24_3 : w23.cell? ⟨gb137, 3, none⟩ = some (.slice none 0 0) := (blk_cell BK137.out 3).trans rfl; have hcz24_4 : w23.cell? ⟨gb137, 4, none⟩ = some (.bool false) := (blk_cell BK137.out 4).trans rfl; have hcz24_5 : w23.cell? ⟨gb137, 5, none⟩ = some (.bool false) := (blk_cell BK137.out 5).trans rfl; have hcz24_6 : w23.cell? ⟨gb137, 6, none⟩ = some (.slice Ao18 y134.length co18) := (blk_cell BK137.out 6).trans rfl; have hcz24_7 : w23.cell? ⟨gb137, 7, none⟩ = some (.bool false) := (blk_cell BK137.out 7).trans rfl; have hcz24_8 : w23.cell? ⟨gb137, 8, none⟩ = some (.slice none 0 0) := (blk_cell BK137.out 8).trans rfl; have hcz24_9 : w23.cell? ⟨gb137, 9, none⟩ = some (.slice none 0 0) := (blk_cell BK137.out 9).trans rfl; have hcz24_10 : w23.cell? ⟨gb137, 10, none⟩ = some (.slice none 0 0) := (blk_cell BK137.out 10).trans rfl; have hfz24_0 := blk_frozen BK137.out 0; have hfz24_1 := blk_frozen BK137.out 1; have hfz24_2 := blk_frozen BK137.out 2; have hfz24_3 := blk_frozen BK137.out 3; have hfz24_4 := blk_frozen BK137.out 4; have hfz24_5 := blk_frozen BK137.out 5; have hfz24_6 := blk_frozen BK137.out 6; have hfz24_7 := blk_frozen BK137.out 7; have hfz24_8 := blk_frozen BK137.out 8; have hfz24_9 := blk_frozen BK137.out 9; have hfz24_10 := blk_frozen BK137.out 10) | ((with_reducible refine gate_callee (f := 9) rfl ?_); refine goesL_ (some 24) rfl rfl Try.func9 (by kernel_rfl) rfl #[.agg #[.string (⟨#[]⟩ : ByteArray), .string (⟨#[]⟩ : ByteArray), .string (⟨#[]⟩ : ByteArray), .slice none 0 0, .bool false, .bool false, .slice Ao18 y134.length co18, .bool false, .slice none 0 0, .slice none 0 0, .slice none 0 0], .int .i64 1, .int .i64 6] rfl (by (try simp only [List.map_toArray, List.map_cons, List.map_nil]); first | done | rfl | (simp only [List.length_drop, List.length_take]; rfl)) ?_; (refine (quote_Do.calls k (⟨#[]⟩ : ByteArray) (⟨#[]⟩ : ByteArray) (⟨#[]⟩ : ByteArray) _ _ ([] : List (S43)) false false _ _ y134 false _ _ ([] : List (S47)) _ _ ([] : List (S47)) _ _ ([] : List (S47)) 1 6 t142 t143 _ ?side1 ?side2 ?side3 ?side4 ?side5 ?side6 ?side7 ?side8 ?side9 ?side10 A3.out).mono ?_); (case side1 => exact Kd.C_nil _ _); (case side2 => exact Nat.le_refl _); (case side3 => repeat (first | exact (Kd.R_reads' HO136.out).2.2 | (with_reducible refine Kd.C_alloc ?_ _) | (with_reducible refine Kd.C_drewN ?_ _) | (with_reducible refine Kd.C_drew ?_))); (case side4 => exact (Kd.R_reads' HO136.out).2.1); (case side5 => exact Kd.C_nil _ _); (case side6 => exact Nat.le_refl _); (case side7 => exact Kd.C_nil _ _); (case side8 => exact Nat.le_refl _); (case side9 => exact Kd.C_nil _ _); (case side10 => exact Nat.le_refl _); rintro e w25 ⟨rfl, hb⟩; refine ⟨_, rfl, ?_⟩; have n0_ := Aside0.mk (Kd.R_below (by (with_reducible repeat (first | apply Kd.R_alloc | apply Kd.R_drewN | apply Kd.R_drew)); exact HO136.out) hb); have n1_ := Aside0.mk (blk_below (g := gb137) (o := .cells #[.string (⟨#[]⟩ : ByteArray), .string (⟨#[]⟩ : ByteArray), .string (⟨#[]⟩ : ByteArray), .slice none 0 0, .bool false, .bool false, .slice Ao18 y134.length co18, .bool false, .slice none 0 0, .slice none 0 0, .slice none 0 0] 26 (0, 0)) (by (with_reducible repeat (first | refine blk_drewN ?_ _ | refine blk_drew ?_ | refine blk_alloc ?_ _)); exact BK137.out) hb); have n2_ := Aside0.mk (below_step (by repeat (first | (with_reducible first | exact HB.out | apply below_alloc | apply pw_below_drewN | apply below_drew1 | refine below_set ?_ GE137.out) | exact HB.out)) hb); clear HO136; clear BK137; clear HB; have HO136 := n0_; have BK137 := n1_; have HB := n2_; clear n0_ n1_ n2_; (try clear hb); (try clear hb2); (try clear hk); (try clear hi); have hcz26_0 : w25.cell? ⟨gb137, 0, none⟩ = some (.string (⟨#[]⟩ : ByteArray)) := (blk_cell BK137.out 0).trans rfl; have hcz26_1 : w25.cell? ⟨gb137, 1, none⟩ = some (.string (⟨#[]⟩ : ByteArray)) := (blk_cell BK137.out 1).trans rfl; have hcz26_2 : w25.cell? ⟨gb137, 2, none⟩ = some (.string (⟨#[]⟩ : ByteArray)) := (blk_cell BK137.out 2).trans rfl; have hcz26_3 : w25.cell? ⟨gb137, 3, none⟩ = some (.slice none 0 0) := (blk_cell BK137.out 3).trans rfl; have hcz26_4 : w25.cell? ⟨gb137, 4, none⟩ = some (.bool false) := (blk_cell BK137.out 4).trans rfl; have hcz26_5 : w25.cell? ⟨gb137, 5, none⟩ = some (.bool false) := (blk_cell BK137.out 5).trans rfl; have hcz26_6 : w25.cell? ⟨gb137, 6, none⟩ = some (.slice Ao18 y134.length co18) := (blk_cell BK137.out 6).trans rfl; have hcz26_7 : w25.cell? ⟨gb137, 7, none⟩ = some (.bool false) := (blk_cell BK137.out 7).trans rfl; have hcz26_8 : w25.cell? ⟨gb137, 8, none⟩ = some (.slice none 0 0) := (blk_cell BK137.out 8).trans rfl; have hcz26_9 : w25.cell? ⟨gb137, 9, none⟩ = some (.slice none 0 0) := (blk_cell BK137.out 9).trans rfl; have hcz26_10 : w25.cell? ⟨gb137, 10, none⟩ = some (.slice none 0 0) := (blk_cell BK137.out 10).trans rfl; have hfz26_0 := blk_frozen BK137.out 0; have hfz26_1 := blk_frozen BK137.out 1; have hfz26_2 := blk_frozen BK137.out 2; have hfz26_3 := blk_frozen BK137.out 3; have hfz26_4 := blk_frozen BK137.out 4; have hfz26_5 := blk_frozen BK137.out 5; have hfz26_6 := blk_frozen BK137.out 6; have hfz26_7 := blk_frozen BK137.out 7; have hfz26_8 := blk_frozen BK137.out 8; have hfz26_9 := blk_frozen BK137.out 9; have hfz26_10 := blk_frozen BK137.out 10) | ((with_reducible refine gate_callee (f := 9) rfl ?_); refine goesL_ (some 29) rfl rfl Try.func9 (by kernel_rfl) rfl #[.agg #[.string (⟨#[]⟩ : ByteArray), .string (⟨#[]⟩ : ByteArray), .string (⟨#[]⟩ : ByteArray), .slice none 0 0, .bool false, .bool false, .slice Ao18 y134.length co18, .bool false, .slice none 0 0, .slice none 0 0, .slice none 0 0], .int .i64 0, .int .i64 6] rfl (by (try simp only [List.map_toArray, List.map_cons, List.map_nil]); first | done | rfl | (simp only [List.length_drop, List.length_take]; rfl)) ?_; (refine (quote_Do.calls k (⟨#[]⟩ : ByteArray) (⟨#[]⟩ : ByteArray) (⟨#[]⟩ : ByteArray) _ _ ([] : List (S43)) false false _ _ y134 false _ _ ([] : List (S47)) _ _ ([] : List (S47)) _ _ ([] : List (S47)) 0 6 t144 t145 _ ?side1 ?side2 ?side3 ?side4 ?side5 ?side6 ?side7 ?side8 ?side9 ?side10 A4.out).mono ?_); (case side1 => exact Kd.C_nil _ _); (case side2 => exact Nat.le_refl _); (case side3 => repeat (first | exact (Kd.R_reads' HO136.out).2.2 | (with_reducible refine Kd.C_alloc ?_ _) | (with_reducible refine Kd.C_drewN ?_ _) | (with_reducible refine Kd.C_drew ?_))); (case side4 => exact (Kd.R_reads' HO136.out).2.1); (case side5 => exact Kd.C_nil _ _); (case side6 => exact Nat.le_refl _); (case side7 => exact Kd.C_nil _ _); (case side8 => exact Nat.le_refl _); (case side9 => exact Kd.C_nil _ _); (case side10 => exact Nat.le_refl _); rintro e w27 ⟨rfl, hb⟩; refine ⟨_, rfl, ?_⟩; have n0_ := Aside0.mk (Kd.R_below (by (with_reducible repeat (first | apply Kd.R_alloc | apply Kd.R_drewN | apply Kd.R_drew)); exact HO136.out) hb); have n1_ := Aside0.mk (blk_below (g := gb137) (o := .cells #[.string (⟨#[]⟩ : ByteArray), .string (⟨#[]⟩ : ByteArray), .string (⟨#[]⟩ : ByteArray), .slice none 0 0, .bool false, .bool false, .slice Ao18 y134.length co18, .bool false, .slice none 0 0, .slice none 0 0, .slice none 0 0] 26 (0, 0)) (by (with_reducible repeat (first | refine blk_drewN ?_ _ | refine blk_drew ?_ | refine blk_alloc ?_ _)); exact BK137.out) hb); have n2_ := Aside0.mk (below_step (by repeat (first | (with_reducible first | exact HB.out | apply below_alloc | apply pw_below_drewN | apply below_drew1 | refine below_set ?_ GE137.out) | exact HB.out)) hb); clear HO136; clear BK137; clear HB; have HO136 := n0_; have BK137 := n1_; have HB := n2_; clear n0_ n1_ n2_; (try clear hb); (try clear hb2); (try clear hk); (try clear hi)) | (go_at_call 12; (refine (quote_Marks.calls (⟨#[]⟩ : ByteArray) (⟨#[]⟩ : ByteArray) (⟨#[]⟩ : ByteArray) _ _ ([] : List (S43)) false false _ _ ([] : List ByteArray) true _ _ ([] : List (S47)) _ _ ([] : List (S47)) _ _ ([] : List (S47)) t146 _ ?side1 ?side2 ?side3 ?side4 ?side5 ?side6 ?side7 ?side8 ?side9 ?side10 A13.out).mono ?_); (case side1 => exact Kd.C_nil _ _); (case side2 => exact Nat.le_refl _); (case side3 => exact Kd.C_nil _ _); (case side4 => exact Nat.le_refl _); (case side5 => exact Kd.C_nil _ _); (case side6 => exact Nat.le_refl _); (case side7 => exact Kd.C_nil _ _); (case side8 => exact Nat.le_refl _); (case side9 => exact Kd.C_nil _ _); (case side10 => exact Nat.le_refl _); rintro e w28 ⟨v147, rfl, ho0, hb⟩; have n0_ := Aside0.mk (Kd.R_elder' (by (with_reducible repeat (first | apply Kd.R_alloc | apply Kd.R_drewN | apply Kd.R_drew)); exact HO136.out) (Kd.R_base ho0) hb); have n1_ := Aside0.mk (Kd.R_lower (Kd.R_new' ho0 (Kd.R_lt (by (with_reducible repeat (first | apply Kd.R_alloc | apply Kd.R_drewN | apply Kd.R_drew)); exact HO136.out))) (below_size (by repeat (first | (with_reducible first | exact HB.out | apply below_alloc | apply pw_below_drewN | apply below_drew1 | refine below_set ?_ GE137.out) | exact HB.out)))); have n2_ := Aside0.mk (blk_below (g := gb137) (o := .cells #[.string (⟨#[]⟩ : ByteArray), .string (⟨#[]⟩ : ByteArray), .string (⟨#[]⟩ : ByteArray), .slice none 0 0, .bool false, .bool false, .slice Ao18 y134.length co18, .bool false, .slice none 0 0, .slice none 0 0, .slice none 0 0] 26 (0, 0)) (by (with_reducible repeat (first | refine blk_drewN ?_ _ | refine blk_drew ?_ | refine blk_alloc ?_ _)); exact BK137.out) hb); have n3_ := Aside0.mk (below_step (by repeat (first | (with_reducible first | exact HB.out | apply below_alloc | apply pw_below_drewN | apply below_drew1 | refine below_set ?_ GE137.out) | exact HB.out)) hb); clear HO136; clear BK137; clear HB; have HO136 := n0_; have HO148 := n1_; have BK137 := n2_; have HB := n3_; clear n0_ n1_ n2_ n3_; (try clear hb); (try clear hb2); (try clear hk); (try clear hi); (try clear ho0); obtain ⟨Ao29, co29, eo29⟩ := Kd.R_slice HO148.out; subst eo29) | ((with_reducible refine gate_dst (N := 69) rfl ?_); (try (refine gate_guard (by rfl) ?_; dsimp only)); refine Kd.R_lit (Kd.int .i64) _ 3 ?hg (N := 69) ?hd (xs := ([7, 5, 8] : List Int)) (inner := [.int .i64 7, .int .i64 5, .int .i64 8]) (ok := fun _ => True) (okp := fun _ => True) ?hr ?hp (fun _ hk => hk) trivial (Below.refl _ _) (Nat.le_refl _) (by simp) ?_; (case hd => rfl); (case hg => rfl); (case hr => first | (go_simp; done) | (go_simp; rfl)); (case hp => exact (Reps.one (show Kd.M (Kd.int .i64) _ _ _ 7 [.int .i64 7] from rfl) (Reps.one (show Kd.M (Kd.int .i64) _ _ _ 5 [.int .i64 5] from rfl) (Reps.one (show Kd.M (Kd.int .i64) _ _ _ 8 [.int .i64 8] from rfl) (Reps.none _ _))))); intro v150 w30 ho31 hb hg_ hnew_; clear hg_ hnew_; (first | rw [← Ny149.out] at ho31 | (simp only [Int.reduceToNat] at ho31; rw [← Ny149.out] at ho31)); have n0_ := Aside0.mk (Kd.R_below (by (with_reducible repeat (first | apply Kd.R_alloc | apply Kd.R_drewN | apply Kd.R_drew)); exact HO136.out) hb); have n1_ := Aside0.mk (Kd.R_below (by (with_reducible repeat (first | apply Kd.R_alloc | apply Kd.R_drewN | apply Kd.R_drew)); exact HO148.out) hb); have n2_ := Aside0.mk (Kd.R_lower ho31 (below_size (by repeat (first | (with_reducible first | exact HB.out | apply below_alloc | apply pw_below_drewN | apply below_drew1 | refine below_set ?_ GE137.out) | exact HB.out)))); have n3_ := Aside0.mk (blk_below (g := gb137) (o := .cells #[.string (⟨#[]⟩ : ByteArray), .string (⟨#[]⟩ : ByteArray), .string (⟨#[]⟩ : ByteArray), .slice none 0 0, .bool false, .bool false, .slice Ao18 y134.length co18, .bool false, .slice none 0 0, .slice none 0 0, .slice none 0 0] 26 (0, 0)) (by (with_reducible repeat (first | refine blk_drewN ?_ _ | refine blk_drew ?_ | refine blk_alloc ?_ _)); exact BK137.out) hb); have n4_ := Aside0.mk (below_step (by repeat (first | (with_reducible first | exact HB.out | apply below_alloc | apply pw_below_drewN | apply below_drew1 | refine below_set ?_ GE137.out) | exact HB.out)) hb); clear HO136; clear HO148; clear BK137; clear HB; have HO136 := n0_; have HO148 := n1_; have HO151 := n2_; have BK137 := n3_; have HB := n4_; clear n0_ n1_ n2_ n3_ n4_; clear hb ho31; obtain ⟨Ao32, co32, eo32⟩ := Kd.R_slice HO151.out; subst eo32) | (go_at_call 15; (with_reducible refine (quote_Depth.calls k _ _ y149 t152 _ ?side1 ?side2 A15.out).mono ?_); (case side1 => repeat (first | exact (Kd.R_reads' HO151.out).2.2 | (with_reducible refine Kd.C_alloc ?_ _) | (with_reducible refine Kd.C_drewN ?_ _) | (with_reducible refine Kd.C_drew ?_))); (case side2 => exact (Kd.R_reads' HO151.out).2.1); rintro e w33 ⟨rfl, hb⟩; have n0_ := Aside0.mk (Kd.R_below (by (with_reducible repeat (first | apply Kd.R_alloc | apply Kd.R_drewN | apply Kd.R_drew)); exact HO136.out) hb); have n1_ := Aside0.mk (Kd.R_below (by (with_reducible repeat (first | apply Kd.R_alloc | apply Kd.R_drewN | apply Kd.R_drew)); exact HO148.out) hb); have n2_ := Aside0.mk (Kd.R_below (by (with_reducible repeat (first | apply Kd.R_alloc | apply Kd.R_drewN | apply Kd.R_drew)); exact HO151.out) hb); have n3_ := Aside0.mk (blk_below (g := gb137) (o := .cells #[.string (⟨#[]⟩ : ByteArray), .string (⟨#[]⟩ : ByteArray), .string (⟨#[]⟩ : ByteArray), .slice none 0 0, .bool false, .bool false, .slice Ao18 y134.length co18, .bool false, .slice none 0 0, .slice none 0 0, .slice none 0 0] 26 (0, 0)) (by (with_reducible repeat (first | refine blk_drewN ?_ _ | refine blk_drew ?_ | refine blk_alloc ?_ _)); exact BK137.out) hb); have n4_ := Aside0.mk (below_step (by repeat (first | (with_reducible first | exact HB.out | apply below_alloc | apply pw_below_drewN | apply below_drew1 | refine below_set ?_ GE137.out) | exact HB.out)) hb); clear HO136; clear HO148; clear HO151; clear BK137; clear HB; have HO136 := n0_; have HO148 := n1_; have HO151 := n2_; have BK137 := n3_; have HB := n4_; clear n0_ n1_ n2_ n3_ n4_; (try clear hb); (try clear hb2); (try clear hk); (try clear hi)))
                    go_ret
                    exact ⟨by first | rfl | (simp [errW_none, errW_some] <;> rfl) | (simp [*, errW_none, errW_some] <;> rfl), by repeat (first | (with_reducible first | exact HB.out | apply below_alloc | apply pw_below_drewN | apply below_drew1 | refine below_set ?_ GE137.out) | exact HB.out)⟩
                  · rw [if_neg c14] at H
                    have c14b0 : ((t146.length : Int) == 4) = false := beq_eq_false_iff_ne.mpr c14
                    have c14b1 : ((t146.length : Int) != 4) = true := bne_iff_ne.mpr c14
                    exact absurd (H.trans (congrArg some HTRUE.out)) (by simp)
                · rw [if_neg c12] at H
                  have c12b0 : (t145 == 0) = false := beq_eq_false_iff_ne.mpr c12
                  have c12b1 : (t145 != 0) = true := bne_iff_ne.mpr c12
                  exact absurd (H.trans (congrArg some HTRUE.out)) (by simp)
              · rw [if_neg c11] at H
                have c11b0 : (t144.toList == ([] : List UInt8)) = false := beq_eq_false_iff_ne.mpr c11
                have c11b1 : (t144.toList != ([] : List UInt8)) = true := bne_iff_ne.mpr c11
                exact absurd (H.trans (congrArg some HTRUE.out)) (by simp)
            · rw [if_neg c10] at H
              have c10b0 : (t143 == 0) = false := beq_eq_false_iff_ne.mpr c10
              have c10b1 : (t143 != 0) = true := bne_iff_ne.mpr c10
              exact absurd (H.trans (congrArg some HTRUE.out)) (by simp)
          · rw [if_neg c9] at H
            have c9b0 : (t142.toList == ([62] : List UInt8)) = false := beq_eq_false_iff_ne.mpr c9
            have c9b1 : (t142.toList != ([62] : List UInt8)) = true := bne_iff_ne.mpr c9
            exact absurd (H.trans (congrArg some HTRUE.out)) (by simp)
        · rw [if_neg c8] at H
          have c8b0 : (t141 == 6) = false := beq_eq_false_iff_ne.mpr c8
          have c8b1 : (t141 != 6) = true := bne_iff_ne.mpr c8
          exact absurd (H.trans (congrArg some HTRUE.out)) (by simp)
      · rw [if_neg c7] at H
        have c7b0 : (t140.toList == ([40] : List UInt8)) = false := beq_eq_false_iff_ne.mpr c7
        have c7b1 : (t140.toList != ([40] : List UInt8)) = true := bne_iff_ne.mpr c7
        exact absurd (H.trans (congrArg some HTRUE.out)) (by simp)
    · rw [if_neg c6] at H
      have c6b0 : (t139 == 1) = false := beq_eq_false_iff_ne.mpr c6
      have c6b1 : (t139 != 1) = true := bne_iff_ne.mpr c6
      exact absurd (H.trans (congrArg some HTRUE.out)) (by simp)
  · rw [if_neg c5] at H
    have c5b0 : (t138.toList == ([60] : List UInt8)) = false := beq_eq_false_iff_ne.mpr c5
    have c5b1 : (t138.toList != ([60] : List UInt8)) = true := bne_iff_ne.mpr c5
    exact absurd (H.trans (congrArg some HTRUE.out)) (by simp)
def fleuronlaw17_awake.f : Option Bool := some true
theorem fleuronlaw17_awake0.is : fleuronlaw17_awake0.f 400 = some true := by decide +kernel
theorem fleuronlaw17_awake.calls (r : Bool) (w : World) (h : fleuronlaw17_awake.f = some r) :
    Calls Try.prog 8 #[] w fun e w' => e = .returned (.bool r) ∧ Below w.heap.size w w' := fleuronlaw17_awake0.calls 400 r w (fleuronlaw17_awake0.is.trans h) (Option.some.inj h).symm

/-! ### fleuronref15_Marks: function 13 -/
def fleuronref15_Marks.f (a0_0 : ByteArray) (a0_1 : ByteArray) (a0_2 : ByteArray) (l0_3 : List (S43)) (a0_4 : Bool) (a0_5 : Bool) (l0_6 : List ByteArray) (a0_7 : Bool) (l0_8 : List (S47)) (l0_9 : List (S47)) (l0_10 : List (S47)) : Option (List ByteArray) := if a0_7 = true then (some (([(⟨#[226, 128, 156]⟩ : ByteArray), (⟨#[226, 128, 157]⟩ : ByteArray), (⟨#[226, 128, 152]⟩ : ByteArray), (⟨#[226, 128, 153]⟩ : ByteArray)] : List ByteArray))) else ((some (([] : List ByteArray) : List ByteArray)).bind fun y157 => (if y157.length + l0_6.length < 8796093022208 then (some (y157 ++ l0_6)) else (none)))
set_option maxHeartbeats 8000000 in
set_option maxRecDepth 100000 in
theorem fleuronref15_Marks.calls (a0_0 : ByteArray) (a0_1 : ByteArray) (a0_2 : ByteArray) (A0_3 : Option Addr) (c0_3 : Nat) (l0_3 : List (S43)) (a0_4 : Bool) (a0_5 : Bool) (A0_6 : Option Addr) (c0_6 : Nat) (l0_6 : List ByteArray) (a0_7 : Bool) (A0_8 : Option Addr) (c0_8 : Nat) (l0_8 : List (S47)) (A0_9 : Option Addr) (c0_9 : Nat) (l0_9 : List (S47)) (A0_10 : Option Addr) (c0_10 : Nat) (l0_10 : List (S47)) (r : List ByteArray) (w : World) (hr0_3 : Kd.C k43 w A0_3 l0_3.length l0_3) (hc0_3 : l0_3.length ≤ c0_3) (hr0_6 : Kd.C Kd.string w A0_6 l0_6.length l0_6) (hc0_6 : l0_6.length ≤ c0_6) (hr0_8 : Kd.C k47 w A0_8 l0_8.length l0_8) (hc0_8 : l0_8.length ≤ c0_8) (hr0_9 : Kd.C k47 w A0_9 l0_9.length l0_9) (hc0_9 : l0_9.length ≤ c0_9) (hr0_10 : Kd.C k47 w A0_10 l0_10.length l0_10) (hc0_10 : l0_10.length ≤ c0_10) (h : fleuronref15_Marks.f a0_0 a0_1 a0_2 l0_3 a0_4 a0_5 l0_6 a0_7 l0_8 l0_9 l0_10 = some r) :
    Calls Try.prog 13 #[.agg #[.string a0_0, .string a0_1, .string a0_2, .slice A0_3 l0_3.length c0_3, .bool a0_4, .bool a0_5, .slice A0_6 l0_6.length c0_6, .bool a0_7, .slice A0_8 l0_8.length c0_8, .slice A0_9 l0_9.length c0_9, .slice A0_10 l0_10.length c0_10]] w fun e w' => ∃ v0_ : Value, e = .returned (v0_) ∧ Kd.R Kd.string 9 w' w.heap.size (fun _ => True) v0_ r ∧ Below w.heap.size w w' := by
  have hu26 := Try.underlying26
  have HR0_3 := Aside0.mk hr0_3
  have HC0_3 := Aside0.mk hc0_3
  clear hr0_3 hc0_3
  have HR0_6 := Aside0.mk hr0_6
  have HC0_6 := Aside0.mk hc0_6
  clear hr0_6 hc0_6
  have HR0_8 := Aside0.mk hr0_8
  have HC0_8 := Aside0.mk hc0_8
  clear hr0_8 hc0_8
  have HR0_9 := Aside0.mk hr0_9
  have HC0_9 := Aside0.mk hc0_9
  clear hr0_9 hc0_9
  have HR0_10 := Aside0.mk hr0_10
  have HC0_10 := Aside0.mk hc0_10
  clear hr0_10 hc0_10
  have HB := Aside0.mk (Below.refl w.heap.size w)
  have H : (if a0_7 = true then (some (([(⟨#[226, 128, 156]⟩ : ByteArray), (⟨#[226, 128, 157]⟩ : ByteArray), (⟨#[226, 128, 152]⟩ : ByteArray), (⟨#[226, 128, 153]⟩ : ByteArray)] : List ByteArray))) else ((some (([] : List ByteArray) : List ByteArray)).bind fun y157 => (if y157.length + l0_6.length < 8796093022208 then (some (y157 ++ l0_6)) else (none)))) = some r := h
  clear h
  by_cases c2 : a0_7 = true
  · subst c2
    have H1 : (some (([(⟨#[226, 128, 156]⟩ : ByteArray), (⟨#[226, 128, 157]⟩ : ByteArray), (⟨#[226, 128, 152]⟩ : ByteArray), (⟨#[226, 128, 153]⟩ : ByteArray)] : List ByteArray))) = some r := by rw [if_pos rfl] at H; exact H
    clear H
    have H := H1
    clear H1
    obtain ⟨y154, hy154⟩ : ∃ y_ : List ByteArray, y_ = (([(⟨#[226, 128, 156]⟩ : ByteArray), (⟨#[226, 128, 157]⟩ : ByteArray), (⟨#[226, 128, 152]⟩ : ByteArray), (⟨#[226, 128, 153]⟩ : ByteArray)] : List ByteArray)) := ⟨_, rfl⟩
    replace H : (some y154) = some r := by first | (rw [hy154]; with_reducible exact H) | (have H2_ := (Option.bind_some _ _).symm.trans H; rw [hy154]; with_reducible exact H2_) | (have H2_ := (Option.bind_some _ _).symm.trans H; with_reducible exact H2_) | with_reducible exact H | (rw [hy154]; exact H) | exact H
    have Ny154 := Aside0.mk hy154
    clear hy154
    obtain rfl := Option.some.inj H
    go_enter Try.func13, Try.ntmps13
    go_wp2_with (first | ((with_reducible refine gate_dst (N := 1) rfl ?_); refine box_event ?hg (N := 1) ?hd (cs := #[.string a0_0, .string a0_1, .string a0_2, .slice A0_3 l0_3.length c0_3, .bool a0_4, .bool a0_5, .slice A0_6 l0_6.length c0_6, .bool true, .slice A0_8 l0_8.length c0_8, .slice A0_9 l0_9.length c0_9, .slice A0_10 l0_10.length c0_10]) (t := 26) ?hr ?_; (case hd => rfl); (case hg => rfl); (case hr => first | (go_simp; done) | (go_simp; rfl)); intro gb153 hg w3 hbox hb; have n0_ := Aside0.mk (below_step (by repeat (first | (with_reducible first | exact HB.out | apply below_alloc | apply pw_below_drewN | apply below_drew1) | exact HB.out)) hb); have n1_ := Aside0.mk (hbox); have n2_ := Aside0.mk ((by rw [hg]; exact (below_size (by repeat (first | (with_reducible first | exact HB.out | apply below_alloc | apply pw_below_drewN | apply below_drew1) | exact HB.out))) : w.heap.size ≤ gb153)); have n3_ := Aside0.mk ((by rw [hg]; exact (below_size (by repeat (first | (with_reducible first | exact HB.out | apply below_alloc | apply pw_below_drewN | apply below_drew1) | exact HB.out))) : w.heap.size ≤ gb153)); clear HB; have HB := n0_; have BK153 := n1_; have GW153 := n2_; have GE153 := n3_; clear n0_ n1_ n2_ n3_; clear hb hbox hg; have hcz4_0 : w3.cell? ⟨gb153, 0, none⟩ = some (.string a0_0) := (blk_cell BK153.out 0).trans rfl; have hcz4_1 : w3.cell? ⟨gb153, 1, none⟩ = some (.string a0_1) := (blk_cell BK153.out 1).trans rfl; have hcz4_2 : w3.cell? ⟨gb153, 2, none⟩ = some (.string a0_2) := (blk_cell BK153.out 2).trans rfl; have hcz4_3 : w3.cell? ⟨gb153, 3, none⟩ = some (.slice A0_3 l0_3.length c0_3) := (blk_cell BK153.out 3).trans rfl; have hcz4_4 : w3.cell? ⟨gb153, 4, none⟩ = some (.bool a0_4) := (blk_cell BK153.out 4).trans rfl; have hcz4_5 : w3.cell? ⟨gb153, 5, none⟩ = some (.bool a0_5) := (blk_cell BK153.out 5).trans rfl; have hcz4_6 : w3.cell? ⟨gb153, 6, none⟩ = some (.slice A0_6 l0_6.length c0_6) := (blk_cell BK153.out 6).trans rfl; have hcz4_7 : w3.cell? ⟨gb153, 7, none⟩ = some (.bool true) := (blk_cell BK153.out 7).trans rfl; have hcz4_8 : w3.cell? ⟨gb153, 8, none⟩ = some (.slice A0_8 l0_8.length c0_8) := (blk_cell BK153.out 8).trans rfl; have hcz4_9 : w3.cell? ⟨gb153, 9, none⟩ = some (.slice A0_9 l0_9.length c0_9) := (blk_cell BK153.out 9).trans rfl; have hcz4_10 : w3.cell? ⟨gb153, 10, none⟩ = some (.slice A0_10 l0_10.length c0_10) := (blk_cell BK153.out 10).trans rfl; have hfz4_0 := blk_frozen BK153.out 0; have hfz4_1 := blk_frozen BK153.out 1; have hfz4_2 := blk_frozen BK153.out 2; have hfz4_3 := blk_frozen BK153.out 3; have hfz4_4 := blk_frozen BK153.out 4; have hfz4_5 := blk_frozen BK153.out 5; have hfz4_6 := blk_frozen BK153.out 6; have hfz4_7 := blk_frozen BK153.out 7; have hfz4_8 := blk_frozen BK153.out 8; have hfz4_9 := blk_frozen BK153.out 9; have hfz4_10 := blk_frozen BK153.out 10) | ((with_reducible refine gate_dst (N := 5) rfl ?_); refine Kd.R_lit Kd.string _ 9 ?hg (N := 5) ?hd (xs := ([(⟨#[226, 128, 156]⟩ : ByteArray), (⟨#[226, 128, 157]⟩ : ByteArray), (⟨#[226, 128, 152]⟩ : ByteArray), (⟨#[226, 128, 153]⟩ : ByteArray)] : List ByteArray)) (inner := [.string (⟨#[226, 128, 156]⟩ : ByteArray), .string (⟨#[226, 128, 157]⟩ : ByteArray), .string (⟨#[226, 128, 152]⟩ : ByteArray), .string (⟨#[226, 128, 153]⟩ : ByteArray)]) (ok := fun _ => True) (okp := fun _ => True) ?hr ?hp (fun _ hk => hk) trivial (Below.refl _ _) (Nat.le_refl _) (by simp) ?_; (case hd => rfl); (case hg => rfl); (case hr => first | (go_simp; done) | (go_simp; rfl)); (case hp => exact (Reps.one (show Kd.M Kd.string _ _ _ (⟨#[226, 128, 156]⟩ : ByteArray) [.string (⟨#[226, 128, 156]⟩ : ByteArray)] from rfl) (Reps.one (show Kd.M Kd.string _ _ _ (⟨#[226, 128, 157]⟩ : ByteArray) [.string (⟨#[226, 128, 157]⟩ : ByteArray)] from rfl) (Reps.one (show Kd.M Kd.string _ _ _ (⟨#[226, 128, 152]⟩ : ByteArray) [.string (⟨#[226, 128, 152]⟩ : ByteArray)] from rfl) (Reps.one (show Kd.M Kd.string _ _ _ (⟨#[226, 128, 153]⟩ : ByteArray) [.string (⟨#[226, 128, 153]⟩ : ByteArray)] from rfl) (Reps.none _ _)))))); intro v155 w5 ho6 hb hg_ hnew_; clear hg_ hnew_; (first | rw [← Ny154.out] at ho6 | (simp only [Int.reduceToNat] at ho6; rw [← Ny154.out] at ho6)); have n0_ := Aside0.mk (Kd.R_lower ho6 (below_size (by repeat (first | (with_reducible first | exact HB.out | apply below_alloc | apply pw_below_drewN | apply below_drew1 | refine below_set ?_ GE153.out) | exact HB.out)))); have n1_ := Aside0.mk (blk_below (g := gb153) (o := .cells #[.string a0_0, .string a0_1, .string a0_2, .slice A0_3 l0_3.length c0_3, .bool a0_4, .bool a0_5, .slice A0_6 l0_6.length c0_6, .bool true, .slice A0_8 l0_8.length c0_8, .slice A0_9 l0_9.length c0_9, .slice A0_10 l0_10.length c0_10] 26 (0, 0)) (by (with_reducible repeat (first | refine blk_drewN ?_ _ | refine blk_drew ?_ | refine blk_alloc ?_ _)); exact BK153.out) hb); have n2_ := Aside0.mk (below_step (by repeat (first | (with_reducible first | exact HB.out | apply below_alloc | apply pw_below_drewN | apply below_drew1 | refine below_set ?_ GE153.out) | exact HB.out)) hb); clear BK153; clear HB; have HO156 := n0_; have BK153 := n1_; have HB := n2_; clear n0_ n1_ n2_; clear hb ho6))
    go_ret
    exact ⟨_, by first | rfl | (simp [errW_none, errW_some] <;> rfl) | (simp [*, errW_none, errW_some] <;> rfl), by (with_reducible repeat (first | apply Kd.R_alloc | apply Kd.R_drewN | apply Kd.R_drew)); exact HO156.out, by repeat (first | (with_reducible first | exact HB.out | apply below_alloc | apply pw_below_drewN | apply below_drew1 | refine below_set ?_ GE153.out) | exact HB.out)⟩
  · replace c2 := Bool.eq_false_iff.mpr c2
    subst c2
    have H1 : ((some (([] : List ByteArray) : List ByteArray)).bind fun y157 => (if y157.length + l0_6.length < 8796093022208 then (some (y157 ++ l0_6)) else (none))) = some r := by rw [if_neg (show ¬ (false = true) by decide)] at H; exact H
    clear H
    have H := H1
    clear H1
    obtain ⟨y157, hy157⟩ : ∃ y_ : List ByteArray, y_ = (([] : List ByteArray)) := ⟨_, rfl⟩
    replace H : (if y157.length + l0_6.length < 8796093022208 then (some (y157 ++ l0_6)) else (none)) = some r := by first | (rw [hy157]; with_reducible exact H) | (have H2_ := (Option.bind_some _ _).symm.trans H; rw [hy157]; with_reducible exact H2_) | (have H2_ := (Option.bind_some _ _).symm.trans H; with_reducible exact H2_) | with_reducible exact H | (rw [hy157]; exact H) | exact H
    have Ny157 := Aside0.mk hy157
    clear hy157
    by_cases c7 : y157.length + l0_6.length < 8796093022208
    · rw [if_pos c7] at H
      have LMc7 := Aside0.mk c7
      clear c7
      obtain ⟨y160, hy160⟩ : ∃ y_ : List ByteArray, y_ = (y157 ++ l0_6) := ⟨_, rfl⟩
      replace H : (some y160) = some r := by first | (rw [hy160]; with_reducible exact H) | (have H2_ := (Option.bind_some _ _).symm.trans H; rw [hy160]; with_reducible exact H2_) | (have H2_ := (Option.bind_some _ _).symm.trans H; with_reducible exact H2_) | with_reducible exact H | (rw [hy160]; exact H) | exact H
      have Ny160 := Aside0.mk hy160
      clear hy160
      obtain rfl := Option.some.inj H
      go_enter Try.func13, Try.ntmps13
      go_wp2_with (first | ((with_reducible refine gate_dst (N := 1) rfl ?_); refine box_event ?hg (N := 1) ?hd (cs := #[.string a0_0, .string a0_1, .string a0_2, .slice A0_3 l0_3.length c0_3, .bool a0_4, .bool a0_5, .slice A0_6 l0_6.length c0_6, .bool false, .slice A0_8 l0_8.length c0_8, .slice A0_9 l0_9.length c0_9, .slice A0_10 l0_10.length c0_10]) (t := 26) ?hr ?_; (case hd => rfl); (case hg => rfl); (case hr => first | (go_simp; done) | (go_simp; rfl)); intro gb153 hg w8 hbox hb; have n0_ := Aside0.mk (below_step (by repeat (first | (with_reducible first | exact HB.out | apply below_alloc | apply pw_below_drewN | apply below_drew1) | exact HB.out)) hb); have n1_ := Aside0.mk (hbox); have n2_ := Aside0.mk ((by rw [hg]; exact (below_size (by repeat (first | (with_reducible first | exact HB.out | apply below_alloc | apply pw_below_drewN | apply below_drew1) | exact HB.out))) : w.heap.size ≤ gb153)); have n3_ := Aside0.mk ((by rw [hg]; exact (below_size (by repeat (first | (with_reducible first | exact HB.out | apply below_alloc | apply pw_below_drewN | apply below_drew1) | exact HB.out))) : w.heap.size ≤ gb153)); clear HB; have HB := n0_; have BK153 := n1_; have GW153 := n2_; have GE153 := n3_; clear n0_ n1_ n2_ n3_; clear hb hbox hg; have hcz9_0 : w8.cell? ⟨gb153, 0, none⟩ = some (.string a0_0) := (blk_cell BK153.out 0).trans rfl; have hcz9_1 : w8.cell? ⟨gb153, 1, none⟩ = some (.string a0_1) := (blk_cell BK153.out 1).trans rfl; have hcz9_2 : w8.cell? ⟨gb153, 2, none⟩ = some (.string a0_2) := (blk_cell BK153.out 2).trans rfl; have hcz9_3 : w8.cell? ⟨gb153, 3, none⟩ = some (.slice A0_3 l0_3.length c0_3) := (blk_cell BK153.out 3).trans rfl; have hcz9_4 : w8.cell? ⟨gb153, 4, none⟩ = some (.bool a0_4) := (blk_cell BK153.out 4).trans rfl; have hcz9_5 : w8.cell? ⟨gb153, 5, none⟩ = some (.bool a0_5) := (blk_cell BK153.out 5).trans rfl; have hcz9_6 : w8.cell? ⟨gb153, 6, none⟩ = some (.slice A0_6 l0_6.length c0_6) := (blk_cell BK153.out 6).trans rfl; have hcz9_7 : w8.cell? ⟨gb153, 7, none⟩ = some (.bool false) := (blk_cell BK153.out 7).trans rfl; have hcz9_8 : w8.cell? ⟨gb153, 8, none⟩ = some (.slice A0_8 l0_8.length c0_8) := (blk_cell BK153.out 8).trans rfl; have hcz9_9 : w8.cell? ⟨gb153, 9, none⟩ = some (.slice A0_9 l0_9.length c0_9) := (blk_cell BK153.out 9).trans rfl; have hcz9_10 : w8.cell? ⟨gb153, 10, none⟩ = some (.slice A0_10 l0_10.length c0_10) := (blk_cell BK153.out 10).trans rfl; have hfz9_0 := blk_frozen BK153.out 0; have hfz9_1 := blk_frozen BK153.out 1; have hfz9_2 := blk_frozen BK153.out 2; have hfz9_3 := blk_frozen BK153.out 3; have hfz9_4 := blk_frozen BK153.out 4; have hfz9_5 := blk_frozen BK153.out 5; have hfz9_6 := blk_frozen BK153.out 6; have hfz9_7 := blk_frozen BK153.out 7; have hfz9_8 := blk_frozen BK153.out 8; have hfz9_9 := blk_frozen BK153.out 9; have hfz9_10 := blk_frozen BK153.out 10) | ((with_reducible refine gate_dst (N := 6) rfl ?_); refine Kd.R_lit Kd.string _ 9 ?hg (N := 6) ?hd (xs := ([] : List ByteArray)) (inner := []) (ok := fun _ => True) (okp := fun _ => True) ?hr ?hp (fun _ hk => hk) trivial (Below.refl _ _) (Nat.le_refl _) (by simp) ?_; (case hd => rfl); (case hg => rfl); (case hr => first | (go_simp; done) | (go_simp; rfl)); (case hp => exact (Reps.none _ _)); intro v158 w10 ho11 hb hg_ hnew_; clear hg_ hnew_; (first | rw [← Ny157.out] at ho11 | (simp only [Int.reduceToNat] at ho11; rw [← Ny157.out] at ho11)); have n0_ := Aside0.mk (Kd.R_lower ho11 (below_size (by repeat (first | (with_reducible first | exact HB.out | apply below_alloc | apply pw_below_drewN | apply below_drew1 | refine below_set ?_ GE153.out) | exact HB.out)))); have n1_ := Aside0.mk (blk_below (g := gb153) (o := .cells #[.string a0_0, .string a0_1, .string a0_2, .slice A0_3 l0_3.length c0_3, .bool a0_4, .bool a0_5, .slice A0_6 l0_6.length c0_6, .bool false, .slice A0_8 l0_8.length c0_8, .slice A0_9 l0_9.length c0_9, .slice A0_10 l0_10.length c0_10] 26 (0, 0)) (by (with_reducible repeat (first | refine blk_drewN ?_ _ | refine blk_drew ?_ | refine blk_alloc ?_ _)); exact BK153.out) hb); have n2_ := Aside0.mk (below_step (by repeat (first | (with_reducible first | exact HB.out | apply below_alloc | apply pw_below_drewN | apply below_drew1 | refine below_set ?_ GE153.out) | exact HB.out)) hb); clear BK153; clear HB; have HO159 := n0_; have BK153 := n1_; have HB := n2_; clear n0_ n1_ n2_; clear hb ho11; have hcz12_0 : w10.cell? ⟨gb153, 0, none⟩ = some (.string a0_0) := (blk_cell BK153.out 0).trans rfl; have hcz12_1 : w10.cell? ⟨gb153, 1, none⟩ = some (.string a0_1) := (blk_cell BK153.out 1).trans rfl; have hcz12_2 : w10.cell? ⟨gb153, 2, none⟩ = some (.string a0_2) := (blk_cell BK153.out 2).trans rfl; have hcz12_3 : w10.cell? ⟨gb153, 3, none⟩ = some (.slice A0_3 l0_3.length c0_3) := (blk_cell BK153.out 3).trans rfl; have hcz12_4 : w10.cell? ⟨gb153, 4, none⟩ = some (.bool a0_4) := (blk_cell BK153.out 4).trans rfl; have hcz12_5 : w10.cell? ⟨gb153, 5, none⟩ = some (.bool a0_5) := (blk_cell BK153.out 5).trans rfl; have hcz12_6 : w10.cell? ⟨gb153, 6, none⟩ = some (.slice A0_6 l0_6.length c0_6) := (blk_cell BK153.out 6).trans rfl; have hcz12_7 : w10.cell? ⟨gb153, 7, none⟩ = some (.bool false) := (blk_cell BK153.out 7).trans rfl; have hcz12_8 : w10.cell? ⟨gb153, 8, none⟩ = some (.slice A0_8 l0_8.length c0_8) := (blk_cell BK153.out 8).trans rfl; have hcz12_9 : w10.cell? ⟨gb153, 9, none⟩ = some (.slice A0_9 l0_9.length c0_9) := (blk_cell BK153.out 9).trans rfl; have hcz12_10 : w10.cell? ⟨gb153, 10, none⟩ = some (.slice A0_10 l0_10.length c0_10) := (blk_cell BK153.out 10).trans rfl; have hfz12_0 := blk_frozen BK153.out 0; have hfz12_1 := blk_frozen BK153.out 1; have hfz12_2 := blk_frozen BK153.out 2; have hfz12_3 := blk_frozen BK153.out 3; have hfz12_4 := blk_frozen BK153.out 4; have hfz12_5 := blk_frozen BK153.out 5; have hfz12_6 := blk_frozen BK153.out 6; have hfz12_7 := blk_frozen BK153.out 7; have hfz12_8 := blk_frozen BK153.out 8; have hfz12_9 := blk_frozen BK153.out 9; have hfz12_10 := blk_frozen BK153.out 10) | ((with_reducible refine gate_builtin (b := .append) (xs := #[.tmp 6, .tmp 8]) rfl ?_); at_builtin; refine Kd.R_append_rows Kd.string (w0 := w) w.heap.size rfl (.tmp 6) (.tmp 8) 23 9 (.string ⟨#[]⟩) 16 rfl Try.underlying23 info9 rfl (by decide) (by omega) v158 y157 l0_6 _ _ _ (fun _ => True) (fun _ => False) rfl rfl ?aO ?aR (fun _ _ h => h) (fun _ h => h.elim) ?aF ?aB ?aS ?aL ?_; (case aR => repeat (first | exact (Kd.C_below HR0_6.out HB.out) | (with_reducible refine Kd.C_alloc ?_ _) | (with_reducible refine Kd.C_drewN ?_ _) | (with_reducible refine Kd.C_drew ?_))); (case aB => exact (by repeat (first | (with_reducible first | exact HB.out | apply below_alloc | apply pw_below_drewN | apply below_drew1 | refine below_set ?_ GE153.out) | exact HB.out))); (case aF => exact (fun _ _ => trivial)); (case aO => exact (by (with_reducible repeat (first | apply Kd.R_alloc | apply Kd.R_drewN | apply Kd.R_drew)); exact HO159.out)); (case aS => exact (below_size (by repeat (first | (with_reducible first | exact HB.out | apply below_alloc | apply pw_below_drewN | apply below_drew1 | refine below_set ?_ GE153.out) | exact HB.out)))); (case aL => have := LMc7.out; omega); intro v161 w13 ho hb hg hat; rw [← Ny160.out] at ho; have n0_ := Aside0.mk (blk_grown (g := gb153) (o := .cells #[.string a0_0, .string a0_1, .string a0_2, .slice A0_3 l0_3.length c0_3, .bool a0_4, .bool a0_5, .slice A0_6 l0_6.length c0_6, .bool false, .slice A0_8 l0_8.length c0_8, .slice A0_9 l0_9.length c0_9, .slice A0_10 l0_10.length c0_10] 26 (0, 0)) (by (with_reducible repeat (first | refine blk_drewN ?_ _ | refine blk_drew ?_ | refine blk_alloc ?_ _)); exact BK153.out) hg (Kd.R_ne HO159.out BK153.out (by decide))); have n1_ := Aside0.mk (hb); have n2_ := Aside0.mk (ho); clear BK153; clear HB; clear HO159; have BK153 := n0_; have HB := n1_; have HO162 := n2_; clear n0_ n1_ n2_; clear ho hb hg hat))
      go_ret
      exact ⟨_, by first | rfl | (simp [errW_none, errW_some] <;> rfl) | (simp [*, errW_none, errW_some] <;> rfl), by (with_reducible repeat (first | apply Kd.R_alloc | apply Kd.R_drewN | apply Kd.R_drew)); exact HO162.out, by repeat (first | (with_reducible first | exact HB.out | apply below_alloc | apply pw_below_drewN | apply below_drew1 | refine below_set ?_ GE153.out) | exact HB.out)⟩
    · rw [if_neg c7] at H
      exact absurd H (by simp)

/-! ### fleuronref15_mark: function 18 -/
def fleuronref15_mark.f (a0_0 : ByteArray) (a0_1 : ByteArray) (a0_2 : ByteArray) (l0_3 : List (S43)) (a0_4 : Bool) (a0_5 : Bool) (l0_6 : List ByteArray) (a0_7 : Bool) (l0_8 : List (S47)) (l0_9 : List (S47)) (l0_10 : List (S47)) (a1 : Int) (a2 : Int) : Option (ByteArray) := (fleuronref15_Marks.f a0_0 a0_1 a0_2 l0_3 a0_4 a0_5 l0_6 a0_7 l0_8 l0_9 l0_10).bind fun t164 => (if (wrap64 ((t164.length : Int) / 2)) = 0 then (some (⟨#[]⟩ : ByteArray)) else (if 0 ≤ (wrap64 ((wrap64 (2 * (mn a1 (wrap64 ((wrap64 ((t164.length : Int) / 2)) - 1))))) + a2)) then (if (wrap64 ((wrap64 (2 * (mn a1 (wrap64 ((wrap64 ((t164.length : Int) / 2)) - 1))))) + a2)) < (t164.length : Int) then (some (rdOf ByteArray.empty t164 (wrap64 ((wrap64 (2 * (mn a1 (wrap64 ((wrap64 ((t164.length : Int) / 2)) - 1))))) + a2)))) else (none)) else (none)))
set_option maxHeartbeats 8000000 in
set_option maxRecDepth 100000 in
theorem fleuronref15_mark.calls (a0_0 : ByteArray) (a0_1 : ByteArray) (a0_2 : ByteArray) (A0_3 : Option Addr) (c0_3 : Nat) (l0_3 : List (S43)) (a0_4 : Bool) (a0_5 : Bool) (A0_6 : Option Addr) (c0_6 : Nat) (l0_6 : List ByteArray) (a0_7 : Bool) (A0_8 : Option Addr) (c0_8 : Nat) (l0_8 : List (S47)) (A0_9 : Option Addr) (c0_9 : Nat) (l0_9 : List (S47)) (A0_10 : Option Addr) (c0_10 : Nat) (l0_10 : List (S47)) (a1 : Int) (a2 : Int) (r : ByteArray) (w : World) (hr0_3 : Kd.C k43 w A0_3 l0_3.length l0_3) (hc0_3 : l0_3.length ≤ c0_3) (hr0_6 : Kd.C Kd.string w A0_6 l0_6.length l0_6) (hc0_6 : l0_6.length ≤ c0_6) (hr0_8 : Kd.C k47 w A0_8 l0_8.length l0_8) (hc0_8 : l0_8.length ≤ c0_8) (hr0_9 : Kd.C k47 w A0_9 l0_9.length l0_9) (hc0_9 : l0_9.length ≤ c0_9) (hr0_10 : Kd.C k47 w A0_10 l0_10.length l0_10) (hc0_10 : l0_10.length ≤ c0_10) (h : fleuronref15_mark.f a0_0 a0_1 a0_2 l0_3 a0_4 a0_5 l0_6 a0_7 l0_8 l0_9 l0_10 a1 a2 = some r) :
    Calls Try.prog 18 #[.agg #[.string a0_0, .string a0_1, .string a0_2, .slice A0_3 l0_3.length c0_3, .bool a0_4, .bool a0_5, .slice A0_6 l0_6.length c0_6, .bool a0_7, .slice A0_8 l0_8.length c0_8, .slice A0_9 l0_9.length c0_9, .slice A0_10 l0_10.length c0_10], .int .i64 a1, .int .i64 a2] w fun e w' => e = .returned (.string r) ∧ Below w.heap.size w w' := by
  have hu26 := Try.underlying26
  have HR0_3 := Aside0.mk hr0_3
  have HC0_3 := Aside0.mk hc0_3
  clear hr0_3 hc0_3
  have HR0_6 := Aside0.mk hr0_6
  have HC0_6 := Aside0.mk hc0_6
  clear hr0_6 hc0_6
  have HR0_8 := Aside0.mk hr0_8
  have HC0_8 := Aside0.mk hc0_8
  clear hr0_8 hc0_8
  have HR0_9 := Aside0.mk hr0_9
  have HC0_9 := Aside0.mk hc0_9
  clear hr0_9 hc0_9
  have HR0_10 := Aside0.mk hr0_10
  have HC0_10 := Aside0.mk hc0_10
  clear hr0_10 hc0_10
  have HB := Aside0.mk (Below.refl w.heap.size w)
  have H : ((fleuronref15_Marks.f a0_0 a0_1 a0_2 l0_3 a0_4 a0_5 l0_6 a0_7 l0_8 l0_9 l0_10).bind fun t164 => (if (wrap64 ((t164.length : Int) / 2)) = 0 then (some (⟨#[]⟩ : ByteArray)) else (if 0 ≤ (wrap64 ((wrap64 (2 * (mn a1 (wrap64 ((wrap64 ((t164.length : Int) / 2)) - 1))))) + a2)) then (if (wrap64 ((wrap64 (2 * (mn a1 (wrap64 ((wrap64 ((t164.length : Int) / 2)) - 1))))) + a2)) < (t164.length : Int) then (some (rdOf ByteArray.empty t164 (wrap64 ((wrap64 (2 * (mn a1 (wrap64 ((wrap64 ((t164.length : Int) / 2)) - 1))))) + a2)))) else (none)) else (none)))) = some r := h
  clear h
  replace H := Option.bind_eq_some_iff.mp H
  obtain ⟨t164, A40, H⟩ := H
  replace H : (if (wrap64 ((t164.length : Int) / 2)) = 0 then (some (⟨#[]⟩ : ByteArray)) else (if 0 ≤ (wrap64 ((wrap64 (2 * (mn a1 (wrap64 ((wrap64 ((t164.length : Int) / 2)) - 1))))) + a2)) then (if (wrap64 ((wrap64 (2 * (mn a1 (wrap64 ((wrap64 ((t164.length : Int) / 2)) - 1))))) + a2)) < (t164.length : Int) then (some (rdOf ByteArray.empty t164 (wrap64 ((wrap64 (2 * (mn a1 (wrap64 ((wrap64 ((t164.length : Int) / 2)) - 1))))) + a2)))) else (none)) else (none))) = some r := H
  have A4 := Aside0.mk A40
  clear A40
  by_cases c5 : (wrap64 ((t164.length : Int) / 2)) = 0
  · rw [if_pos c5] at H
    have c5b0 : ((wrap64 ((t164.length : Int) / 2)) == 0) = true := beq_iff_eq.mpr c5
    have c5b1 : ((wrap64 ((t164.length : Int) / 2)) != 0) = false := bne_eq_false_iff_eq.mpr c5
    clear c5
    obtain rfl := Option.some.inj H
    go_enter Try.func18, Try.ntmps18
    go_wp2_with (first | ((with_reducible refine gate_dst (N := 3) rfl ?_); refine box_event ?hg (N := 3) ?hd (cs := #[.string a0_0, .string a0_1, .string a0_2, .slice A0_3 l0_3.length c0_3, .bool a0_4, .bool a0_5, .slice A0_6 l0_6.length c0_6, .bool a0_7, .slice A0_8 l0_8.length c0_8, .slice A0_9 l0_9.length c0_9, .slice A0_10 l0_10.length c0_10]) (t := 26) ?hr ?_; (case hd => rfl); (case hg => rfl); (case hr => first | (go_simp; done) | (go_simp; rfl)); intro gb163 hg w6 hbox hb; have n0_ := Aside0.mk (below_step (by repeat (first | (with_reducible first | exact HB.out | apply below_alloc | apply pw_below_drewN | apply below_drew1) | exact HB.out)) hb); have n1_ := Aside0.mk (hbox); have n2_ := Aside0.mk ((by rw [hg]; exact (below_size (by repeat (first | (with_reducible first | exact HB.out | apply below_alloc | apply pw_below_drewN | apply below_drew1) | exact HB.out))) : w.heap.size ≤ gb163)); have n3_ := Aside0.mk ((by rw [hg]; exact (below_size (by repeat (first | (with_reducible first | exact HB.out | apply below_alloc | apply pw_below_drewN | apply below_drew1) | exact HB.out))) : w.heap.size ≤ gb163)); clear HB; have HB := n0_; have BK163 := n1_; have GW163 := n2_; have GE163 := n3_; clear n0_ n1_ n2_ n3_; clear hb hbox hg; have hcz7_0 : w6.cell? ⟨gb163, 0, none⟩ = some (.string a0_0) := (blk_cell BK163.out 0).trans rfl; have hcz7_1 : w6.cell? ⟨gb163, 1, none⟩ = some (.string a0_1) := (blk_cell BK163.out 1).trans rfl; have hcz7_2 : w6.cell? ⟨gb163, 2, none⟩ = some (.string a0_2) := (blk_cell BK163.out 2).trans rfl; have hcz7_3 : w6.cell? ⟨gb163, 3, none⟩ = some (.slice A0_3 l0_3.length c0_3) := (blk_cell BK163.out 3).trans rfl; have hcz7_4 : w6.cell? ⟨gb163, 4, none⟩ = some (.bool a0_4) := (blk_cell BK163.out 4).trans rfl; have hcz7_5 : w6.cell? ⟨gb163, 5, none⟩ = some (.bool a0_5) := (blk_cell BK163.out 5).trans rfl; have hcz7_6 : w6.cell? ⟨gb163, 6, none⟩ = some (.slice A0_6 l0_6.length c0_6) := (blk_cell BK163.out 6).trans rfl; have hcz7_7 : w6.cell? ⟨gb163, 7, none⟩ = some (.bool a0_7) := (blk_cell BK163.out 7).trans rfl; have hcz7_8 : w6.cell? ⟨gb163, 8, none⟩ = some (.slice A0_8 l0_8.length c0_8) := (blk_cell BK163.out 8).trans rfl; have hcz7_9 : w6.cell? ⟨gb163, 9, none⟩ = some (.slice A0_9 l0_9.length c0_9) := (blk_cell BK163.out 9).trans rfl; have hcz7_10 : w6.cell? ⟨gb163, 10, none⟩ = some (.slice A0_10 l0_10.length c0_10) := (blk_cell BK163.out 10).trans rfl; have hfz7_0 := blk_frozen BK163.out 0; have hfz7_1 := blk_frozen BK163.out 1; have hfz7_2 := blk_frozen BK163.out 2; have hfz7_3 := blk_frozen BK163.out 3; have hfz7_4 := blk_frozen BK163.out 4; have hfz7_5 := blk_frozen BK163.out 5; have hfz7_6 := blk_frozen BK163.out 6; have hfz7_7 := blk_frozen BK163.out 7; have hfz7_8 := blk_frozen BK163.out 8; have hfz7_9 := blk_frozen BK163.out 9; have hfz7_10 := blk_frozen BK163.out 10) | ((with_reducible refine gate_callee (f := 13) rfl ?_); refine goesL_ (some 10) rfl rfl Try.func13 (by kernel_rfl) rfl #[.agg #[.string a0_0, .string a0_1, .string a0_2, .slice A0_3 l0_3.length c0_3, .bool a0_4, .bool a0_5, .slice A0_6 l0_6.length c0_6, .bool a0_7, .slice A0_8 l0_8.length c0_8, .slice A0_9 l0_9.length c0_9, .slice A0_10 l0_10.length c0_10]] rfl (by (try simp only [List.map_toArray, List.map_cons, List.map_nil]); first | done | rfl | (simp only [List.length_drop, List.length_take]; rfl)) ?_; (with_reducible refine (fleuronref15_Marks.calls a0_0 a0_1 a0_2 _ _ l0_3 a0_4 a0_5 _ _ l0_6 a0_7 _ _ l0_8 _ _ l0_9 _ _ l0_10 t164 _ ?side1 ?side2 ?side3 ?side4 ?side5 ?side6 ?side7 ?side8 ?side9 ?side10 A4.out).mono ?_); (case side1 => repeat (first | exact (Kd.C_below HR0_3.out HB.out) | (with_reducible refine Kd.C_alloc ?_ _) | (with_reducible refine Kd.C_drewN ?_ _) | (with_reducible refine Kd.C_drew ?_))); (case side2 => exact HC0_3.out); (case side3 => repeat (first | exact (Kd.C_below HR0_6.out HB.out) | (with_reducible refine Kd.C_alloc ?_ _) | (with_reducible refine Kd.C_drewN ?_ _) | (with_reducible refine Kd.C_drew ?_))); (case side4 => exact HC0_6.out); (case side5 => repeat (first | exact (Kd.C_below HR0_8.out HB.out) | (with_reducible refine Kd.C_alloc ?_ _) | (with_reducible refine Kd.C_drewN ?_ _) | (with_reducible refine Kd.C_drew ?_))); (case side6 => exact HC0_8.out); (case side7 => repeat (first | exact (Kd.C_below HR0_9.out HB.out) | (with_reducible refine Kd.C_alloc ?_ _) | (with_reducible refine Kd.C_drewN ?_ _) | (with_reducible refine Kd.C_drew ?_))); (case side8 => exact HC0_9.out); (case side9 => repeat (first | exact (Kd.C_below HR0_10.out HB.out) | (with_reducible refine Kd.C_alloc ?_ _) | (with_reducible refine Kd.C_drewN ?_ _) | (with_reducible refine Kd.C_drew ?_))); (case side10 => exact HC0_10.out); rintro e w8 ⟨v165, rfl, ho0, hb⟩; refine ⟨_, rfl, ?_⟩; have n0_ := Aside0.mk (Kd.R_lower ho0 (below_size (by repeat (first | (with_reducible first | exact HB.out | apply below_alloc | apply pw_below_drewN | apply below_drew1 | refine below_set ?_ GE163.out) | exact HB.out)))); have n1_ := Aside0.mk (blk_below (g := gb163) (o := .cells #[.string a0_0, .string a0_1, .string a0_2, .slice A0_3 l0_3.length c0_3, .bool a0_4, .bool a0_5, .slice A0_6 l0_6.length c0_6, .bool a0_7, .slice A0_8 l0_8.length c0_8, .slice A0_9 l0_9.length c0_9, .slice A0_10 l0_10.length c0_10] 26 (0, 0)) (by (with_reducible repeat (first | refine blk_drewN ?_ _ | refine blk_drew ?_ | refine blk_alloc ?_ _)); exact BK163.out) hb); have n2_ := Aside0.mk (below_step (by repeat (first | (with_reducible first | exact HB.out | apply below_alloc | apply pw_below_drewN | apply below_drew1 | refine below_set ?_ GE163.out) | exact HB.out)) hb); clear BK163; clear HB; have HO166 := n0_; have BK163 := n1_; have HB := n2_; clear n0_ n1_ n2_; (try clear hb); (try clear hb2); (try clear hk); (try clear hi); (try clear ho0); obtain ⟨Ao9, co9, eo9⟩ := Kd.R_slice HO166.out; subst eo9))
    go_ret
    exact ⟨by first | rfl | (simp [errW_none, errW_some] <;> rfl) | (simp [*, errW_none, errW_some] <;> rfl), by repeat (first | (with_reducible first | exact HB.out | apply below_alloc | apply pw_below_drewN | apply below_drew1 | refine below_set ?_ GE163.out) | exact HB.out)⟩
  · rw [if_neg c5] at H
    have c5b0 : ((wrap64 ((t164.length : Int) / 2)) == 0) = false := beq_eq_false_iff_ne.mpr c5
    have c5b1 : ((wrap64 ((t164.length : Int) / 2)) != 0) = true := bne_iff_ne.mpr c5
    obtain ⟨ji10, hji10⟩ : ∃ j_ : Int, (mn a1 (wrap64 ((wrap64 ((t164.length : Int) / 2)) - 1))) = j_ := ⟨_, rfl⟩
    replace H : (if 0 ≤ (wrap64 ((wrap64 (2 * (ji10))) + a2)) then (if (wrap64 ((wrap64 (2 * (ji10))) + a2)) < (t164.length : Int) then (some (rdOf ByteArray.empty t164 (wrap64 ((wrap64 (2 * (ji10))) + a2)))) else (none)) else (none)) = some r := by first | (rw [hji10] at H; exact H) | (simp only [hji10] at H ⊢; exact H)
    (try rw [hji10] at A4)
    have hji10_ : (if (wrap64 ((wrap64 ((t164.length : Int) / 2)) - 1)) < a1 then (wrap64 ((wrap64 ((t164.length : Int) / 2)) - 1)) else a1) = ji10 := hji10
    obtain ⟨ji11, hji11⟩ : ∃ j_ : Int, (wrap64 ((wrap64 (2 * (ji10))) + a2)) = j_ := ⟨_, rfl⟩
    replace H : (if 0 ≤ (ji11) then (if (ji11) < (t164.length : Int) then (some (rdOf ByteArray.empty t164 (ji11))) else (none)) else (none)) = some r := by first | (rw [hji11] at H; exact H) | (simp only [hji11] at H ⊢; exact H)
    (try rw [hji11] at A4)
    have hji11w : (IntKind.i64.wrap ((wrap64 (2 * (ji10))) + a2)) = ji11 := (i64_w _).trans hji11
    by_cases c12 : 0 ≤ (ji11)
    · rw [if_pos c12] at H
      have c12b0 : decide (0 ≤ (ji11)) = true := decide_eq_true c12
      clear c12
      by_cases c13 : (ji11) < (t164.length : Int)
      · rw [if_pos c13] at H
        have c13b0 : decide ((ji11) < (t164.length : Int)) = true := decide_eq_true c13
        clear c13
        obtain rfl := Option.some.inj H
        go_enter Try.func18, Try.ntmps18
        go_wp2_with (first | ((with_reducible refine gate_dst (N := 3) rfl ?_); refine box_event ?hg (N := 3) ?hd (cs := #[.string a0_0, .string a0_1, .string a0_2, .slice A0_3 l0_3.length c0_3, .bool a0_4, .bool a0_5, .slice A0_6 l0_6.length c0_6, .bool a0_7, .slice A0_8 l0_8.length c0_8, .slice A0_9 l0_9.length c0_9, .slice A0_10 l0_10.length c0_10]) (t := 26) ?hr ?_; (case hd => rfl); (case hg => rfl); (case hr => first | (go_simp; done) | (go_simp; rfl)); intro gb163 hg w14 hbox hb; have n0_ := Aside0.mk (below_step (by repeat (first | (with_reducible first | exact HB.out | apply below_alloc | apply pw_below_drewN | apply below_drew1) | exact HB.out)) hb); have n1_ := Aside0.mk (hbox); have n2_ := Aside0.mk ((by rw [hg]; exact (below_size (by repeat (first | (with_reducible first | exact HB.out | apply below_alloc | apply pw_below_drewN | apply below_drew1) | exact HB.out))) : w.heap.size ≤ gb163)); have n3_ := Aside0.mk ((by rw [hg]; exact (below_size (by repeat (first | (with_reducible first | exact HB.out | apply below_alloc | apply pw_below_drewN | apply below_drew1) | exact HB.out))) : w.heap.size ≤ gb163)); clear HB; have HB := n0_; have BK163 := n1_; have GW163 := n2_; have GE163 := n3_; clear n0_ n1_ n2_ n3_; clear hb hbox hg; have hcz15_0 : w14.cell? ⟨gb163, 0, none⟩ = some (.string a0_0) := (blk_cell BK163.out 0).trans rfl; have hcz15_1 : w14.cell? ⟨gb163, 1, none⟩ = some (.string a0_1) := (blk_cell BK163.out 1).trans rfl; have hcz15_2 : w14.cell? ⟨gb163, 2, none⟩ = some (.string a0_2) := (blk_cell BK163.out 2).trans rfl; have hcz15_3 : w14.cell? ⟨gb163, 3, none⟩ = some (.slice A0_3 l0_3.length c0_3) := (blk_cell BK163.out 3).trans rfl; have hcz15_4 : w14.cell? ⟨gb163, 4, none⟩ = some (.bool a0_4) := (blk_cell BK163.out 4).trans rfl; have hcz15_5 : w14.cell? ⟨gb163, 5, none⟩ = some (.bool a0_5) := (blk_cell BK163.out 5).trans rfl; have hcz15_6 : w14.cell? ⟨gb163, 6, none⟩ = some (.slice A0_6 l0_6.length c0_6) := (blk_cell BK163.out 6).trans rfl; have hcz15_7 : w14.cell? ⟨gb163, 7, none⟩ = some (.bool a0_7) := (blk_cell BK163.out 7).trans rfl; have hcz15_8 : w14.cell? ⟨gb163, 8, none⟩ = some (.slice A0_8 l0_8.length c0_8) := (blk_cell BK163.out 8).trans rfl; have hcz15_9 : w14.cell? ⟨gb163, 9, none⟩ = some (.slice A0_9 l0_9.length c0_9) := (blk_cell BK163.out 9).trans rfl; have hcz15_10 : w14.cell? ⟨gb163, 10, none⟩ = some (.slice A0_10 l0_10.length c0_10) := (blk_cell BK163.out 10).trans rfl; have hfz15_0 := blk_frozen BK163.out 0; have hfz15_1 := blk_frozen BK163.out 1; have hfz15_2 := blk_frozen BK163.out 2; have hfz15_3 := blk_frozen BK163.out 3; have hfz15_4 := blk_frozen BK163.out 4; have hfz15_5 := blk_frozen BK163.out 5; have hfz15_6 := blk_frozen BK163.out 6; have hfz15_7 := blk_frozen BK163.out 7; have hfz15_8 := blk_frozen BK163.out 8; have hfz15_9 := blk_frozen BK163.out 9; have hfz15_10 := blk_frozen BK163.out 10) | ((with_reducible refine gate_callee (f := 13) rfl ?_); refine goesL_ (some 10) rfl rfl Try.func13 (by kernel_rfl) rfl #[.agg #[.string a0_0, .string a0_1, .string a0_2, .slice A0_3 l0_3.length c0_3, .bool a0_4, .bool a0_5, .slice A0_6 l0_6.length c0_6, .bool a0_7, .slice A0_8 l0_8.length c0_8, .slice A0_9 l0_9.length c0_9, .slice A0_10 l0_10.length c0_10]] rfl (by (try simp only [List.map_toArray, List.map_cons, List.map_nil]); first | done | rfl | (simp only [List.length_drop, List.length_take]; rfl)) ?_; (with_reducible refine (fleuronref15_Marks.calls a0_0 a0_1 a0_2 _ _ l0_3 a0_4 a0_5 _ _ l0_6 a0_7 _ _ l0_8 _ _ l0_9 _ _ l0_10 t164 _ ?side1 ?side2 ?side3 ?side4 ?side5 ?side6 ?side7 ?side8 ?side9 ?side10 A4.out).mono ?_); (case side1 => repeat (first | exact (Kd.C_below HR0_3.out HB.out) | (with_reducible refine Kd.C_alloc ?_ _) | (with_reducible refine Kd.C_drewN ?_ _) | (with_reducible refine Kd.C_drew ?_))); (case side2 => exact HC0_3.out); (case side3 => repeat (first | exact (Kd.C_below HR0_6.out HB.out) | (with_reducible refine Kd.C_alloc ?_ _) | (with_reducible refine Kd.C_drewN ?_ _) | (with_reducible refine Kd.C_drew ?_))); (case side4 => exact HC0_6.out); (case side5 => repeat (first | exact (Kd.C_below HR0_8.out HB.out) | (with_reducible refine Kd.C_alloc ?_ _) | (with_reducible refine Kd.C_drewN ?_ _) | (with_reducible refine Kd.C_drew ?_))); (case side6 => exact HC0_8.out); (case side7 => repeat (first | exact (Kd.C_below HR0_9.out HB.out) | (with_reducible refine Kd.C_alloc ?_ _) | (with_reducible refine Kd.C_drewN ?_ _) | (with_reducible refine Kd.C_drew ?_))); (case side8 => exact HC0_9.out); (case side9 => repeat (first | exact (Kd.C_below HR0_10.out HB.out) | (with_reducible refine Kd.C_alloc ?_ _) | (with_reducible refine Kd.C_drewN ?_ _) | (with_reducible refine Kd.C_drew ?_))); (case side10 => exact HC0_10.out); rintro e w16 ⟨v165, rfl, ho0, hb⟩; refine ⟨_, rfl, ?_⟩; have n0_ := Aside0.mk (Kd.R_lower ho0 (below_size (by repeat (first | (with_reducible first | exact HB.out | apply below_alloc | apply pw_below_drewN | apply below_drew1 | refine below_set ?_ GE163.out) | exact HB.out)))); have n1_ := Aside0.mk (blk_below (g := gb163) (o := .cells #[.string a0_0, .string a0_1, .string a0_2, .slice A0_3 l0_3.length c0_3, .bool a0_4, .bool a0_5, .slice A0_6 l0_6.length c0_6, .bool a0_7, .slice A0_8 l0_8.length c0_8, .slice A0_9 l0_9.length c0_9, .slice A0_10 l0_10.length c0_10] 26 (0, 0)) (by (with_reducible repeat (first | refine blk_drewN ?_ _ | refine blk_drew ?_ | refine blk_alloc ?_ _)); exact BK163.out) hb); have n2_ := Aside0.mk (below_step (by repeat (first | (with_reducible first | exact HB.out | apply below_alloc | apply pw_below_drewN | apply below_drew1 | refine below_set ?_ GE163.out) | exact HB.out)) hb); clear BK163; clear HB; have HO166 := n0_; have BK163 := n1_; have HB := n2_; clear n0_ n1_ n2_; (try clear hb); (try clear hb2); (try clear hk); (try clear hi); (try clear ho0); obtain ⟨Ao17, co17, eo17⟩ := Kd.R_slice HO166.out; subst eo17; have p167 : 0 ≤ ((ji11) : Int) := of_decide_eq_true (by first | (with_reducible assumption) | assumption); have q167 : (ji11) < (t164.length : Int) := of_decide_eq_true (by first | (with_reducible assumption) | assumption); obtain ⟨ad167, e167, hx167_0⟩ := Kd.at_string (Kd.R_reads' HO166.out).2.2 (ji11) p167 q167; cases e167; replace p167 := eq_true p167; replace q167 := eq_true q167))
        go_ret
        exact ⟨by first | rfl | (simp [errW_none, errW_some] <;> rfl) | (simp only [← hji10, ← hji11]; first | rfl | (simp [errW_none, errW_some] <;> rfl)) | (simp [*, errW_none, errW_some] <;> rfl), by repeat (first | (with_reducible first | exact HB.out | apply below_alloc | apply pw_below_drewN | apply below_drew1 | refine below_set ?_ GE163.out) | exact HB.out)⟩
      · rw [if_neg c13] at H
        exact absurd H (by simp)
    · rw [if_neg c12] at H
      exact absurd H (by simp)

end Go.Proofs.Ytodcbiehocphkaa.P
