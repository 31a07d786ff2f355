/- A text written by a program of this session's own (wip/tools/fprint.py), which extends the kit's print. -/
import Derived.Test.YtodcbiehocphkaaPx0
import Derived.Test.YtodcbiehocphkaaPx1
namespace Go.Proofs.Ytodcbiehocphkaa.P
open Go.RowKit Go.Proofs.YtodcbiehocphkaaW.PrintWords Go.Proofs.YtodcbiehocphkaaW.PrintLast Go.Proofs.YtodcbiehocphkaaW.PrintMore
attribute [local go_sem] max2_int min2_int max_two min_two max_three min_three max_four min_four   -- for this text's walks alone
set_option linter.unusedVariables false
set_option linter.unusedSimpArgs false

/-! ### fleuronalike_Style: function 7 -/
mutual
def fleuronalike_Style.j0 : Nat → Bool → ByteArray → ByteArray → ByteArray → List (S43) → Bool → Bool → List ByteArray → Bool → List (S47) → List (S47) → List (S47) → Option (Bool)
  | 0, _, _, _, _, _, _, _, _, _, _, _, _ => none
  | k + 1, x50, x103000, x103001, x103002, x103003, x103004, x103005, x103006, x103007, x103008, x103009, x103010 => if x50 = true then (some false) else (fleuronalike_Style.l0 k 0 x103000 x103001 x103002 x103003 x103004 x103005 x103006 x103007 x103008 x103009 x103010)
def fleuronalike_Style.l0 : Nat → Int → ByteArray → ByteArray → ByteArray → List (S43) → Bool → Bool → List ByteArray → Bool → List (S47) → List (S47) → List (S47) → Option (Bool)
  | 0, _, _, _, _, _, _, _, _, _, _, _, _ => none
  | k + 1, x3, x103000, x103001, x103002, x103003, x103004, x103005, x103006, x103007, x103008, x103009, x103010 => if x3 < (x103003.length : Int) then (if 0 ≤ x3 then (if (((rd_T43 x103003 x3).f1).size : Int) > 300 then (some false) else (if (((rd_T43 x103003 x3).f2).size : Int) > 300 then (some false) else (if (((rd_T43 x103003 x3).f3).size : Int) > 100 then (some false) else (fleuronalike_Style.l0 k (wrap64 (x3 + 1)) x103000 x103001 x103002 x103003 x103004 x103005 x103006 x103007 x103008 x103009 x103010)))) else (none)) else (fleuronalike_Style.l1 k 0 x103000 x103001 x103002 x103003 x103004 x103005 x103006 x103007 x103008 x103009 x103010)
def fleuronalike_Style.l1 : Nat → Int → ByteArray → ByteArray → ByteArray → List (S43) → Bool → Bool → List ByteArray → Bool → List (S47) → List (S47) → List (S47) → Option (Bool)
  | 0, _, _, _, _, _, _, _, _, _, _, _, _ => none
  | k + 1, x4, x103000, x103001, x103002, x103003, x103004, x103005, x103006, x103007, x103008, x103009, x103010 => if x4 < (x103006.length : Int) then (if 0 ≤ x4 then (if ((rdOf ByteArray.empty x103006 x4).size : Int) > 300 then (some false) else (fleuronalike_Style.l1 k (wrap64 (x4 + 1)) x103000 x103001 x103002 x103003 x103004 x103005 x103006 x103007 x103008 x103009 x103010)) else (none)) else (some true)
end
def fleuronalike_Style.f (k : Nat) (a0_0 : ByteArray) (a0_1 : ByteArray) (a0_2 : ByteArray) (l0_3 : List (S43)) (a0_4 : Bool) (a0_5 : Bool) (l0_6 : List ByteArray) (a0_7 : Bool) (l0_8 : List (S47)) (l0_9 : List (S47)) (l0_10 : List (S47)) : Option (Bool) := if (a0_0.size : Int) > 100 then (fleuronalike_Style.j0 k true a0_0 a0_1 a0_2 l0_3 a0_4 a0_5 l0_6 a0_7 l0_8 l0_9 l0_10) else (if (a0_1.size : Int) > 300 then (fleuronalike_Style.j0 k true a0_0 a0_1 a0_2 l0_3 a0_4 a0_5 l0_6 a0_7 l0_8 l0_9 l0_10) else (if (a0_2.size : Int) > 100 then (fleuronalike_Style.j0 k true a0_0 a0_1 a0_2 l0_3 a0_4 a0_5 l0_6 a0_7 l0_8 l0_9 l0_10) else (if (l0_3.length : Int) > 40 then (fleuronalike_Style.j0 k true a0_0 a0_1 a0_2 l0_3 a0_4 a0_5 l0_6 a0_7 l0_8 l0_9 l0_10) else (if (l0_6.length : Int) > 40 then (fleuronalike_Style.j0 k true a0_0 a0_1 a0_2 l0_3 a0_4 a0_5 l0_6 a0_7 l0_8 l0_9 l0_10) else ((fleuronalike_Pairs.f k l0_8).bind fun t103 => (if t103 = true then ((fleuronalike_Pairs.f k l0_9).bind fun t104 => (if t104 = true then ((fleuronalike_Pairs.f k l0_10).bind fun t105 => (fleuronalike_Style.j0 k (!t105) a0_0 a0_1 a0_2 l0_3 a0_4 a0_5 l0_6 a0_7 l0_8 l0_9 l0_10)) else (fleuronalike_Style.j0 k true a0_0 a0_1 a0_2 l0_3 a0_4 a0_5 l0_6 a0_7 l0_8 l0_9 l0_10))) else (fleuronalike_Style.j0 k true a0_0 a0_1 a0_2 l0_3 a0_4 a0_5 l0_6 a0_7 l0_8 l0_9 l0_10)))))))
theorem fleuronalike_Style.mono_l : ∀ k, (∀ y0 y1 y2 y3 y4 y5 y6 y7 y8 y9 y10 y11, LeO (fleuronalike_Style.j0 k y0 y1 y2 y3 y4 y5 y6 y7 y8 y9 y10 y11) (fleuronalike_Style.j0 (k + 1) y0 y1 y2 y3 y4 y5 y6 y7 y8 y9 y10 y11)) ∧ (∀ y0 y1 y2 y3 y4 y5 y6 y7 y8 y9 y10 y11, LeO (fleuronalike_Style.l0 k y0 y1 y2 y3 y4 y5 y6 y7 y8 y9 y10 y11) (fleuronalike_Style.l0 (k + 1) y0 y1 y2 y3 y4 y5 y6 y7 y8 y9 y10 y11)) ∧ (∀ y0 y1 y2 y3 y4 y5 y6 y7 y8 y9 y10 y11, LeO (fleuronalike_Style.l1 k y0 y1 y2 y3 y4 y5 y6 y7 y8 y9 y10 y11) (fleuronalike_Style.l1 (k + 1) y0 y1 y2 y3 y4 y5 y6 y7 y8 y9 y10 y11))
  | 0 => ⟨fun _ _ _ _ _ _ _ _ _ _ _ _ r h => by simp [fleuronalike_Style.j0] at h, fun _ _ _ _ _ _ _ _ _ _ _ _ r h => by simp [fleuronalike_Style.l0] at h, fun _ _ _ _ _ _ _ _ _ _ _ _ r h => by simp [fleuronalike_Style.l1] at h⟩
  | k + 1 => by
    obtain ⟨ih0, ih1, ih2⟩ := fleuronalike_Style.mono_l k
    refine ⟨?_, ?_, ?_⟩
    · intro y0 y1 y2 y3 y4 y5 y6 y7 y8 y9 y10 y11
      unfold fleuronalike_Style.j0
      repeat' first
      | (with_reducible exact ih0 _ _ _ _ _ _ _ _ _ _ _ _)
      | (with_reducible exact ih1 _ _ _ _ _ _ _ _ _ _ _ _)
      | (with_reducible exact ih2 _ _ _ _ _ _ _ _ _ _ _ _)
      | (with_reducible exact fleuronalike_Pairs.mono _ _)
      | (with_reducible exact LeO.refl _)
      | (with_reducible exact LeO.none _)
      | (with_reducible refine LeO.ite ?_ ?_)
      | (with_reducible refine LeO.bind ?_ (fun _ => ?_))
      | exact ih0 _ _ _ _ _ _ _ _ _ _ _ _
      | exact ih1 _ _ _ _ _ _ _ _ _ _ _ _
      | exact ih2 _ _ _ _ _ _ _ _ _ _ _ _
      | exact fleuronalike_Pairs.mono _ _
      | exact LeO.none _
      | refine LeO.ite ?_ ?_
      | refine LeO.bind ?_ (fun _ => ?_)
    · intro y0 y1 y2 y3 y4 y5 y6 y7 y8 y9 y10 y11
      unfold fleuronalike_Style.l0
      repeat' first
      | (with_reducible exact ih0 _ _ _ _ _ _ _ _ _ _ _ _)
      | (with_reducible exact ih1 _ _ _ _ _ _ _ _ _ _ _ _)
      | (with_reducible exact ih2 _ _ _ _ _ _ _ _ _ _ _ _)
      | (with_reducible exact fleuronalike_Pairs.mono _ _)
      | (with_reducible exact LeO.refl _)
      | (with_reducible exact LeO.none _)
      | (with_reducible refine LeO.ite ?_ ?_)
      | (with_reducible refine LeO.bind ?_ (fun _ => ?_))
      | exact ih0 _ _ _ _ _ _ _ _ _ _ _ _
      | exact ih1 _ _ _ _ _ _ _ _ _ _ _ _
      | exact ih2 _ _ _ _ _ _ _ _ _ _ _ _
      | exact fleuronalike_Pairs.mono _ _
      | exact LeO.none _
      | refine LeO.ite ?_ ?_
      | refine LeO.bind ?_ (fun _ => ?_)
    · intro y0 y1 y2 y3 y4 y5 y6 y7 y8 y9 y10 y11
      unfold fleuronalike_Style.l1
      repeat' first
      | (with_reducible exact ih0 _ _ _ _ _ _ _ _ _ _ _ _)
      | (with_reducible exact ih1 _ _ _ _ _ _ _ _ _ _ _ _)
      | (with_reducible exact ih2 _ _ _ _ _ _ _ _ _ _ _ _)
      | (with_reducible exact fleuronalike_Pairs.mono _ _)
      | (with_reducible exact LeO.refl _)
      | (with_reducible exact LeO.none _)
      | (with_reducible refine LeO.ite ?_ ?_)
      | (with_reducible refine LeO.bind ?_ (fun _ => ?_))
      | exact ih0 _ _ _ _ _ _ _ _ _ _ _ _
      | exact ih1 _ _ _ _ _ _ _ _ _ _ _ _
      | exact ih2 _ _ _ _ _ _ _ _ _ _ _ _
      | exact fleuronalike_Pairs.mono _ _
      | exact LeO.none _
      | refine LeO.ite ?_ ?_
      | refine LeO.bind ?_ (fun _ => ?_)
theorem fleuronalike_Style.mono : ∀ a0 a1 a2 a3 a4 a5 a6 a7 a8 a9 a10 k, LeO (fleuronalike_Style.f k a0 a1 a2 a3 a4 a5 a6 a7 a8 a9 a10) (fleuronalike_Style.f (k + 1) a0 a1 a2 a3 a4 a5 a6 a7 a8 a9 a10) := by
  intro a0 a1 a2 a3 a4 a5 a6 a7 a8 a9 a10 k
  obtain ⟨ih0, ih1, ih2⟩ := fleuronalike_Style.mono_l k
  unfold fleuronalike_Style.f
  repeat' first
      | (with_reducible exact ih0 _ _ _ _ _ _ _ _ _ _ _ _)
      | (with_reducible exact ih1 _ _ _ _ _ _ _ _ _ _ _ _)
      | (with_reducible exact ih2 _ _ _ _ _ _ _ _ _ _ _ _)
      | (with_reducible exact fleuronalike_Pairs.mono _ _)
      | (with_reducible exact LeO.refl _)
      | (with_reducible exact LeO.none _)
      | (with_reducible refine LeO.ite ?_ ?_)
      | (with_reducible refine LeO.bind ?_ (fun _ => ?_))
      | exact ih0 _ _ _ _ _ _ _ _ _ _ _ _
      | exact ih1 _ _ _ _ _ _ _ _ _ _ _ _
      | exact ih2 _ _ _ _ _ _ _ _ _ _ _ _
      | exact fleuronalike_Pairs.mono _ _
      | exact LeO.none _
      | refine LeO.ite ?_ ?_
      | refine LeO.bind ?_ (fun _ => ?_)
set_option maxHeartbeats 8000000 in
set_option maxRecDepth 100000 in
theorem fleuronalike_Style.calls (k : Nat) (a0_0 : ByteArray) (a0_1 : ByteArray) (a0_2 : ByteArray) (A0_3 : Option Addr) (c0_3 : Nat) (l0_3 : List (S43)) (a0_4 : Bool) (a0_5 : Bool) (A0_6 : Option Addr) (c0_6 : Nat) (l0_6 : List ByteArray) (a0_7 : Bool) (A0_8 : Option Addr) (c0_8 : Nat) (l0_8 : List (S47)) (A0_9 : Option Addr) (c0_9 : Nat) (l0_9 : List (S47)) (A0_10 : Option Addr) (c0_10 : Nat) (l0_10 : List (S47)) (r : Bool) (w : World) (hr0_3 : Kd.C k43 w A0_3 l0_3.length l0_3) (hc0_3 : l0_3.length ≤ c0_3) (hr0_6 : Kd.C Kd.string w A0_6 l0_6.length l0_6) (hc0_6 : l0_6.length ≤ c0_6) (hr0_8 : Kd.C k47 w A0_8 l0_8.length l0_8) (hc0_8 : l0_8.length ≤ c0_8) (hr0_9 : Kd.C k47 w A0_9 l0_9.length l0_9) (hc0_9 : l0_9.length ≤ c0_9) (hr0_10 : Kd.C k47 w A0_10 l0_10.length l0_10) (hc0_10 : l0_10.length ≤ c0_10) (h : fleuronalike_Style.f k a0_0 a0_1 a0_2 l0_3 a0_4 a0_5 l0_6 a0_7 l0_8 l0_9 l0_10 = some r) :
    Calls Try.prog 7 #[.agg #[.string a0_0, .string a0_1, .string a0_2, .slice A0_3 l0_3.length c0_3, .bool a0_4, .bool a0_5, .slice A0_6 l0_6.length c0_6, .bool a0_7, .slice A0_8 l0_8.length c0_8, .slice A0_9 l0_9.length c0_9, .slice A0_10 l0_10.length c0_10]] w fun e w' => e = .returned (.bool r) ∧ Below w.heap.size w w' := by
  have hu26 := Try.underlying26
  have HR0_3 := Aside0.mk hr0_3
  have HC0_3 := Aside0.mk hc0_3
  clear hr0_3 hc0_3
  have HR0_6 := Aside0.mk hr0_6
  have HC0_6 := Aside0.mk hc0_6
  clear hr0_6 hc0_6
  have HR0_8 := Aside0.mk hr0_8
  have HC0_8 := Aside0.mk hc0_8
  clear hr0_8 hc0_8
  have HR0_9 := Aside0.mk hr0_9
  have HC0_9 := Aside0.mk hc0_9
  clear hr0_9 hc0_9
  have HR0_10 := Aside0.mk hr0_10
  have HC0_10 := Aside0.mk hc0_10
  clear hr0_10 hc0_10
  have HB := Aside0.mk (Below.refl w.heap.size w)
  have H : (if (a0_0.size : Int) > 100 then (fleuronalike_Style.j0 k true a0_0 a0_1 a0_2 l0_3 a0_4 a0_5 l0_6 a0_7 l0_8 l0_9 l0_10) else (if (a0_1.size : Int) > 300 then (fleuronalike_Style.j0 k true a0_0 a0_1 a0_2 l0_3 a0_4 a0_5 l0_6 a0_7 l0_8 l0_9 l0_10) else (if (a0_2.size : Int) > 100 then (fleuronalike_Style.j0 k true a0_0 a0_1 a0_2 l0_3 a0_4 a0_5 l0_6 a0_7 l0_8 l0_9 l0_10) else (if (l0_3.length : Int) > 40 then (fleuronalike_Style.j0 k true a0_0 a0_1 a0_2 l0_3 a0_4 a0_5 l0_6 a0_7 l0_8 l0_9 l0_10) else (if (l0_6.length : Int) > 40 then (fleuronalike_Style.j0 k true a0_0 a0_1 a0_2 l0_3 a0_4 a0_5 l0_6 a0_7 l0_8 l0_9 l0_10) else ((fleuronalike_Pairs.f k l0_8).bind fun t103 => (if t103 = true then ((fleuronalike_Pairs.f k l0_9).bind fun t104 => (if t104 = true then ((fleuronalike_Pairs.f k l0_10).bind fun t105 => (fleuronalike_Style.j0 k (!t105) a0_0 a0_1 a0_2 l0_3 a0_4 a0_5 l0_6 a0_7 l0_8 l0_9 l0_10)) else (fleuronalike_Style.j0 k true a0_0 a0_1 a0_2 l0_3 a0_4 a0_5 l0_6 a0_7 l0_8 l0_9 l0_10))) else (fleuronalike_Style.j0 k true a0_0 a0_1 a0_2 l0_3 a0_4 a0_5 l0_6 a0_7 l0_8 l0_9 l0_10)))))))) = some r := h
  clear h
  have HC2 := Aside0.mk H
  clear H
  go_enter Try.func7, Try.ntmps7
  go_upto_region 1 with (first | ((with_reducible refine gate_dst (N := 1) rfl ?_); (try (refine gate_guard (by rfl) ?_; dsimp only)); refine box_event ?hg (N := 1) ?hd (cs := #[.string a0_0, .string a0_1, .string a0_2, .slice A0_3 l0_3.length c0_3, .bool a0_4, .bool a0_5, .slice A0_6 l0_6.length c0_6, .bool a0_7, .slice A0_8 l0_8.length c0_8, .slice A0_9 l0_9.length c0_9, .slice A0_10 l0_10.length c0_10]) (t := 26) ?hr ?_; (case hd => rfl); (case hg => rfl); (case hr => first | (go_simp; done) | (go_simp; rfl)); intro gb102 hg w3 hbox hb; have n0_ := Aside0.mk (below_step (by repeat (first | (with_reducible first | exact HB.out | apply below_alloc | apply pw_below_drewN | apply below_drew1) | exact HB.out)) hb); have n1_ := Aside0.mk (hbox); have n2_ := Aside0.mk ((by rw [hg]; exact (below_size (by repeat (first | (with_reducible first | exact HB.out | apply below_alloc | apply pw_below_drewN | apply below_drew1) | exact HB.out))) : w.heap.size ≤ gb102)); have n3_ := Aside0.mk ((by rw [hg]; exact (below_size (by repeat (first | (with_reducible first | exact HB.out | apply below_alloc | apply pw_below_drewN | apply below_drew1) | exact HB.out))) : w.heap.size ≤ gb102)); clear HB; have HB := n0_; have BK102 := n1_; have GW102 := n2_; have GE102 := n3_; clear n0_ n1_ n2_ n3_; clear hb hbox hg))
  (try simp only [Act.put, List.setIfInBounds_toArray, List.set_cons_zero, List.set_cons_succ])
  go_cut [50] (fun v50 wc => ∃ (kq : Nat) (x50_1 : Bool), v50 = .bool x50_1 ∧ Aside0 (fleuronalike_Style.j0 kq x50_1 a0_0 a0_1 a0_2 l0_3 a0_4 a0_5 l0_6 a0_7 l0_8 l0_9 l0_10 = some r) ∧ Aside0 (kq ≤ k) ∧ Aside0 (wc.heap[gb102]? = some (.cells #[.string a0_0, .string a0_1, .string a0_2, (.slice A0_3 l0_3.length c0_3), .bool a0_4, .bool a0_5, (.slice A0_6 l0_6.length c0_6), .bool a0_7, (.slice A0_8 l0_8.length c0_8), (.slice A0_9 l0_9.length c0_9), (.slice A0_10 l0_10.length c0_10)] 26 (0, 0))) ∧ Aside0 (Below w.heap.size w wc))
  case first =>
    have H := HC2.out
    clear HC2
    by_cases c4 : (a0_0.size : Int) > 100
    · rw [if_pos c4] at H
      have c4b0 : decide (100 < (a0_0.size : Int)) = true := decide_eq_true c4
      have c4b1 : decide (100 < a0_0.size) = true := decide_eq_true (by omega)
      clear c4
      (first | rw [c4b0] | (simp only [i64_w, i32_w]; rw [c4b0]) | skip)
      have H' := Aside0.mk H
      clear H
      have hcz5_0 : w3.cell? ⟨gb102, 0, none⟩ = some (.string a0_0) := (blk_cell BK102.out 0).trans rfl
      have hcz5_1 : w3.cell? ⟨gb102, 1, none⟩ = some (.string a0_1) := (blk_cell BK102.out 1).trans rfl
      have hcz5_2 : w3.cell? ⟨gb102, 2, none⟩ = some (.string a0_2) := (blk_cell BK102.out 2).trans rfl
      have hcz5_3 : w3.cell? ⟨gb102, 3, none⟩ = some (.slice A0_3 l0_3.length c0_3) := (blk_cell BK102.out 3).trans rfl
      have hcz5_4 : w3.cell? ⟨gb102, 4, none⟩ = some (.bool a0_4) := (blk_cell BK102.out 4).trans rfl
      have hcz5_5 : w3.cell? ⟨gb102, 5, none⟩ = some (.bool a0_5) := (blk_cell BK102.out 5).trans rfl
      have hcz5_6 : w3.cell? ⟨gb102, 6, none⟩ = some (.slice A0_6 l0_6.length c0_6) := (blk_cell BK102.out 6).trans rfl
      have hcz5_7 : w3.cell? ⟨gb102, 7, none⟩ = some (.bool a0_7) := (blk_cell BK102.out 7).trans rfl
      have hcz5_8 : w3.cell? ⟨gb102, 8, none⟩ = some (.slice A0_8 l0_8.length c0_8) := (blk_cell BK102.out 8).trans rfl
      have hcz5_9 : w3.cell? ⟨gb102, 9, none⟩ = some (.slice A0_9 l0_9.length c0_9) := (blk_cell BK102.out 9).trans rfl
      have hcz5_10 : w3.cell? ⟨gb102, 10, none⟩ = some (.slice A0_10 l0_10.length c0_10) := (blk_cell BK102.out 10).trans rfl
      have hfz5_0 := blk_frozen BK102.out 0
      have hfz5_1 := blk_frozen BK102.out 1
      have hfz5_2 := blk_frozen BK102.out 2
      have hfz5_3 := blk_frozen BK102.out 3
      have hfz5_4 := blk_frozen BK102.out 4
      have hfz5_5 := blk_frozen BK102.out 5
      have hfz5_6 := blk_frozen BK102.out 6
      have hfz5_7 := blk_frozen BK102.out 7
      have hfz5_8 := blk_frozen BK102.out 8
      have hfz5_9 := blk_frozen BK102.out 9
      have hfz5_10 := blk_frozen BK102.out 10
      go_wp2
      go_meet
      case rel => exact ⟨_, (true), (by first | rfl | (simp; done) | (simp [*]; done)), H', ⟨by first | omega | exact Nat.le_refl _⟩, ⟨by (with_reducible repeat (first | refine blk_drewN ?_ _ | refine blk_drew ?_ | refine blk_alloc ?_ _)); exact BK102.out⟩, ⟨by repeat (first | (with_reducible first | exact HB.out | apply below_alloc | apply pw_below_drewN | apply below_drew1 | refine below_set ?_ GE102.out) | exact HB.out)⟩⟩
    · rw [if_neg c4] at H
      have c4b0 : decide (100 < (a0_0.size : Int)) = false := decide_eq_false c4
      have c4b1 : decide (100 < a0_0.size) = false := decide_eq_false (by omega)
      clear c4
      (first | rw [c4b0] | (simp only [i64_w, i32_w]; rw [c4b0]) | skip)
      by_cases c6 : (a0_1.size : Int) > 300
      · rw [if_pos c6] at H
        have c6b0 : decide (300 < (a0_1.size : Int)) = true := decide_eq_true c6
        have c6b1 : decide (300 < a0_1.size) = true := decide_eq_true (by omega)
        clear c6
        have H' := Aside0.mk H
        clear H
        have hcz7_0 : w3.cell? ⟨gb102, 0, none⟩ = some (.string a0_0) := (blk_cell BK102.out 0).trans rfl
        have hcz7_1 : w3.cell? ⟨gb102, 1, none⟩ = some (.string a0_1) := (blk_cell BK102.out 1).trans rfl
        have hcz7_2 : w3.cell? ⟨gb102, 2, none⟩ = some (.string a0_2) := (blk_cell BK102.out 2).trans rfl
        have hcz7_3 : w3.cell? ⟨gb102, 3, none⟩ = some (.slice A0_3 l0_3.length c0_3) := (blk_cell BK102.out 3).trans rfl
        have hcz7_4 : w3.cell? ⟨gb102, 4, none⟩ = some (.bool a0_4) := (blk_cell BK102.out 4).trans rfl
        have hcz7_5 : w3.cell? ⟨gb102, 5, none⟩ = some (.bool a0_5) := (blk_cell BK102.out 5).trans rfl
        have hcz7_6 : w3.cell? ⟨gb102, 6, none⟩ = some (.slice A0_6 l0_6.length c0_6) := (blk_cell BK102.out 6).trans rfl
        have hcz7_7 : w3.cell? ⟨gb102, 7, none⟩ = some (.bool a0_7) := (blk_cell BK102.out 7).trans rfl
        have hcz7_8 : w3.cell? ⟨gb102, 8, none⟩ = some (.slice A0_8 l0_8.length c0_8) := (blk_cell BK102.out 8).trans rfl
        have hcz7_9 : w3.cell? ⟨gb102, 9, none⟩ = some (.slice A0_9 l0_9.length c0_9) := (blk_cell BK102.out 9).trans rfl
        have hcz7_10 : w3.cell? ⟨gb102, 10, none⟩ = some (.slice A0_10 l0_10.length c0_10) := (blk_cell BK102.out 10).trans rfl
        have hfz7_0 := blk_frozen BK102.out 0
        have hfz7_1 := blk_frozen BK102.out 1
        have hfz7_2 := blk_frozen BK102.out 2
        have hfz7_3 := blk_frozen BK102.out 3
        have hfz7_4 := blk_frozen BK102.out 4
        have hfz7_5 := blk_frozen BK102.out 5
        have hfz7_6 := blk_frozen BK102.out 6
        have hfz7_7 := blk_frozen BK102.out 7
        have hfz7_8 := blk_frozen BK102.out 8
        have hfz7_9 := blk_frozen BK102.out 9
        have hfz7_10 := blk_frozen BK102.out 10
        go_wp2
        go_meet
        case rel => exact ⟨_, (true), (by first | rfl | (simp; done) | (simp [*]; done)), H', ⟨by first | omega | exact Nat.le_refl _⟩, ⟨by (with_reducible repeat (first | refine blk_drewN ?_ _ | refine blk_drew ?_ | refine blk_alloc ?_ _)); exact BK102.out⟩, ⟨by repeat (first | (with_reducible first | exact HB.out | apply below_alloc | apply pw_below_drewN | apply below_drew1 | refine below_set ?_ GE102.out) | exact HB.out)⟩⟩
      · rw [if_neg c6] at H
        have c6b0 : decide (300 < (a0_1.size : Int)) = false := decide_eq_false c6
        have c6b1 : decide (300 < a0_1.size) = false := decide_eq_false (by omega)
        clear c6
        by_cases c8 : (a0_2.size : Int) > 100
        · rw [if_pos c8] at H
          have c8b0 : decide (100 < (a0_2.size : Int)) = true := decide_eq_true c8
          have c8b1 : decide (100 < a0_2.size) = true := decide_eq_true (by omega)
          clear c8
          have H' := Aside0.mk H
          clear H
          have hcz9_0 : w3.cell? ⟨gb102, 0, none⟩ = some (.string a0_0) := (blk_cell BK102.out 0).trans rfl
          have hcz9_1 : w3.cell? ⟨gb102, 1, none⟩ = some (.string a0_1) := (blk_cell BK102.out 1).trans rfl
          have hcz9_2 : w3.cell? ⟨gb102, 2, none⟩ = some (.string a0_2) := (blk_cell BK102.out 2).trans rfl
          have hcz9_3 : w3.cell? ⟨gb102, 3, none⟩ = some (.slice A0_3 l0_3.length c0_3) := (blk_cell BK102.out 3).trans rfl
          have hcz9_4 : w3.cell? ⟨gb102, 4, none⟩ = some (.bool a0_4) := (blk_cell BK102.out 4).trans rfl
          have hcz9_5 : w3.cell? ⟨gb102, 5, none⟩ = some (.bool a0_5) := (blk_cell BK102.out 5).trans rfl
          have hcz9_6 : w3.cell? ⟨gb102, 6, none⟩ = some (.slice A0_6 l0_6.length c0_6) := (blk_cell BK102.out 6).trans rfl
          have hcz9_7 : w3.cell? ⟨gb102, 7, none⟩ = some (.bool a0_7) := (blk_cell BK102.out 7).trans rfl
          have hcz9_8 : w3.cell? ⟨gb102, 8, none⟩ = some (.slice A0_8 l0_8.length c0_8) := (blk_cell BK102.out 8).trans rfl
          have hcz9_9 : w3.cell? ⟨gb102, 9, none⟩ = some (.slice A0_9 l0_9.length c0_9) := (blk_cell BK102.out 9).trans rfl
          have hcz9_10 : w3.cell? ⟨gb102, 10, none⟩ = some (.slice A0_10 l0_10.length c0_10) := (blk_cell BK102.out 10).trans rfl
          have hfz9_0 := blk_frozen BK102.out 0
          have hfz9_1 := blk_frozen BK102.out 1
          have hfz9_2 := blk_frozen BK102.out 2
          have hfz9_3 := blk_frozen BK102.out 3
          have hfz9_4 := blk_frozen BK102.out 4
          have hfz9_5 := blk_frozen BK102.out 5
          have hfz9_6 := blk_frozen BK102.out 6
          have hfz9_7 := blk_frozen BK102.out 7
          have hfz9_8 := blk_frozen BK102.out 8
          have hfz9_9 := blk_frozen BK102.out 9
          have hfz9_10 := blk_frozen BK102.out 10
          go_wp2
          go_meet
          case rel => exact ⟨_, (true), (by first | rfl | (simp; done) | (simp [*]; done)), H', ⟨by first | omega | exact Nat.le_refl _⟩, ⟨by (with_reducible repeat (first | refine blk_drewN ?_ _ | refine blk_drew ?_ | refine blk_alloc ?_ _)); exact BK102.out⟩, ⟨by repeat (first | (with_reducible first | exact HB.out | apply below_alloc | apply pw_below_drewN | apply below_drew1 | refine below_set ?_ GE102.out) | exact HB.out)⟩⟩
        · rw [if_neg c8] at H
          have c8b0 : decide (100 < (a0_2.size : Int)) = false := decide_eq_false c8
          have c8b1 : decide (100 < a0_2.size) = false := decide_eq_false (by omega)
          clear c8
          by_cases c10 : (l0_3.length : Int) > 40
          · rw [if_pos c10] at H
            have c10b0 : decide (40 < (l0_3.length : Int)) = true := decide_eq_true c10
            have c10b1 : decide (40 < l0_3.length) = true := decide_eq_true (by omega)
            clear c10
            have H' := Aside0.mk H
            clear H
            have hcz11_0 : w3.cell? ⟨gb102, 0, none⟩ = some (.string a0_0) := (blk_cell BK102.out 0).trans rfl
            have hcz11_1 : w3.cell? ⟨gb102, 1, none⟩ = some (.string a0_1) := (blk_cell BK102.out 1).trans rfl
            have hcz11_2 : w3.cell? ⟨gb102, 2, none⟩ = some (.string a0_2) := (blk_cell BK102.out 2).trans rfl
            have hcz11_3 : w3.cell? ⟨gb102, 3, none⟩ = some (.slice A0_3 l0_3.length c0_3) := (blk_cell BK102.out 3).trans rfl
            have hcz11_4 : w3.cell? ⟨gb102, 4, none⟩ = some (.bool a0_4) := (blk_cell BK102.out 4).trans rfl
            have hcz11_5 : w3.cell? ⟨gb102, 5, none⟩ = some (.bool a0_5) := (blk_cell BK102.out 5).trans rfl
            have hcz11_6 : w3.cell? ⟨gb102, 6, none⟩ = some (.slice A0_6 l0_6.length c0_6) := (blk_cell BK102.out 6).trans rfl
            have hcz11_7 : w3.cell? ⟨gb102, 7, none⟩ = some (.bool a0_7) := (blk_cell BK102.out 7).trans rfl
            have hcz11_8 : w3.cell? ⟨gb102, 8, none⟩ = some (.slice A0_8 l0_8.length c0_8) := (blk_cell BK102.out 8).trans rfl
            have hcz11_9 : w3.cell? ⟨gb102, 9, none⟩ = some (.slice A0_9 l0_9.length c0_9) := (blk_cell BK102.out 9).trans rfl
            have hcz11_10 : w3.cell? ⟨gb102, 10, none⟩ = some (.slice A0_10 l0_10.length c0_10) := (blk_cell BK102.out 10).trans rfl
            have hfz11_0 := blk_frozen BK102.out 0
            have hfz11_1 := blk_frozen BK102.out 1
            have hfz11_2 := blk_frozen BK102.out 2
            have hfz11_3 := blk_frozen BK102.out 3
            have hfz11_4 := blk_frozen BK102.out 4
            have hfz11_5 := blk_frozen BK102.out 5
            have hfz11_6 := blk_frozen BK102.out 6
            have hfz11_7 := blk_frozen BK102.out 7
            have hfz11_8 := blk_frozen BK102.out 8
            have hfz11_9 := blk_frozen BK102.out 9
            have hfz11_10 := blk_frozen BK102.out 10
            go_wp2
            go_meet
            case rel => exact ⟨_, (true), (by first | rfl | (simp; done) | (simp [*]; done)), H', ⟨by first | omega | exact Nat.le_refl _⟩, ⟨by (with_reducible repeat (first | refine blk_drewN ?_ _ | refine blk_drew ?_ | refine blk_alloc ?_ _)); exact BK102.out⟩, ⟨by repeat (first | (with_reducible first | exact HB.out | apply below_alloc | apply pw_below_drewN | apply below_drew1 | refine below_set ?_ GE102.out) | exact HB.out)⟩⟩
          · rw [if_neg c10] at H
            have c10b0 : decide (40 < (l0_3.length : Int)) = false := decide_eq_false c10
            have c10b1 : decide (40 < l0_3.length) = false := decide_eq_false (by omega)
            clear c10
            by_cases c12 : (l0_6.length : Int) > 40
            · rw [if_pos c12] at H
              have c12b0 : decide (40 < (l0_6.length : Int)) = true := decide_eq_true c12
              have c12b1 : decide (40 < l0_6.length) = true := decide_eq_true (by omega)
              clear c12
              have H' := Aside0.mk H
              clear H
              have hcz13_0 : w3.cell? ⟨gb102, 0, none⟩ = some (.string a0_0) := (blk_cell BK102.out 0).trans rfl
              have hcz13_1 : w3.cell? ⟨gb102, 1, none⟩ = some (.string a0_1) := (blk_cell BK102.out 1).trans rfl
              have hcz13_2 : w3.cell? ⟨gb102, 2, none⟩ = some (.string a0_2) := (blk_cell BK102.out 2).trans rfl
              have hcz13_3 : w3.cell? ⟨gb102, 3, none⟩ = some (.slice A0_3 l0_3.length c0_3) := (blk_cell BK102.out 3).trans rfl
              have hcz13_4 : w3.cell? ⟨gb102, 4, none⟩ = some (.bool a0_4) := (blk_cell BK102.out 4).trans rfl
              have hcz13_5 : w3.cell? ⟨gb102, 5, none⟩ = some (.bool a0_5) := (blk_cell BK102.out 5).trans rfl
              have hcz13_6 : w3.cell? ⟨gb102, 6, none⟩ = some (.slice A0_6 l0_6.length c0_6) := (blk_cell BK102.out 6).trans rfl
              have hcz13_7 : w3.cell? ⟨gb102, 7, none⟩ = some (.bool a0_7) := (blk_cell BK102.out 7).trans rfl
              have hcz13_8 : w3.cell? ⟨gb102, 8, none⟩ = some (.slice A0_8 l0_8.length c0_8) := (blk_cell BK102.out 8).trans rfl
              have hcz13_9 : w3.cell? ⟨gb102, 9, none⟩ = some (.slice A0_9 l0_9.length c0_9) := (blk_cell BK102.out 9).trans rfl
              have hcz13_10 : w3.cell? ⟨gb102, 10, none⟩ = some (.slice A0_10 l0_10.length c0_10) := (blk_cell BK102.out 10).trans rfl
              have hfz13_0 := blk_frozen BK102.out 0
              have hfz13_1 := blk_frozen BK102.out 1
              have hfz13_2 := blk_frozen BK102.out 2
              have hfz13_3 := blk_frozen BK102.out 3
              have hfz13_4 := blk_frozen BK102.out 4
              have hfz13_5 := blk_frozen BK102.out 5
              have hfz13_6 := blk_frozen BK102.out 6
              have hfz13_7 := blk_frozen BK102.out 7
              have hfz13_8 := blk_frozen BK102.out 8
              have hfz13_9 := blk_frozen BK102.out 9
              have hfz13_10 := blk_frozen BK102.out 10
              go_wp2
              go_meet
              case rel => exact ⟨_, (true), (by first | rfl | (simp; done) | (simp [*]; done)), H', ⟨by first | omega | exact Nat.le_refl _⟩, ⟨by (with_reducible repeat (first | refine blk_drewN ?_ _ | refine blk_drew ?_ | refine blk_alloc ?_ _)); exact BK102.out⟩, ⟨by repeat (first | (with_reducible first | exact HB.out | apply below_alloc | apply pw_below_drewN | apply below_drew1 | refine below_set ?_ GE102.out) | exact HB.out)⟩⟩
            · rw [if_neg c12] at H
              have c12b0 : decide (40 < (l0_6.length : Int)) = false := decide_eq_false c12
              have c12b1 : decide (40 < l0_6.length) = false := decide_eq_false (by omega)
              clear c12
              replace H := Option.bind_eq_some_iff.mp H
              obtain ⟨t103, A140, H⟩ := H
              replace H : (if t103 = true then ((fleuronalike_Pairs.f k l0_9).bind fun t104 => (if t104 = true then ((fleuronalike_Pairs.f k l0_10).bind fun t105 => (fleuronalike_Style.j0 k (!t105) a0_0 a0_1 a0_2 l0_3 a0_4 a0_5 l0_6 a0_7 l0_8 l0_9 l0_10)) else (fleuronalike_Style.j0 k true a0_0 a0_1 a0_2 l0_3 a0_4 a0_5 l0_6 a0_7 l0_8 l0_9 l0_10))) else (fleuronalike_Style.j0 k true a0_0 a0_1 a0_2 l0_3 a0_4 a0_5 l0_6 a0_7 l0_8 l0_9 l0_10)) = some r := H
              have A14 := Aside0.mk A140
              clear A140
              by_cases c15 : t103 = true
              · subst c15
                have H1 : ((fleuronalike_Pairs.f k l0_9).bind fun t104 => (if t104 = true then ((fleuronalike_Pairs.f k l0_10).bind fun t105 => (fleuronalike_Style.j0 k (!t105) a0_0 a0_1 a0_2 l0_3 a0_4 a0_5 l0_6 a0_7 l0_8 l0_9 l0_10)) else (fleuronalike_Style.j0 k true a0_0 a0_1 a0_2 l0_3 a0_4 a0_5 l0_6 a0_7 l0_8 l0_9 l0_10))) = some r := by rw [if_pos rfl] at H; exact H
                clear H
                have H := H1
                clear H1
                replace H := Option.bind_eq_some_iff.mp H
                obtain ⟨t104, A160, H⟩ := H
                replace H : (if t104 = true then ((fleuronalike_Pairs.f k l0_10).bind fun t105 => (fleuronalike_Style.j0 k (!t105) a0_0 a0_1 a0_2 l0_3 a0_4 a0_5 l0_6 a0_7 l0_8 l0_9 l0_10)) else (fleuronalike_Style.j0 k true a0_0 a0_1 a0_2 l0_3 a0_4 a0_5 l0_6 a0_7 l0_8 l0_9 l0_10)) = some r := H
                have A16 := Aside0.mk A160
                clear A160
                by_cases c17 : t104 = true
                · subst c17
                  have H1 : ((fleuronalike_Pairs.f k l0_10).bind fun t105 => (fleuronalike_Style.j0 k (!t105) a0_0 a0_1 a0_2 l0_3 a0_4 a0_5 l0_6 a0_7 l0_8 l0_9 l0_10)) = some r := by rw [if_pos rfl] at H; exact H
                  clear H
                  have H := H1
                  clear H1
                  replace H := Option.bind_eq_some_iff.mp H
                  obtain ⟨t105, A180, H⟩ := H
                  replace H : (fleuronalike_Style.j0 k (!t105) a0_0 a0_1 a0_2 l0_3 a0_4 a0_5 l0_6 a0_7 l0_8 l0_9 l0_10) = some r := H
                  have A18 := Aside0.mk A180
                  clear A180
                  have H' := Aside0.mk H
                  clear H
                  have hcz19_0 : w3.cell? ⟨gb102, 0, none⟩ = some (.string a0_0) := (blk_cell BK102.out 0).trans rfl
                  have hcz19_1 : w3.cell? ⟨gb102, 1, none⟩ = some (.string a0_1) := (blk_cell BK102.out 1).trans rfl
                  have hcz19_2 : w3.cell? ⟨gb102, 2, none⟩ = some (.string a0_2) := (blk_cell BK102.out 2).trans rfl
                  have hcz19_3 : w3.cell? ⟨gb102, 3, none⟩ = some (.slice A0_3 l0_3.length c0_3) := (blk_cell BK102.out 3).trans rfl
                  have hcz19_4 : w3.cell? ⟨gb102, 4, none⟩ = some (.bool a0_4) := (blk_cell BK102.out 4).trans rfl
                  have hcz19_5 : w3.cell? ⟨gb102, 5, none⟩ = some (.bool a0_5) := (blk_cell BK102.out 5).trans rfl
                  have hcz19_6 : w3.cell? ⟨gb102, 6, none⟩ = some (.slice A0_6 l0_6.length c0_6) := (blk_cell BK102.out 6).trans rfl
                  have hcz19_7 : w3.cell? ⟨gb102, 7, none⟩ = some (.bool a0_7) := (blk_cell BK102.out 7).trans rfl
                  have hcz19_8 : w3.cell? ⟨gb102, 8, none⟩ = some (.slice A0_8 l0_8.length c0_8) := (blk_cell BK102.out 8).trans rfl
                  have hcz19_9 : w3.cell? ⟨gb102, 9, none⟩ = some (.slice A0_9 l0_9.length c0_9) := (blk_cell BK102.out 9).trans rfl
                  have hcz19_10 : w3.cell? ⟨gb102, 10, none⟩ = some (.slice A0_10 l0_10.length c0_10) := (blk_cell BK102.out 10).trans rfl
                  have hfz19_0 := blk_frozen BK102.out 0
                  have hfz19_1 := blk_frozen BK102.out 1
                  have hfz19_2 := blk_frozen BK102.out 2
                  have hfz19_3 := blk_frozen BK102.out 3
                  have hfz19_4 := blk_frozen BK102.out 4
                  have hfz19_5 := blk_frozen BK102.out 5
                  have hfz19_6 := blk_frozen BK102.out 6
                  have hfz19_7 := blk_frozen BK102.out 7
                  have hfz19_8 := blk_frozen BK102.out 8
                  have hfz19_9 := blk_frozen BK102.out 9
                  have hfz19_10 := blk_frozen BK102.out 10
                  go_wp2_with (first | (go_at_call 16; (with_reducible refine (fleuronalike_Pairs.calls k _ _ l0_8 true _ ?side1 ?side2 A14.out).mono ?_); (case side1 => repeat (first | exact (Kd.C_below HR0_8.out HB.out) | (with_reducible refine Kd.C_alloc ?_ _) | (with_reducible refine Kd.C_drewN ?_ _) | (with_reducible refine Kd.C_drew ?_))); (case side2 => exact HC0_8.out); rintro e w' ⟨rfl, ⟨nd, rfl⟩⟩) | (go_at_call 16; (with_reducible refine (fleuronalike_Pairs.calls k _ _ l0_9 true _ ?side1 ?side2 A16.out).mono ?_); (case side1 => repeat (first | exact (Kd.C_below HR0_9.out (by repeat (first | (with_reducible first | exact HB.out | apply below_alloc | apply pw_below_drewN | apply below_drew1 | refine below_set ?_ GE102.out) | exact HB.out))) | (with_reducible refine Kd.C_alloc ?_ _) | (with_reducible refine Kd.C_drewN ?_ _) | (with_reducible refine Kd.C_drew ?_))); (case side2 => exact HC0_9.out); rintro e w' ⟨rfl, ⟨nd, rfl⟩⟩) | (go_at_call 16; (with_reducible refine (fleuronalike_Pairs.calls k _ _ l0_10 t105 _ ?side1 ?side2 A18.out).mono ?_); (case side1 => repeat (first | exact (Kd.C_below HR0_10.out (by repeat (first | (with_reducible first | exact HB.out | apply below_alloc | apply pw_below_drewN | apply below_drew1 | refine below_set ?_ GE102.out) | exact HB.out))) | (with_reducible refine Kd.C_alloc ?_ _) | (with_reducible refine Kd.C_drewN ?_ _) | (with_reducible refine Kd.C_drew ?_))); (case side2 => exact HC0_10.out); rintro e w' ⟨rfl, ⟨nd, rfl⟩⟩))
                  go_meet
                  case rel => exact ⟨_, (!t105), (by first | rfl | (simp; done) | (simp [*]; done)), H', ⟨by first | omega | exact Nat.le_refl _⟩, ⟨by (with_reducible repeat (first | refine blk_drewN ?_ _ | refine blk_drew ?_ | refine blk_alloc ?_ _)); exact BK102.out⟩, ⟨by repeat (first | (with_reducible first | exact HB.out | apply below_alloc | apply pw_below_drewN | apply below_drew1 | refine below_set ?_ GE102.out) | exact HB.out)⟩⟩
                · replace c17 := Bool.eq_false_iff.mpr c17
                  subst c17
                  have H1 : (fleuronalike_Style.j0 k true a0_0 a0_1 a0_2 l0_3 a0_4 a0_5 l0_6 a0_7 l0_8 l0_9 l0_10) = some r := by rw [if_neg (show ¬ (false = true) by decide)] at H; exact H
                  clear H
                  have H := H1
                  clear H1
                  have H' := Aside0.mk H
                  clear H
                  have hcz20_0 : w3.cell? ⟨gb102, 0, none⟩ = some (.string a0_0) := (blk_cell BK102.out 0).trans rfl
                  have hcz20_1 : w3.cell? ⟨gb102, 1, none⟩ = some (.string a0_1) := (blk_cell BK102.out 1).trans rfl
                  have hcz20_2 : w3.cell? ⟨gb102, 2, none⟩ = some (.string a0_2) := (blk_cell BK102.out 2).trans rfl
                  have hcz20_3 : w3.cell? ⟨gb102, 3, none⟩ = some (.slice A0_3 l0_3.length c0_3) := (blk_cell BK102.out 3).trans rfl
                  have hcz20_4 : w3.cell? ⟨gb102, 4, none⟩ = some (.bool a0_4) := (blk_cell BK102.out 4).trans rfl
                  have hcz20_5 : w3.cell? ⟨gb102, 5, none⟩ = some (.bool a0_5) := (blk_cell BK102.out 5).trans rfl
                  have hcz20_6 : w3.cell? ⟨gb102, 6, none⟩ = some (.slice A0_6 l0_6.length c0_6) := (blk_cell BK102.out 6).trans rfl
                  have hcz20_7 : w3.cell? ⟨gb102, 7, none⟩ = some (.bool a0_7) := (blk_cell BK102.out 7).trans rfl
                  have hcz20_8 : w3.cell? ⟨gb102, 8, none⟩ = some (.slice A0_8 l0_8.length c0_8) := (blk_cell BK102.out 8).trans rfl
                  have hcz20_9 : w3.cell? ⟨gb102, 9, none⟩ = some (.slice A0_9 l0_9.length c0_9) := (blk_cell BK102.out 9).trans rfl
                  have hcz20_10 : w3.cell? ⟨gb102, 10, none⟩ = some (.slice A0_10 l0_10.length c0_10) := (blk_cell BK102.out 10).trans rfl
                  have hfz20_0 := blk_frozen BK102.out 0
                  have hfz20_1 := blk_frozen BK102.out 1
                  have hfz20_2 := blk_frozen BK102.out 2
                  have hfz20_3 := blk_frozen BK102.out 3
                  have hfz20_4 := blk_frozen BK102.out 4
                  have hfz20_5 := blk_frozen BK102.out 5
                  have hfz20_6 := blk_frozen BK102.out 6
                  have hfz20_7 := blk_frozen BK102.out 7
                  have hfz20_8 := blk_frozen BK102.out 8
                  have hfz20_9 := blk_frozen BK102.out 9
                  have hfz20_10 := blk_frozen BK102.out 10
                  go_wp2_with (first | (go_at_call 16; (with_reducible refine (fleuronalike_Pairs.calls k _ _ l0_8 true _ ?side1 ?side2 A14.out).mono ?_); (case side1 => repeat (first | exact (Kd.C_below HR0_8.out HB.out) | (with_reducible refine Kd.C_alloc ?_ _) | (with_reducible refine Kd.C_drewN ?_ _) | (with_reducible refine Kd.C_drew ?_))); (case side2 => exact HC0_8.out); rintro e w' ⟨rfl, ⟨nd, rfl⟩⟩) | (go_at_call 16; (with_reducible refine (fleuronalike_Pairs.calls k _ _ l0_9 false _ ?side1 ?side2 A16.out).mono ?_); (case side1 => repeat (first | exact (Kd.C_below HR0_9.out (by repeat (first | (with_reducible first | exact HB.out | apply below_alloc | apply pw_below_drewN | apply below_drew1 | refine below_set ?_ GE102.out) | exact HB.out))) | (with_reducible refine Kd.C_alloc ?_ _) | (with_reducible refine Kd.C_drewN ?_ _) | (with_reducible refine Kd.C_drew ?_))); (case side2 => exact HC0_9.out); rintro e w' ⟨rfl, ⟨nd, rfl⟩⟩))
                  go_meet
                  case rel => exact ⟨_, (true), (by first | rfl | (simp; done) | (simp [*]; done)), H', ⟨by first | omega | exact Nat.le_refl _⟩, ⟨by (with_reducible repeat (first | refine blk_drewN ?_ _ | refine blk_drew ?_ | refine blk_alloc ?_ _)); exact BK102.out⟩, ⟨by repeat (first | (with_reducible first | exact HB.out | apply below_alloc | apply pw_below_drewN | apply below_drew1 | refine below_set ?_ GE102.out) | exact HB.out)⟩⟩
              · replace c15 := Bool.eq_false_iff.mpr c15
                subst c15
                have H1 : (fleuronalike_Style.j0 k true a0_0 a0_1 a0_2 l0_3 a0_4 a0_5 l0_6 a0_7 l0_8 l0_9 l0_10) = some r := by rw [if_neg (show ¬ (false = true) by decide)] at H; exact H
                clear H
                have H := H1
                clear H1
                have H' := Aside0.mk H
                clear H
                have hcz21_0 : w3.cell? ⟨gb102, 0, none⟩ = some (.string a0_0) := (blk_cell BK102.out 0).trans rfl
                have hcz21_1 : w3.cell? ⟨gb102, 1, none⟩ = some (.string a0_1) := (blk_cell BK102.out 1).trans rfl
                have hcz21_2 : w3.cell? ⟨gb102, 2, none⟩ = some (.string a0_2) := (blk_cell BK102.out 2).trans rfl
                have hcz21_3 : w3.cell? ⟨gb102, 3, none⟩ = some (.slice A0_3 l0_3.length c0_3) := (blk_cell BK102.out 3).trans rfl
                have hcz21_4 : w3.cell? ⟨gb102, 4, none⟩ = some (.bool a0_4) := (blk_cell BK102.out 4).trans rfl
                have hcz21_5 : w3.cell? ⟨gb102, 5, none⟩ = some (.bool a0_5) := (blk_cell BK102.out 5).trans rfl
                have hcz21_6 : w3.cell? ⟨gb102, 6, none⟩ = some (.slice A0_6 l0_6.length c0_6) := (blk_cell BK102.out 6).trans rfl
                have hcz21_7 : w3.cell? ⟨gb102, 7, none⟩ = some (.bool a0_7) := (blk_cell BK102.out 7).trans rfl
                have hcz21_8 : w3.cell? ⟨gb102, 8, none⟩ = some (.slice A0_8 l0_8.length c0_8) := (blk_cell BK102.out 8).trans rfl
                have hcz21_9 : w3.cell? ⟨gb102, 9, none⟩ = some (.slice A0_9 l0_9.length c0_9) := (blk_cell BK102.out 9).trans rfl
                have hcz21_10 : w3.cell? ⟨gb102, 10, none⟩ = some (.slice A0_10 l0_10.length c0_10) := (blk_cell BK102.out 10).trans rfl
                have hfz21_0 := blk_frozen BK102.out 0
                have hfz21_1 := blk_frozen BK102.out 1
                have hfz21_2 := blk_frozen BK102.out 2
                have hfz21_3 := blk_frozen BK102.out 3
                have hfz21_4 := blk_frozen BK102.out 4
                have hfz21_5 := blk_frozen BK102.out 5
                have hfz21_6 := blk_frozen BK102.out 6
                have hfz21_7 := blk_frozen BK102.out 7
                have hfz21_8 := blk_frozen BK102.out 8
                have hfz21_9 := blk_frozen BK102.out 9
                have hfz21_10 := blk_frozen BK102.out 10
                go_wp2_with (first | (go_at_call 16; (with_reducible refine (fleuronalike_Pairs.calls k _ _ l0_8 false _ ?side1 ?side2 A14.out).mono ?_); (case side1 => repeat (first | exact (Kd.C_below HR0_8.out HB.out) | (with_reducible refine Kd.C_alloc ?_ _) | (with_reducible refine Kd.C_drewN ?_ _) | (with_reducible refine Kd.C_drew ?_))); (case side2 => exact HC0_8.out); rintro e w' ⟨rfl, ⟨nd, rfl⟩⟩))
                go_meet
                case rel => exact ⟨_, (true), (by first | rfl | (simp; done) | (simp [*]; done)), H', ⟨by first | omega | exact Nat.le_refl _⟩, ⟨by (with_reducible repeat (first | refine blk_drewN ?_ _ | refine blk_drew ?_ | refine blk_alloc ?_ _)); exact BK102.out⟩, ⟨by repeat (first | (with_reducible first | exact HB.out | apply below_alloc | apply pw_below_drewN | apply below_drew1 | refine below_set ?_ GE102.out) | exact HB.out)⟩⟩
  case rest =>
    clear HC2
    try clear c1
    try clear p2
    try clear c4
    try clear c4b0
    try clear c4b1
    try clear c6
    try clear c6b0
    try clear c6b1
    try clear c7
    try clear c8
    try clear c8b0
    try clear c8b1
    try clear c10
    try clear c10b0
    try clear c10b1
    try clear c12
    try clear c12b0
    try clear c12b1
    try clear c15
    try clear c17
    try clear hcz11_0
    try clear hcz11_1
    try clear hcz11_10
    try clear hcz11_2
    try clear hcz11_3
    try clear hcz11_4
    try clear hcz11_5
    try clear hcz11_6
    try clear hcz11_7
    try clear hcz11_8
    try clear hcz11_9
    try clear hcz13_0
    try clear hcz13_1
    try clear hcz13_10
    try clear hcz13_2
    try clear hcz13_3
    try clear hcz13_4
    try clear hcz13_5
    try clear hcz13_6
    try clear hcz13_7
    try clear hcz13_8
    try clear hcz13_9
    try clear hcz19_0
    try clear hcz19_1
    try clear hcz19_10
    try clear hcz19_2
    try clear hcz19_3
    try clear hcz19_4
    try clear hcz19_5
    try clear hcz19_6
    try clear hcz19_7
    try clear hcz19_8
    try clear hcz19_9
    try clear hcz20_0
    try clear hcz20_1
    try clear hcz20_10
    try clear hcz20_2
    try clear hcz20_3
    try clear hcz20_4
    try clear hcz20_5
    try clear hcz20_6
    try clear hcz20_7
    try clear hcz20_8
    try clear hcz20_9
    try clear hcz21_0
    try clear hcz21_1
    try clear hcz21_10
    try clear hcz21_2
    try clear hcz21_3
    try clear hcz21_4
    try clear hcz21_5
    try clear hcz21_6
    try clear hcz21_7
    try clear hcz21_8
    try clear hcz21_9
    try clear hcz5_0
    try clear hcz5_1
    try clear hcz5_10
    try clear hcz5_2
    try clear hcz5_3
    try clear hcz5_4
    try clear hcz5_5
    try clear hcz5_6
    try clear hcz5_7
    try clear hcz5_8
    try clear hcz5_9
    try clear hcz7_0
    try clear hcz7_1
    try clear hcz7_10
    try clear hcz7_2
    try clear hcz7_3
    try clear hcz7_4
    try clear hcz7_5
    try clear hcz7_6
    try clear hcz7_7
    try clear hcz7_8
    try clear hcz7_9
    try clear hcz9_0
    try clear hcz9_1
    try clear hcz9_10
    try clear hcz9_2
    try clear hcz9_3
    try clear hcz9_4
    try clear hcz9_5
    try clear hcz9_6
    try clear hcz9_7
    try clear hcz9_8
    try clear hcz9_9
    try clear hfz11_0
    try clear hfz11_1
    try clear hfz11_10
    try clear hfz11_2
    try clear hfz11_3
    try clear hfz11_4
    try clear hfz11_5
    try clear hfz11_6
    try clear hfz11_7
    try clear hfz11_8
    try clear hfz11_9
    try clear hfz13_0
    try clear hfz13_1
    try clear hfz13_10
    try clear hfz13_2
    try clear hfz13_3
    try clear hfz13_4
    try clear hfz13_5
    try clear hfz13_6
    try clear hfz13_7
    try clear hfz13_8
    try clear hfz13_9
    try clear hfz19_0
    try clear hfz19_1
    try clear hfz19_10
    try clear hfz19_2
    try clear hfz19_3
    try clear hfz19_4
    try clear hfz19_5
    try clear hfz19_6
    try clear hfz19_7
    try clear hfz19_8
    try clear hfz19_9
    try clear hfz20_0
    try clear hfz20_1
    try clear hfz20_10
    try clear hfz20_2
    try clear hfz20_3
    try clear hfz20_4
    try clear hfz20_5
    try clear hfz20_6
    try clear hfz20_7
    try clear hfz20_8
    try clear hfz20_9
    try clear hfz21_0
    try clear hfz21_1
    try clear hfz21_10
    try clear hfz21_2
    try clear hfz21_3
    try clear hfz21_4
    try clear hfz21_5
    try clear hfz21_6
    try clear hfz21_7
    try clear hfz21_8
    try clear hfz21_9
    try clear hfz5_0
    try clear hfz5_1
    try clear hfz5_10
    try clear hfz5_2
    try clear hfz5_3
    try clear hfz5_4
    try clear hfz5_5
    try clear hfz5_6
    try clear hfz5_7
    try clear hfz5_8
    try clear hfz5_9
    try clear hfz7_0
    try clear hfz7_1
    try clear hfz7_10
    try clear hfz7_2
    try clear hfz7_3
    try clear hfz7_4
    try clear hfz7_5
    try clear hfz7_6
    try clear hfz7_7
    try clear hfz7_8
    try clear hfz7_9
    try clear hfz9_0
    try clear hfz9_1
    try clear hfz9_10
    try clear hfz9_2
    try clear hfz9_3
    try clear hfz9_4
    try clear hfz9_5
    try clear hfz9_6
    try clear hfz9_7
    try clear hfz9_8
    try clear hfz9_9
    obtain ⟨kq, x50_1, rfl, HA, HJ1, BK102, HB⟩ := hcut
    cases kq with
    | zero => exact absurd HA.out (by simp [fleuronalike_Style.j0])
    | succ kj1 =>
      have H := HA.out
      clear HA
      simp only [fleuronalike_Style.j0] at H
      by_cases c22 : x50_1 = true
      · subst c22
        have H1 : (some false) = some r := by rw [if_pos rfl] at H; exact H
        clear H
        have H := H1
        clear H1
        obtain rfl := Option.some.inj H
        go_wp2
        go_ret
        exact ⟨by first | rfl | (simp [errW_none, errW_some] <;> rfl) | (simp [*, errW_none, errW_some] <;> rfl), by repeat (first | (with_reducible first | exact HB.out | apply below_alloc | apply pw_below_drewN | apply below_drew1 | refine below_set ?_ GE102.out) | exact HB.out)⟩
      · replace c22 := Bool.eq_false_iff.mpr c22
        subst c22
        have H1 : (fleuronalike_Style.l0 kj1 0 a0_0 a0_1 a0_2 l0_3 a0_4 a0_5 l0_6 a0_7 l0_8 l0_9 l0_10) = some r := by rw [if_neg (show ¬ (false = true) by decide)] at H; exact H
        clear H
        have H := H1
        clear H1
        have H' := Aside0.mk H
        clear H
        go_wp2
        go_loopg [3] kj1 (fun kq v3 w' => ∃ (x3_2 : Int), v3 = .int .i64 x3_2 ∧ Aside0 (fleuronalike_Style.l0 kq x3_2 a0_0 a0_1 a0_2 l0_3 a0_4 a0_5 l0_6 a0_7 l0_8 l0_9 l0_10 = some r) ∧ Aside0 (kq ≤ kj1) ∧ Aside0 (w'.heap[gb102]? = some (.cells #[.string a0_0, .string a0_1, .string a0_2, (.slice A0_3 l0_3.length c0_3), .bool a0_4, .bool a0_5, (.slice A0_6 l0_6.length c0_6), .bool a0_7, (.slice A0_8 l0_8.length c0_8), (.slice A0_9 l0_9.length c0_9), (.slice A0_10 l0_10.length c0_10)] 26 (0, 0))) ∧ Aside0 (Below w.heap.size w w'))
        case atStart => exact ⟨(0), (by first | rfl | (simp; done) | (simp [*]; done)), H', ⟨Nat.le_refl _⟩, ⟨by (with_reducible repeat (first | refine blk_drewN ?_ _ | refine blk_drew ?_ | refine blk_alloc ?_ _)); exact BK102.out⟩, ⟨by repeat (first | (with_reducible first | exact HB.out | apply below_alloc | apply pw_below_drewN | apply below_drew1 | refine below_set ?_ GE102.out) | exact HB.out)⟩⟩
        case round =>
          clear H'
          try clear c1
          try clear c2
          try clear p2
          try clear c4
          try clear c4b0
          try clear c4b1
          try clear c6
          try clear c6b0
          try clear c6b1
          try clear c7
          try clear c8
          try clear c8b0
          try clear c8b1
          try clear c10
          try clear c10b0
          try clear c10b1
          try clear c12
          try clear c12b0
          try clear c12b1
          try clear c15
          try clear c17
          try clear c22
          try clear hcz11_0
          try clear hcz11_1
          try clear hcz11_10
          try clear hcz11_2
          try clear hcz11_3
          try clear hcz11_4
          try clear hcz11_5
          try clear hcz11_6
          try clear hcz11_7
          try clear hcz11_8
          try clear hcz11_9
          try clear hcz13_0
          try clear hcz13_1
          try clear hcz13_10
          try clear hcz13_2
          try clear hcz13_3
          try clear hcz13_4
          try clear hcz13_5
          try clear hcz13_6
          try clear hcz13_7
          try clear hcz13_8
          try clear hcz13_9
          try clear hcz19_0
          try clear hcz19_1
          try clear hcz19_10
          try clear hcz19_2
          try clear hcz19_3
          try clear hcz19_4
          try clear hcz19_5
          try clear hcz19_6
          try clear hcz19_7
          try clear hcz19_8
          try clear hcz19_9
          try clear hcz20_0
          try clear hcz20_1
          try clear hcz20_10
          try clear hcz20_2
          try clear hcz20_3
          try clear hcz20_4
          try clear hcz20_5
          try clear hcz20_6
          try clear hcz20_7
          try clear hcz20_8
          try clear hcz20_9
          try clear hcz21_0
          try clear hcz21_1
          try clear hcz21_10
          try clear hcz21_2
          try clear hcz21_3
          try clear hcz21_4
          try clear hcz21_5
          try clear hcz21_6
          try clear hcz21_7
          try clear hcz21_8
          try clear hcz21_9
          try clear hcz5_0
          try clear hcz5_1
          try clear hcz5_10
          try clear hcz5_2
          try clear hcz5_3
          try clear hcz5_4
          try clear hcz5_5
          try clear hcz5_6
          try clear hcz5_7
          try clear hcz5_8
          try clear hcz5_9
          try clear hcz7_0
          try clear hcz7_1
          try clear hcz7_10
          try clear hcz7_2
          try clear hcz7_3
          try clear hcz7_4
          try clear hcz7_5
          try clear hcz7_6
          try clear hcz7_7
          try clear hcz7_8
          try clear hcz7_9
          try clear hcz9_0
          try clear hcz9_1
          try clear hcz9_10
          try clear hcz9_2
          try clear hcz9_3
          try clear hcz9_4
          try clear hcz9_5
          try clear hcz9_6
          try clear hcz9_7
          try clear hcz9_8
          try clear hcz9_9
          try clear hfz11_0
          try clear hfz11_1
          try clear hfz11_10
          try clear hfz11_2
          try clear hfz11_3
          try clear hfz11_4
          try clear hfz11_5
          try clear hfz11_6
          try clear hfz11_7
          try clear hfz11_8
          try clear hfz11_9
          try clear hfz13_0
          try clear hfz13_1
          try clear hfz13_10
          try clear hfz13_2
          try clear hfz13_3
          try clear hfz13_4
          try clear hfz13_5
          try clear hfz13_6
          try clear hfz13_7
          try clear hfz13_8
          try clear hfz13_9
          try clear hfz19_0
          try clear hfz19_1
          try clear hfz19_10
          try clear hfz19_2
          try clear hfz19_3
          try clear hfz19_4
          try clear hfz19_5
          try clear hfz19_6
          try clear hfz19_7
          try clear hfz19_8
          try clear hfz19_9
          try clear hfz20_0
          try clear hfz20_1
          try clear hfz20_10
          try clear hfz20_2
          try clear hfz20_3
          try clear hfz20_4
          try clear hfz20_5
          try clear hfz20_6
          try clear hfz20_7
          try clear hfz20_8
          try clear hfz20_9
          try clear hfz21_0
          try clear hfz21_1
          try clear hfz21_10
          try clear hfz21_2
          try clear hfz21_3
          try clear hfz21_4
          try clear hfz21_5
          try clear hfz21_6
          try clear hfz21_7
          try clear hfz21_8
          try clear hfz21_9
          try clear hfz5_0
          try clear hfz5_1
          try clear hfz5_10
          try clear hfz5_2
          try clear hfz5_3
          try clear hfz5_4
          try clear hfz5_5
          try clear hfz5_6
          try clear hfz5_7
          try clear hfz5_8
          try clear hfz5_9
          try clear hfz7_0
          try clear hfz7_1
          try clear hfz7_10
          try clear hfz7_2
          try clear hfz7_3
          try clear hfz7_4
          try clear hfz7_5
          try clear hfz7_6
          try clear hfz7_7
          try clear hfz7_8
          try clear hfz7_9
          try clear hfz9_0
          try clear hfz9_1
          try clear hfz9_10
          try clear hfz9_2
          try clear hfz9_3
          try clear hfz9_4
          try clear hfz9_5
          try clear hfz9_6
          try clear hfz9_7
          try clear hfz9_8
          try clear hfz9_9
          try clear p2
          obtain ⟨x3_2, rfl, HA, HK2, BK102, HB⟩ := hrel
          cases gk with
          | zero => exact absurd HA.out (by simp [fleuronalike_Style.l0])
          | succ k2 =>
            have H := HA.out
            clear HA
            simp only [fleuronalike_Style.l0] at H
            by_cases c23 : x3_2 < (l0_3.length : Int)
            · rw [if_pos c23] at H
              have c23b0 : decide (x3_2 < (l0_3.length : Int)) = true := decide_eq_true c23
              clear c23
              by_cases c24 : 0 ≤ x3_2
              · rw [if_pos c24] at H
                have c24b0 : decide (0 ≤ x3_2) = true := decide_eq_true c24
                clear c24
                by_cases c25 : (((rd_T43 l0_3 x3_2).f1).size : Int) > 300
                · rw [if_pos c25] at H
                  have c25b0 : decide (300 < (((rd_T43 l0_3 x3_2).f1).size : Int)) = true := decide_eq_true c25
                  have c25b1 : decide (300 < ((rd_T43 l0_3 x3_2).f1).size) = true := decide_eq_true (by omega)
                  clear c25
                  obtain rfl := Option.some.inj H
                  have hcz26_0 : wr.cell? ⟨gb102, 0, none⟩ = some (.string a0_0) := (blk_cell BK102.out 0).trans rfl
                  have hcz26_1 : wr.cell? ⟨gb102, 1, none⟩ = some (.string a0_1) := (blk_cell BK102.out 1).trans rfl
                  have hcz26_2 : wr.cell? ⟨gb102, 2, none⟩ = some (.string a0_2) := (blk_cell BK102.out 2).trans rfl
                  have hcz26_3 : wr.cell? ⟨gb102, 3, none⟩ = some (.slice A0_3 l0_3.length c0_3) := (blk_cell BK102.out 3).trans rfl
                  have hcz26_4 : wr.cell? ⟨gb102, 4, none⟩ = some (.bool a0_4) := (blk_cell BK102.out 4).trans rfl
                  have hcz26_5 : wr.cell? ⟨gb102, 5, none⟩ = some (.bool a0_5) := (blk_cell BK102.out 5).trans rfl
                  have hcz26_6 : wr.cell? ⟨gb102, 6, none⟩ = some (.slice A0_6 l0_6.length c0_6) := (blk_cell BK102.out 6).trans rfl
                  have hcz26_7 : wr.cell? ⟨gb102, 7, none⟩ = some (.bool a0_7) := (blk_cell BK102.out 7).trans rfl
                  have hcz26_8 : wr.cell? ⟨gb102, 8, none⟩ = some (.slice A0_8 l0_8.length c0_8) := (blk_cell BK102.out 8).trans rfl
                  have hcz26_9 : wr.cell? ⟨gb102, 9, none⟩ = some (.slice A0_9 l0_9.length c0_9) := (blk_cell BK102.out 9).trans rfl
                  have hcz26_10 : wr.cell? ⟨gb102, 10, none⟩ = some (.slice A0_10 l0_10.length c0_10) := (blk_cell BK102.out 10).trans rfl
                  have hfz26_0 := blk_frozen BK102.out 0
                  have hfz26_1 := blk_frozen BK102.out 1
                  have hfz26_2 := blk_frozen BK102.out 2
                  have hfz26_3 := blk_frozen BK102.out 3
                  have hfz26_4 := blk_frozen BK102.out 4
                  have hfz26_5 := blk_frozen BK102.out 5
                  have hfz26_6 := blk_frozen BK102.out 6
                  have hfz26_7 := blk_frozen BK102.out 7
                  have hfz26_8 := blk_frozen BK102.out 8
                  have hfz26_9 := blk_frozen BK102.out 9
                  have hfz26_10 := blk_frozen BK102.out 10
                  have p106 : 0 ≤ (x3_2 : Int) := of_decide_eq_true (by first | (with_reducible assumption) | assumption)
                  have q106 : x3_2 < (l0_3.length : Int) := of_decide_eq_true (by first | (with_reducible assumption) | assumption)
                  obtain ⟨ad106, e106, hx106_0, hx106_1, hx106_2, hx106_3⟩ := at_T43 HR0_3.out x3_2 p106 q106
                  cases e106
                  replace hx106_0 := (HB.out.cell (World.block_lt_of_cell? w _ hx106_0)).trans hx106_0
                  replace hx106_1 := (HB.out.cell (World.block_lt_of_cell? w _ hx106_1)).trans hx106_1
                  replace hx106_2 := (HB.out.cell (World.block_lt_of_cell? w _ hx106_2)).trans hx106_2
                  replace hx106_3 := (HB.out.cell (World.block_lt_of_cell? w _ hx106_3)).trans hx106_3
                  replace p106 := eq_true p106
                  replace q106 := eq_true q106
                  go_wp2
                  go_ret
                  exact ⟨by first | rfl | (simp [errW_none, errW_some] <;> rfl) | (simp [*, errW_none, errW_some] <;> rfl), by repeat (first | (with_reducible first | exact HB.out | apply below_alloc | apply pw_below_drewN | apply below_drew1 | refine below_set ?_ GE102.out) | exact HB.out)⟩
                · rw [if_neg c25] at H
                  have c25b0 : decide (300 < (((rd_T43 l0_3 x3_2).f1).size : Int)) = false := decide_eq_false c25
                  have c25b1 : decide (300 < ((rd_T43 l0_3 x3_2).f1).size) = false := decide_eq_false (by omega)
                  clear c25
                  by_cases c27 : (((rd_T43 l0_3 x3_2).f2).size : Int) > 300
                  · rw [if_pos c27] at H
                    have c27b0 : decide (300 < (((rd_T43 l0_3 x3_2).f2).size : Int)) = true := decide_eq_true c27
                    have c27b1 : decide (300 < ((rd_T43 l0_3 x3_2).f2).size) = true := decide_eq_true (by omega)
                    clear c27
                    obtain rfl := Option.some.inj H
                    have hcz28_0 : wr.cell? ⟨gb102, 0, none⟩ = some (.string a0_0) := (blk_cell BK102.out 0).trans rfl
                    have hcz28_1 : wr.cell? ⟨gb102, 1, none⟩ = some (.string a0_1) := (blk_cell BK102.out 1).trans rfl
                    have hcz28_2 : wr.cell? ⟨gb102, 2, none⟩ = some (.string a0_2) := (blk_cell BK102.out 2).trans rfl
                    have hcz28_3 : wr.cell? ⟨gb102, 3, none⟩ = some (.slice A0_3 l0_3.length c0_3) := (blk_cell BK102.out 3).trans rfl
                    have hcz28_4 : wr.cell? ⟨gb102, 4, none⟩ = some (.bool a0_4) := (blk_cell BK102.out 4).trans rfl
                    have hcz28_5 : wr.cell? ⟨gb102, 5, none⟩ = some (.bool a0_5) := (blk_cell BK102.out 5).trans rfl
                    have hcz28_6 : wr.cell? ⟨gb102, 6, none⟩ = some (.slice A0_6 l0_6.length c0_6) := (blk_cell BK102.out 6).trans rfl
                    have hcz28_7 : wr.cell? ⟨gb102, 7, none⟩ = some (.bool a0_7) := (blk_cell BK102.out 7).trans rfl
                    have hcz28_8 : wr.cell? ⟨gb102, 8, none⟩ = some (.slice A0_8 l0_8.length c0_8) := (blk_cell BK102.out 8).trans rfl
                    have hcz28_9 : wr.cell? ⟨gb102, 9, none⟩ = some (.slice A0_9 l0_9.length c0_9) := (blk_cell BK102.out 9).trans rfl
                    have hcz28_10 : wr.cell? ⟨gb102, 10, none⟩ = some (.slice A0_10 l0_10.length c0_10) := (blk_cell BK102.out 10).trans rfl
                    have hfz28_0 := blk_frozen BK102.out 0
                    have hfz28_1 := blk_frozen BK102.out 1
                    have hfz28_2 := blk_frozen BK102.out 2
                    have hfz28_3 := blk_frozen BK102.out 3
                    have hfz28_4 := blk_frozen BK102.out 4
                    have hfz28_5 := blk_frozen BK102.out 5
                    have hfz28_6 := blk_frozen BK102.out 6
                    have hfz28_7 := blk_frozen BK102.out 7
                    have hfz28_8 := blk_frozen BK102.out 8
                    have hfz28_9 := blk_frozen BK102.out 9
                    have hfz28_10 := blk_frozen BK102.out 10
                    have p106 : 0 ≤ (x3_2 : Int) := of_decide_eq_true (by first | (with_reducible assumption) | assumption)
                    have q106 : x3_2 < (l0_3.length : Int) := of_decide_eq_true (by first | (with_reducible assumption) | assumption)
                    obtain ⟨ad106, e106, hx106_0, hx106_1, hx106_2, hx106_3⟩ := at_T43 HR0_3.out x3_2 p106 q106
                    cases e106
                    replace hx106_0 := (HB.out.cell (World.block_lt_of_cell? w _ hx106_0)).trans hx106_0
                    replace hx106_1 := (HB.out.cell (World.block_lt_of_cell? w _ hx106_1)).trans hx106_1
                    replace hx106_2 := (HB.out.cell (World.block_lt_of_cell? w _ hx106_2)).trans hx106_2
                    replace hx106_3 := (HB.out.cell (World.block_lt_of_cell? w _ hx106_3)).trans hx106_3
                    replace p106 := eq_true p106
                    replace q106 := eq_true q106
                    have p107 : 0 ≤ (x3_2 : Int) := of_decide_eq_true (by first | (with_reducible assumption) | assumption)
                    have q107 : x3_2 < (l0_3.length : Int) := of_decide_eq_true (by first | (with_reducible assumption) | assumption)
                    obtain ⟨ad107, e107, hx107_0, hx107_1, hx107_2, hx107_3⟩ := at_T43 HR0_3.out x3_2 p107 q107
                    obtain rfl : ad106 = ad107 := (by injection e107)
                    replace hx107_0 := (HB.out.cell (World.block_lt_of_cell? w _ hx107_0)).trans hx107_0
                    replace hx107_1 := (HB.out.cell (World.block_lt_of_cell? w _ hx107_1)).trans hx107_1
                    replace hx107_2 := (HB.out.cell (World.block_lt_of_cell? w _ hx107_2)).trans hx107_2
                    replace hx107_3 := (HB.out.cell (World.block_lt_of_cell? w _ hx107_3)).trans hx107_3
                    replace p107 := eq_true p107
                    replace q107 := eq_true q107
                    go_wp2
                    go_ret
                    exact ⟨by first | rfl | (simp [errW_none, errW_some] <;> rfl) | (simp [*, errW_none, errW_some] <;> rfl), by repeat (first | (with_reducible first | exact HB.out | apply below_alloc | apply pw_below_drewN | apply below_drew1 | refine below_set ?_ GE102.out) | exact HB.out)⟩
                  · rw [if_neg c27] at H
                    have c27b0 : decide (300 < (((rd_T43 l0_3 x3_2).f2).size : Int)) = false := decide_eq_false c27
                    have c27b1 : decide (300 < ((rd_T43 l0_3 x3_2).f2).size) = false := decide_eq_false (by omega)
                    clear c27
                    by_cases c29 : (((rd_T43 l0_3 x3_2).f3).size : Int) > 100
                    · rw [if_pos c29] at H
                      have c29b0 : decide (100 < (((rd_T43 l0_3 x3_2).f3).size : Int)) = true := decide_eq_true c29
                      have c29b1 : decide (100 < ((rd_T43 l0_3 x3_2).f3).size) = true := decide_eq_true (by omega)
                      clear c29
                      obtain rfl := Option.some.inj H
                      have hcz30_0 : wr.cell? ⟨gb102, 0, none⟩ = some (.string a0_0) := (blk_cell BK102.out 0).trans rfl
                      have hcz30_1 : wr.cell? ⟨gb102, 1, none⟩ = some (.string a0_1) := (blk_cell BK102.out 1).trans rfl
                      have hcz30_2 : wr.cell? ⟨gb102, 2, none⟩ = some (.string a0_2) := (blk_cell BK102.out 2).trans rfl
                      have hcz30_3 : wr.cell? ⟨gb102, 3, none⟩ = some (.slice A0_3 l0_3.length c0_3) := (blk_cell BK102.out 3).trans rfl
                      have hcz30_4 : wr.cell? ⟨gb102, 4, none⟩ = some (.bool a0_4) := (blk_cell BK102.out 4).trans rfl
                      have hcz30_5 : wr.cell? ⟨gb102, 5, none⟩ = some (.bool a0_5) := (blk_cell BK102.out 5).trans rfl
                      have hcz30_6 : wr.cell? ⟨gb102, 6, none⟩ = some (.slice A0_6 l0_6.length c0_6) := (blk_cell BK102.out 6).trans rfl
                      have hcz30_7 : wr.cell? ⟨gb102, 7, none⟩ = some (.bool a0_7) := (blk_cell BK102.out 7).trans rfl
                      have hcz30_8 : wr.cell? ⟨gb102, 8, none⟩ = some (.slice A0_8 l0_8.length c0_8) := (blk_cell BK102.out 8).trans rfl
                      have hcz30_9 : wr.cell? ⟨gb102, 9, none⟩ = some (.slice A0_9 l0_9.length c0_9) := (blk_cell BK102.out 9).trans rfl
                      have hcz30_10 : wr.cell? ⟨gb102, 10, none⟩ = some (.slice A0_10 l0_10.length c0_10) := (blk_cell BK102.out 10).trans rfl
                      have hfz30_0 := blk_frozen BK102.out 0
                      have hfz30_1 := blk_frozen BK102.out 1
                      have hfz30_2 := blk_frozen BK102.out 2
                      have hfz30_3 := blk_frozen BK102.out 3
                      have hfz30_4 := blk_frozen BK102.out 4
                      have hfz30_5 := blk_frozen BK102.out 5
                      have hfz30_6 := blk_frozen BK102.out 6
                      have hfz30_7 := blk_frozen BK102.out 7
                      have hfz30_8 := blk_frozen BK102.out 8
                      have hfz30_9 := blk_frozen BK102.out 9
                      have hfz30_10 := blk_frozen BK102.out 10
                      have p106 : 0 ≤ (x3_2 : Int) := of_decide_eq_true (by first | (with_reducible assumption) | assumption)
                      have q106 : x3_2 < (l0_3.length : Int) := of_decide_eq_true (by first | (with_reducible assumption) | assumption)
                      obtain ⟨ad106, e106, hx106_0, hx106_1, hx106_2, hx106_3⟩ := at_T43 HR0_3.out x3_2 p106 q106
                      cases e106
                      replace hx106_0 := (HB.out.cell (World.block_lt_of_cell? w _ hx106_0)).trans hx106_0
                      replace hx106_1 := (HB.out.cell (World.block_lt_of_cell? w _ hx106_1)).trans hx106_1
                      replace hx106_2 := (HB.out.cell (World.block_lt_of_cell? w _ hx106_2)).trans hx106_2
                      replace hx106_3 := (HB.out.cell (World.block_lt_of_cell? w _ hx106_3)).trans hx106_3
                      replace p106 := eq_true p106
                      replace q106 := eq_true q106
                      have p107 : 0 ≤ (x3_2 : Int) := of_decide_eq_true (by first | (with_reducible assumption) | assumption)
                      have q107 : x3_2 < (l0_3.length : Int) := of_decide_eq_true (by first | (with_reducible assumption) | assumption)
                      obtain ⟨ad107, e107, hx107_0, hx107_1, hx107_2, hx107_3⟩ := at_T43 HR0_3.out x3_2 p107 q107
                      obtain rfl : ad106 = ad107 := (by injection e107)
                      replace hx107_0 := (HB.out.cell (World.block_lt_of_cell? w _ hx107_0)).trans hx107_0
                      replace hx107_1 := (HB.out.cell (World.block_lt_of_cell? w _ hx107_1)).trans hx107_1
                      replace hx107_2 := (HB.out.cell (World.block_lt_of_cell? w _ hx107_2)).trans hx107_2
                      replace hx107_3 := (HB.out.cell (World.block_lt_of_cell? w _ hx107_3)).trans hx107_3
                      replace p107 := eq_true p107
                      replace q107 := eq_true q107
                      have p108 : 0 ≤ (x3_2 : Int) := of_decide_eq_true (by first | (with_reducible assumption) | assumption)
                      have q108 : x3_2 < (l0_3.length : Int) := of_decide_eq_true (by first | (with_reducible assumption) | assumption)
                      obtain ⟨ad108, e108, hx108_0, hx108_1, hx108_2, hx108_3⟩ := at_T43 HR0_3.out x3_2 p108 q108
                      obtain rfl : ad106 = ad108 := (by injection e108)
                      replace hx108_0 := (HB.out.cell (World.block_lt_of_cell? w _ hx108_0)).trans hx108_0
                      replace hx108_1 := (HB.out.cell (World.block_lt_of_cell? w _ hx108_1)).trans hx108_1
                      replace hx108_2 := (HB.out.cell (World.block_lt_of_cell? w _ hx108_2)).trans hx108_2
                      replace hx108_3 := (HB.out.cell (World.block_lt_of_cell? w _ hx108_3)).trans hx108_3
                      replace p108 := eq_true p108
                      replace q108 := eq_true q108
                      go_wp2
                      go_ret
                      exact ⟨by first | rfl | (simp [errW_none, errW_some] <;> rfl) | (simp [*, errW_none, errW_some] <;> rfl), by repeat (first | (with_reducible first | exact HB.out | apply below_alloc | apply pw_below_drewN | apply below_drew1 | refine below_set ?_ GE102.out) | exact HB.out)⟩
                    · rw [if_neg c29] at H
                      have c29b0 : decide (100 < (((rd_T43 l0_3 x3_2).f3).size : Int)) = false := decide_eq_false c29
                      have c29b1 : decide (100 < ((rd_T43 l0_3 x3_2).f3).size) = false := decide_eq_false (by omega)
                      clear c29
                      have H' := Aside0.mk H
                      clear H
                      have hcz31_0 : wr.cell? ⟨gb102, 0, none⟩ = some (.string a0_0) := (blk_cell BK102.out 0).trans rfl
                      have hcz31_1 : wr.cell? ⟨gb102, 1, none⟩ = some (.string a0_1) := (blk_cell BK102.out 1).trans rfl
                      have hcz31_2 : wr.cell? ⟨gb102, 2, none⟩ = some (.string a0_2) := (blk_cell BK102.out 2).trans rfl
                      have hcz31_3 : wr.cell? ⟨gb102, 3, none⟩ = some (.slice A0_3 l0_3.length c0_3) := (blk_cell BK102.out 3).trans rfl
                      have hcz31_4 : wr.cell? ⟨gb102, 4, none⟩ = some (.bool a0_4) := (blk_cell BK102.out 4).trans rfl
                      have hcz31_5 : wr.cell? ⟨gb102, 5, none⟩ = some (.bool a0_5) := (blk_cell BK102.out 5).trans rfl
                      have hcz31_6 : wr.cell? ⟨gb102, 6, none⟩ = some (.slice A0_6 l0_6.length c0_6) := (blk_cell BK102.out 6).trans rfl
                      have hcz31_7 : wr.cell? ⟨gb102, 7, none⟩ = some (.bool a0_7) := (blk_cell BK102.out 7).trans rfl
                      have hcz31_8 : wr.cell? ⟨gb102, 8, none⟩ = some (.slice A0_8 l0_8.length c0_8) := (blk_cell BK102.out 8).trans rfl
                      have hcz31_9 : wr.cell? ⟨gb102, 9, none⟩ = some (.slice A0_9 l0_9.length c0_9) := (blk_cell BK102.out 9).trans rfl
                      have hcz31_10 : wr.cell? ⟨gb102, 10, none⟩ = some (.slice A0_10 l0_10.length c0_10) := (blk_cell BK102.out 10).trans rfl
                      have hfz31_0 := blk_frozen BK102.out 0
                      have hfz31_1 := blk_frozen BK102.out 1
                      have hfz31_2 := blk_frozen BK102.out 2
                      have hfz31_3 := blk_frozen BK102.out 3
                      have hfz31_4 := blk_frozen BK102.out 4
                      have hfz31_5 := blk_frozen BK102.out 5
                      have hfz31_6 := blk_frozen BK102.out 6
                      have hfz31_7 := blk_frozen BK102.out 7
                      have hfz31_8 := blk_frozen BK102.out 8
                      have hfz31_9 := blk_frozen BK102.out 9
                      have hfz31_10 := blk_frozen BK102.out 10
                      have p106 : 0 ≤ (x3_2 : Int) := of_decide_eq_true (by first | (with_reducible assumption) | assumption)
                      have q106 : x3_2 < (l0_3.length : Int) := of_decide_eq_true (by first | (with_reducible assumption) | assumption)
                      obtain ⟨ad106, e106, hx106_0, hx106_1, hx106_2, hx106_3⟩ := at_T43 HR0_3.out x3_2 p106 q106
                      cases e106
                      replace hx106_0 := (HB.out.cell (World.block_lt_of_cell? w _ hx106_0)).trans hx106_0
                      replace hx106_1 := (HB.out.cell (World.block_lt_of_cell? w _ hx106_1)).trans hx106_1
                      replace hx106_2 := (HB.out.cell (World.block_lt_of_cell? w _ hx106_2)).trans hx106_2
                      replace hx106_3 := (HB.out.cell (World.block_lt_of_cell? w _ hx106_3)).trans hx106_3
                      replace p106 := eq_true p106
                      replace q106 := eq_true q106
                      have p107 : 0 ≤ (x3_2 : Int) := of_decide_eq_true (by first | (with_reducible assumption) | assumption)
                      have q107 : x3_2 < (l0_3.length : Int) := of_decide_eq_true (by first | (with_reducible assumption) | assumption)
                      obtain ⟨ad107, e107, hx107_0, hx107_1, hx107_2, hx107_3⟩ := at_T43 HR0_3.out x3_2 p107 q107
                      obtain rfl : ad106 = ad107 := (by injection e107)
                      replace hx107_0 := (HB.out.cell (World.block_lt_of_cell? w _ hx107_0)).trans hx107_0
                      replace hx107_1 := (HB.out.cell (World.block_lt_of_cell? w _ hx107_1)).trans hx107_1
                      replace hx107_2 := (HB.out.cell (World.block_lt_of_cell? w _ hx107_2)).trans hx107_2
                      replace hx107_3 := (HB.out.cell (World.block_lt_of_cell? w _ hx107_3)).trans hx107_3
                      replace p107 := eq_true p107
                      replace q107 := eq_true q107
                      have p108 : 0 ≤ (x3_2 : Int) := of_decide_eq_true (by first | (with_reducible assumption) | assumption)
                      have q108 : x3_2 < (l0_3.length : Int) := of_decide_eq_true (by first | (with_reducible assumption) | assumption)
                      obtain ⟨ad108, e108, hx108_0, hx108_1, hx108_2, hx108_3⟩ := at_T43 HR0_3.out x3_2 p108 q108
                      obtain rfl : ad106 = ad108 := (by injection e108)
                      replace hx108_0 := (HB.out.cell (World.block_lt_of_cell? w _ hx108_0)).trans hx108_0
                      replace hx108_1 := (HB.out.cell (World.block_lt_of_cell? w _ hx108_1)).trans hx108_1
                      replace hx108_2 := (HB.out.cell (World.block_lt_of_cell? w _ hx108_2)).trans hx108_2
                      replace hx108_3 := (HB.out.cell (World.block_lt_of_cell? w _ hx108_3)).trans hx108_3
                      replace p108 := eq_true p108
                      replace q108 := eq_true q108
                      go_wp2
                      go_roundg k2
                      case measure => have := HJ1.out; have := HK2.out; omega
                      case rel => exact ⟨(wrap64 (x3_2 + 1)), (by first | rfl | (simp; done) | (simp [*]; done)), H', ⟨by have := HJ1.out; have := HK2.out; omega⟩, ⟨by (with_reducible repeat (first | refine blk_drewN ?_ _ | refine blk_drew ?_ | refine blk_alloc ?_ _)); exact BK102.out⟩, ⟨by repeat (first | (with_reducible first | exact HB.out | apply below_alloc | apply pw_below_drewN | apply below_drew1 | refine below_set ?_ GE102.out) | exact HB.out)⟩⟩
              · rw [if_neg c24] at H
                exact absurd H (by simp)
            · rw [if_neg c23] at H
              have c23b0 : decide (x3_2 < (l0_3.length : Int)) = false := decide_eq_false c23
              clear c23
              have H' := Aside0.mk H
              clear H
              have hcz32_0 : wr.cell? ⟨gb102, 0, none⟩ = some (.string a0_0) := (blk_cell BK102.out 0).trans rfl
              have hcz32_1 : wr.cell? ⟨gb102, 1, none⟩ = some (.string a0_1) := (blk_cell BK102.out 1).trans rfl
              have hcz32_2 : wr.cell? ⟨gb102, 2, none⟩ = some (.string a0_2) := (blk_cell BK102.out 2).trans rfl
              have hcz32_3 : wr.cell? ⟨gb102, 3, none⟩ = some (.slice A0_3 l0_3.length c0_3) := (blk_cell BK102.out 3).trans rfl
              have hcz32_4 : wr.cell? ⟨gb102, 4, none⟩ = some (.bool a0_4) := (blk_cell BK102.out 4).trans rfl
              have hcz32_5 : wr.cell? ⟨gb102, 5, none⟩ = some (.bool a0_5) := (blk_cell BK102.out 5).trans rfl
              have hcz32_6 : wr.cell? ⟨gb102, 6, none⟩ = some (.slice A0_6 l0_6.length c0_6) := (blk_cell BK102.out 6).trans rfl
              have hcz32_7 : wr.cell? ⟨gb102, 7, none⟩ = some (.bool a0_7) := (blk_cell BK102.out 7).trans rfl
              have hcz32_8 : wr.cell? ⟨gb102, 8, none⟩ = some (.slice A0_8 l0_8.length c0_8) := (blk_cell BK102.out 8).trans rfl
              have hcz32_9 : wr.cell? ⟨gb102, 9, none⟩ = some (.slice A0_9 l0_9.length c0_9) := (blk_cell BK102.out 9).trans rfl
              have hcz32_10 : wr.cell? ⟨gb102, 10, none⟩ = some (.slice A0_10 l0_10.length c0_10) := (blk_cell BK102.out 10).trans rfl
              have hfz32_0 := blk_frozen BK102.out 0
              have hfz32_1 := blk_frozen BK102.out 1
              have hfz32_2 := blk_frozen BK102.out 2
              have hfz32_3 := blk_frozen BK102.out 3
              have hfz32_4 := blk_frozen BK102.out 4
              have hfz32_5 := blk_frozen BK102.out 5
              have hfz32_6 := blk_frozen BK102.out 6
              have hfz32_7 := blk_frozen BK102.out 7
              have hfz32_8 := blk_frozen BK102.out 8
              have hfz32_9 := blk_frozen BK102.out 9
              have hfz32_10 := blk_frozen BK102.out 10
              go_wp2
              go_loopg [4] k2 (fun kq v4 w' => ∃ (x4_3 : Int), v4 = .int .i64 x4_3 ∧ Aside0 (fleuronalike_Style.l1 kq x4_3 a0_0 a0_1 a0_2 l0_3 a0_4 a0_5 l0_6 a0_7 l0_8 l0_9 l0_10 = some r) ∧ Aside0 (kq ≤ k2) ∧ Aside0 (w'.heap[gb102]? = some (.cells #[.string a0_0, .string a0_1, .string a0_2, (.slice A0_3 l0_3.length c0_3), .bool a0_4, .bool a0_5, (.slice A0_6 l0_6.length c0_6), .bool a0_7, (.slice A0_8 l0_8.length c0_8), (.slice A0_9 l0_9.length c0_9), (.slice A0_10 l0_10.length c0_10)] 26 (0, 0))) ∧ Aside0 (Below w.heap.size w w'))
              case atStart => exact ⟨(0), (by first | rfl | (simp; done) | (simp [*]; done)), H', ⟨Nat.le_refl _⟩, ⟨by (with_reducible repeat (first | refine blk_drewN ?_ _ | refine blk_drew ?_ | refine blk_alloc ?_ _)); exact BK102.out⟩, ⟨by repeat (first | (with_reducible first | exact HB.out | apply below_alloc | apply pw_below_drewN | apply below_drew1 | refine below_set ?_ GE102.out) | exact HB.out)⟩⟩
              case round =>
                clear H'
                try clear c1
                try clear p1
                try clear q1
                try clear hx1
                try clear c2
                try clear p2
                try clear c4
                try clear c4b0
                try clear c4b1
                try clear c6
                try clear c6b0
                try clear c6b1
                try clear p6
                try clear c7
                try clear c8
                try clear c8b0
                try clear c8b1
                try clear c10
                try clear c10b0
                try clear c10b1
                try clear p10
                try clear q10
                try clear hx10
                try clear c12
                try clear c12b0
                try clear c12b1
                try clear c15
                try clear c17
                try clear c22
                try clear c23
                try clear c23b0
                try clear c24
                try clear c24b0
                try clear c25
                try clear c25b0
                try clear c25b1
                try clear c27
                try clear c27b0
                try clear c27b1
                try clear c29
                try clear c29b0
                try clear c29b1
                try clear hcz11_0
                try clear hcz11_1
                try clear hcz11_10
                try clear hcz11_2
                try clear hcz11_3
                try clear hcz11_4
                try clear hcz11_5
                try clear hcz11_6
                try clear hcz11_7
                try clear hcz11_8
                try clear hcz11_9
                try clear hcz13_0
                try clear hcz13_1
                try clear hcz13_10
                try clear hcz13_2
                try clear hcz13_3
                try clear hcz13_4
                try clear hcz13_5
                try clear hcz13_6
                try clear hcz13_7
                try clear hcz13_8
                try clear hcz13_9
                try clear hcz19_0
                try clear hcz19_1
                try clear hcz19_10
                try clear hcz19_2
                try clear hcz19_3
                try clear hcz19_4
                try clear hcz19_5
                try clear hcz19_6
                try clear hcz19_7
                try clear hcz19_8
                try clear hcz19_9
                try clear hcz20_0
                try clear hcz20_1
                try clear hcz20_10
                try clear hcz20_2
                try clear hcz20_3
                try clear hcz20_4
                try clear hcz20_5
                try clear hcz20_6
                try clear hcz20_7
                try clear hcz20_8
                try clear hcz20_9
                try clear hcz21_0
                try clear hcz21_1
                try clear hcz21_10
                try clear hcz21_2
                try clear hcz21_3
                try clear hcz21_4
                try clear hcz21_5
                try clear hcz21_6
                try clear hcz21_7
                try clear hcz21_8
                try clear hcz21_9
                try clear hcz26_0
                try clear hcz26_1
                try clear hcz26_10
                try clear hcz26_2
                try clear hcz26_3
                try clear hcz26_4
                try clear hcz26_5
                try clear hcz26_6
                try clear hcz26_7
                try clear hcz26_8
                try clear hcz26_9
                try clear hcz28_0
                try clear hcz28_1
                try clear hcz28_10
                try clear hcz28_2
                try clear hcz28_3
                try clear hcz28_4
                try clear hcz28_5
                try clear hcz28_6
                try clear hcz28_7
                try clear hcz28_8
                try clear hcz28_9
                try clear hcz30_0
                try clear hcz30_1
                try clear hcz30_10
                try clear hcz30_2
                try clear hcz30_3
                try clear hcz30_4
                try clear hcz30_5
                try clear hcz30_6
                try clear hcz30_7
                try clear hcz30_8
                try clear hcz30_9
                try clear hcz31_0
                try clear hcz31_1
                try clear hcz31_10
                try clear hcz31_2
                try clear hcz31_3
                try clear hcz31_4
                try clear hcz31_5
                try clear hcz31_6
                try clear hcz31_7
                try clear hcz31_8
                try clear hcz31_9
                try clear hcz32_0
                try clear hcz32_1
                try clear hcz32_10
                try clear hcz32_2
                try clear hcz32_3
                try clear hcz32_4
                try clear hcz32_5
                try clear hcz32_6
                try clear hcz32_7
                try clear hcz32_8
                try clear hcz32_9
                try clear hcz5_0
                try clear hcz5_1
                try clear hcz5_10
                try clear hcz5_2
                try clear hcz5_3
                try clear hcz5_4
                try clear hcz5_5
                try clear hcz5_6
                try clear hcz5_7
                try clear hcz5_8
                try clear hcz5_9
                try clear hcz7_0
                try clear hcz7_1
                try clear hcz7_10
                try clear hcz7_2
                try clear hcz7_3
                try clear hcz7_4
                try clear hcz7_5
                try clear hcz7_6
                try clear hcz7_7
                try clear hcz7_8
                try clear hcz7_9
                try clear hcz9_0
                try clear hcz9_1
                try clear hcz9_10
                try clear hcz9_2
                try clear hcz9_3
                try clear hcz9_4
                try clear hcz9_5
                try clear hcz9_6
                try clear hcz9_7
                try clear hcz9_8
                try clear hcz9_9
                try clear hfz11_0
                try clear hfz11_1
                try clear hfz11_10
                try clear hfz11_2
                try clear hfz11_3
                try clear hfz11_4
                try clear hfz11_5
                try clear hfz11_6
                try clear hfz11_7
                try clear hfz11_8
                try clear hfz11_9
                try clear hfz13_0
                try clear hfz13_1
                try clear hfz13_10
                try clear hfz13_2
                try clear hfz13_3
                try clear hfz13_4
                try clear hfz13_5
                try clear hfz13_6
                try clear hfz13_7
                try clear hfz13_8
                try clear hfz13_9
                try clear hfz19_0
                try clear hfz19_1
                try clear hfz19_10
                try clear hfz19_2
                try clear hfz19_3
                try clear hfz19_4
                try clear hfz19_5
                try clear hfz19_6
                try clear hfz19_7
                try clear hfz19_8
                try clear hfz19_9
                try clear hfz20_0
                try clear hfz20_1
                try clear hfz20_10
                try clear hfz20_2
                try clear hfz20_3
                try clear hfz20_4
                try clear hfz20_5
                try clear hfz20_6
                try clear hfz20_7
                try clear hfz20_8
                try clear hfz20_9
                try clear hfz21_0
                try clear hfz21_1
                try clear hfz21_10
                try clear hfz21_2
                try clear hfz21_3
                try clear hfz21_4
                try clear hfz21_5
                try clear hfz21_6
                try clear hfz21_7
                try clear hfz21_8
                try clear hfz21_9
                try clear hfz26_0
                try clear hfz26_1
                try clear hfz26_10
                try clear hfz26_2
                try clear hfz26_3
                try clear hfz26_4
                try clear hfz26_5
                try clear hfz26_6
                try clear hfz26_7
                try clear hfz26_8
                try clear hfz26_9
                try clear hfz28_0
                try clear hfz28_1
                try clear hfz28_10
                try clear hfz28_2
                try clear hfz28_3
                try clear hfz28_4
                try clear hfz28_5
                try clear hfz28_6
                try clear hfz28_7
                try clear hfz28_8
                try clear hfz28_9
                try clear hfz30_0
                try clear hfz30_1
                try clear hfz30_10
                try clear hfz30_2
                try clear hfz30_3
                try clear hfz30_4
                try clear hfz30_5
                try clear hfz30_6
                try clear hfz30_7
                try clear hfz30_8
                try clear hfz30_9
                try clear hfz31_0
                try clear hfz31_1
                try clear hfz31_10
                try clear hfz31_2
                try clear hfz31_3
                try clear hfz31_4
                try clear hfz31_5
                try clear hfz31_6
                try clear hfz31_7
                try clear hfz31_8
                try clear hfz31_9
                try clear hfz32_0
                try clear hfz32_1
                try clear hfz32_10
                try clear hfz32_2
                try clear hfz32_3
                try clear hfz32_4
                try clear hfz32_5
                try clear hfz32_6
                try clear hfz32_7
                try clear hfz32_8
                try clear hfz32_9
                try clear hfz5_0
                try clear hfz5_1
                try clear hfz5_10
                try clear hfz5_2
                try clear hfz5_3
                try clear hfz5_4
                try clear hfz5_5
                try clear hfz5_6
                try clear hfz5_7
                try clear hfz5_8
                try clear hfz5_9
                try clear hfz7_0
                try clear hfz7_1
                try clear hfz7_10
                try clear hfz7_2
                try clear hfz7_3
                try clear hfz7_4
                try clear hfz7_5
                try clear hfz7_6
                try clear hfz7_7
                try clear hfz7_8
                try clear hfz7_9
                try clear hfz9_0
                try clear hfz9_1
                try clear hfz9_10
                try clear hfz9_2
                try clear hfz9_3
                try clear hfz9_4
                try clear hfz9_5
                try clear hfz9_6
                try clear hfz9_7
                try clear hfz9_8
                try clear hfz9_9
                try clear hx106_0
                try clear hx106_1
                try clear hx106_2
                try clear hx106_3
                try clear hx107_0
                try clear hx107_1
                try clear hx107_2
                try clear hx107_3
                try clear hx108_0
                try clear hx108_1
                try clear hx108_2
                try clear hx108_3
                try clear p106
                try clear p107
                try clear p108
                try clear p2
                try clear q106
                try clear q107
                try clear q108
                obtain ⟨x4_3, rfl, HA, HK3, BK102, HB⟩ := hrel
                cases gk with
                | zero => exact absurd HA.out (by simp [fleuronalike_Style.l1])
                | succ k3 =>
                  have H := HA.out
                  clear HA
                  simp only [fleuronalike_Style.l1] at H
                  by_cases c33 : x4_3 < (l0_6.length : Int)
                  · rw [if_pos c33] at H
                    have c33b0 : decide (x4_3 < (l0_6.length : Int)) = true := decide_eq_true c33
                    clear c33
                    by_cases c34 : 0 ≤ x4_3
                    · rw [if_pos c34] at H
                      have c34b0 : decide (0 ≤ x4_3) = true := decide_eq_true c34
                      clear c34
                      by_cases c35 : ((rdOf ByteArray.empty l0_6 x4_3).size : Int) > 300
                      · rw [if_pos c35] at H
                        have c35b0 : decide (300 < ((rdOf ByteArray.empty l0_6 x4_3).size : Int)) = true := decide_eq_true c35
                        have c35b1 : decide (300 < (rdOf ByteArray.empty l0_6 x4_3).size) = true := decide_eq_true (by omega)
                        clear c35
                        obtain rfl := Option.some.inj H
                        have hcz36_0 : wr.cell? ⟨gb102, 0, none⟩ = some (.string a0_0) := (blk_cell BK102.out 0).trans rfl
                        have hcz36_1 : wr.cell? ⟨gb102, 1, none⟩ = some (.string a0_1) := (blk_cell BK102.out 1).trans rfl
                        have hcz36_2 : wr.cell? ⟨gb102, 2, none⟩ = some (.string a0_2) := (blk_cell BK102.out 2).trans rfl
                        have hcz36_3 : wr.cell? ⟨gb102, 3, none⟩ = some (.slice A0_3 l0_3.length c0_3) := (blk_cell BK102.out 3).trans rfl
                        have hcz36_4 : wr.cell? ⟨gb102, 4, none⟩ = some (.bool a0_4) := (blk_cell BK102.out 4).trans rfl
                        have hcz36_5 : wr.cell? ⟨gb102, 5, none⟩ = some (.bool a0_5) := (blk_cell BK102.out 5).trans rfl
                        have hcz36_6 : wr.cell? ⟨gb102, 6, none⟩ = some (.slice A0_6 l0_6.length c0_6) := (blk_cell BK102.out 6).trans rfl
                        have hcz36_7 : wr.cell? ⟨gb102, 7, none⟩ = some (.bool a0_7) := (blk_cell BK102.out 7).trans rfl
                        have hcz36_8 : wr.cell? ⟨gb102, 8, none⟩ = some (.slice A0_8 l0_8.length c0_8) := (blk_cell BK102.out 8).trans rfl
                        have hcz36_9 : wr.cell? ⟨gb102, 9, none⟩ = some (.slice A0_9 l0_9.length c0_9) := (blk_cell BK102.out 9).trans rfl
                        have hcz36_10 : wr.cell? ⟨gb102, 10, none⟩ = some (.slice A0_10 l0_10.length c0_10) := (blk_cell BK102.out 10).trans rfl
                        have hfz36_0 := blk_frozen BK102.out 0
                        have hfz36_1 := blk_frozen BK102.out 1
                        have hfz36_2 := blk_frozen BK102.out 2
                        have hfz36_3 := blk_frozen BK102.out 3
                        have hfz36_4 := blk_frozen BK102.out 4
                        have hfz36_5 := blk_frozen BK102.out 5
                        have hfz36_6 := blk_frozen BK102.out 6
                        have hfz36_7 := blk_frozen BK102.out 7
                        have hfz36_8 := blk_frozen BK102.out 8
                        have hfz36_9 := blk_frozen BK102.out 9
                        have hfz36_10 := blk_frozen BK102.out 10
                        have p109 : 0 ≤ (x4_3 : Int) := of_decide_eq_true (by first | (with_reducible assumption) | assumption)
                        have q109 : x4_3 < (l0_6.length : Int) := of_decide_eq_true (by first | (with_reducible assumption) | assumption)
                        obtain ⟨ad109, e109, hx109_0⟩ := Kd.at_string HR0_6.out x4_3 p109 q109
                        cases e109
                        replace hx109_0 := (HB.out.cell (World.block_lt_of_cell? w _ hx109_0)).trans hx109_0
                        replace p109 := eq_true p109
                        replace q109 := eq_true q109
                        go_wp2
                        go_ret
                        exact ⟨by first | rfl | (simp [errW_none, errW_some] <;> rfl) | (simp [*, errW_none, errW_some] <;> rfl), by repeat (first | (with_reducible first | exact HB.out | apply below_alloc | apply pw_below_drewN | apply below_drew1 | refine below_set ?_ GE102.out) | exact HB.out)⟩
                      · rw [if_neg c35] at H
                        have c35b0 : decide (300 < ((rdOf ByteArray.empty l0_6 x4_3).size : Int)) = false := decide_eq_false c35
                        have c35b1 : decide (300 < (rdOf ByteArray.empty l0_6 x4_3).size) = false := decide_eq_false (by omega)
                        clear c35
                        have H' := Aside0.mk H
                        clear H
                        have hcz37_0 : wr.cell? ⟨gb102, 0, none⟩ = some (.string a0_0) := (blk_cell BK102.out 0).trans rfl
                        have hcz37_1 : wr.cell? ⟨gb102, 1, none⟩ = some (.string a0_1) := (blk_cell BK102.out 1).trans rfl
                        have hcz37_2 : wr.cell? ⟨gb102, 2, none⟩ = some (.string a0_2) := (blk_cell BK102.out 2).trans rfl
                        have hcz37_3 : wr.cell? ⟨gb102, 3, none⟩ = some (.slice A0_3 l0_3.length c0_3) := (blk_cell BK102.out 3).trans rfl
                        have hcz37_4 : wr.cell? ⟨gb102, 4, none⟩ = some (.bool a0_4) := (blk_cell BK102.out 4).trans rfl
                        have hcz37_5 : wr.cell? ⟨gb102, 5, none⟩ = some (.bool a0_5) := (blk_cell BK102.out 5).trans rfl
                        have hcz37_6 : wr.cell? ⟨gb102, 6, none⟩ = some (.slice A0_6 l0_6.length c0_6) := (blk_cell BK102.out 6).trans rfl
                        have hcz37_7 : wr.cell? ⟨gb102, 7, none⟩ = some (.bool a0_7) := (blk_cell BK102.out 7).trans rfl
                        have hcz37_8 : wr.cell? ⟨gb102, 8, none⟩ = some (.slice A0_8 l0_8.length c0_8) := (blk_cell BK102.out 8).trans rfl
                        have hcz37_9 : wr.cell? ⟨gb102, 9, none⟩ = some (.slice A0_9 l0_9.length c0_9) := (blk_cell BK102.out 9).trans rfl
                        have hcz37_10 : wr.cell? ⟨gb102, 10, none⟩ = some (.slice A0_10 l0_10.length c0_10) := (blk_cell BK102.out 10).trans rfl
                        have hfz37_0 := blk_frozen BK102.out 0
                        have hfz37_1 := blk_frozen BK102.out 1
                        have hfz37_2 := blk_frozen BK102.out 2
                        have hfz37_3 := blk_frozen BK102.out 3
                        have hfz37_4 := blk_frozen BK102.out 4
                        have hfz37_5 := blk_frozen BK102.out 5
                        have hfz37_6 := blk_frozen BK102.out 6
                        have hfz37_7 := blk_frozen BK102.out 7
                        have hfz37_8 := blk_frozen BK102.out 8
                        have hfz37_9 := blk_frozen BK102.out 9
                        have hfz37_10 := blk_frozen BK102.out 10
                        have p109 : 0 ≤ (x4_3 : Int) := of_decide_eq_true (by first | (with_reducible assumption) | assumption)
                        have q109 : x4_3 < (l0_6.length : Int) := of_decide_eq_true (by first | (with_reducible assumption) | assumption)
                        obtain ⟨ad109, e109, hx109_0⟩ := Kd.at_string HR0_6.out x4_3 p109 q109
                        cases e109
                        replace hx109_0 := (HB.out.cell (World.block_lt_of_cell? w _ hx109_0)).trans hx109_0
                        replace p109 := eq_true p109
                        replace q109 := eq_true q109
                        go_wp2
                        go_roundg k3
                        case measure => have := HJ1.out; have := HK2.out; have := HK3.out; omega
                        case rel => exact ⟨(wrap64 (x4_3 + 1)), (by first | rfl | (simp; done) | (simp [*]; done)), H', ⟨by have := HJ1.out; have := HK2.out; have := HK3.out; omega⟩, ⟨by (with_reducible repeat (first | refine blk_drewN ?_ _ | refine blk_drew ?_ | refine blk_alloc ?_ _)); exact BK102.out⟩, ⟨by repeat (first | (with_reducible first | exact HB.out | apply below_alloc | apply pw_below_drewN | apply below_drew1 | refine below_set ?_ GE102.out) | exact HB.out)⟩⟩
                    · rw [if_neg c34] at H
                      exact absurd H (by simp)
                  · rw [if_neg c33] at H
                    have c33b0 : decide (x4_3 < (l0_6.length : Int)) = false := decide_eq_false c33
                    clear c33
                    obtain rfl := Option.some.inj H
                    have hcz38_0 : wr.cell? ⟨gb102, 0, none⟩ = some (.string a0_0) := (blk_cell BK102.out 0).trans rfl
                    have hcz38_1 : wr.cell? ⟨gb102, 1, none⟩ = some (.string a0_1) := (blk_cell BK102.out 1).trans rfl
                    have hcz38_2 : wr.cell? ⟨gb102, 2, none⟩ = some (.string a0_2) := (blk_cell BK102.out 2).trans rfl
                    have hcz38_3 : wr.cell? ⟨gb102, 3, none⟩ = some (.slice A0_3 l0_3.length c0_3) := (blk_cell BK102.out 3).trans rfl
                    have hcz38_4 : wr.cell? ⟨gb102, 4, none⟩ = some (.bool a0_4) := (blk_cell BK102.out 4).trans rfl
                    have hcz38_5 : wr.cell? ⟨gb102, 5, none⟩ = some (.bool a0_5) := (blk_cell BK102.out 5).trans rfl
                    have hcz38_6 : wr.cell? ⟨gb102, 6, none⟩ = some (.slice A0_6 l0_6.length c0_6) := (blk_cell BK102.out 6).trans rfl
                    have hcz38_7 : wr.cell? ⟨gb102, 7, none⟩ = some (.bool a0_7) := (blk_cell BK102.out 7).trans rfl
                    have hcz38_8 : wr.cell? ⟨gb102, 8, none⟩ = some (.slice A0_8 l0_8.length c0_8) := (blk_cell BK102.out 8).trans rfl
                    have hcz38_9 : wr.cell? ⟨gb102, 9, none⟩ = some (.slice A0_9 l0_9.length c0_9) := (blk_cell BK102.out 9).trans rfl
                    have hcz38_10 : wr.cell? ⟨gb102, 10, none⟩ = some (.slice A0_10 l0_10.length c0_10) := (blk_cell BK102.out 10).trans rfl
                    have hfz38_0 := blk_frozen BK102.out 0
                    have hfz38_1 := blk_frozen BK102.out 1
                    have hfz38_2 := blk_frozen BK102.out 2
                    have hfz38_3 := blk_frozen BK102.out 3
                    have hfz38_4 := blk_frozen BK102.out 4
                    have hfz38_5 := blk_frozen BK102.out 5
                    have hfz38_6 := blk_frozen BK102.out 6
                    have hfz38_7 := blk_frozen BK102.out 7
                    have hfz38_8 := blk_frozen BK102.out 8
                    have hfz38_9 := blk_frozen BK102.out 9
                    have hfz38_10 := blk_frozen BK102.out 10
                    go_wp2
                    go_ret
                    exact ⟨by first | rfl | (simp [errW_none, errW_some] <;> rfl) | (simp [*, errW_none, errW_some] <;> rfl), by repeat (first | (with_reducible first | exact HB.out | apply below_alloc | apply pw_below_drewN | apply below_drew1 | refine below_set ?_ GE102.out) | exact HB.out)⟩

end Go.Proofs.Ytodcbiehocphkaa.P
