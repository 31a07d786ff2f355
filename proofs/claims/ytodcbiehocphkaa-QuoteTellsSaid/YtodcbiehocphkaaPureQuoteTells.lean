/- Proved: of any style, depth and kind the mark and the depth behind it are the reference's; the pure side of the law QuoteTells. No further conditions. -/
import Derived.Test.YtodcbiehocphkaaPx5
import Derived.Test.YtodcbiehocphkaaQLib
namespace Go.Proofs.Ytodcbiehocphkaa.Pure
open Go.RowKit Go.Proofs.Ytodcbiehocphkaa.P Go.Proofs.YtodcbiehocphkaaW.PrintWords Go.Proofs.YtodcbiehocphkaaW.PrintLast Go.Proofs.YtodcbiehocphkaaW.PrintMore

/-- Marks. -/
def mks (Q : List ByteArray) (au : Bool) : List ByteArray := if au = true then [(⟨#[226, 128, 156]⟩ : ByteArray), (⟨#[226, 128, 157]⟩ : ByteArray), (⟨#[226, 128, 152]⟩ : ByteArray), (⟨#[226, 128, 153]⟩ : ByteArray)] else Q
section
variable (x0 x1 x2 : ByteArray) (x3 : List S43) (x4 x5 : Bool) (Q : List ByteArray) (au : Bool) (x8 x9 x10 : List S47)
theorem marks_any (hQ : Q.length ≤ 40) : quote_Marks.f x0 x1 x2 x3 x4 x5 Q au x8 x9 x10 = some (mks Q au) := by
  cases au with
  | false => exact marks_tells x0 x1 x2 x3 x4 x5 Q x8 x9 x10 (by omega)
  | true => unfold quote_Marks.f; rw [if_pos rfl]; rfl
theorem rmarks_any (hQ : Q.length ≤ 40) : fleuronref15_Marks.f x0 x1 x2 x3 x4 x5 Q au x8 x9 x10 = some (mks Q au) := by
  unfold fleuronref15_Marks.f
  cases au with
  | false =>
    rw [if_neg (by decide)]
    refine bind_of rfl ?_
    rw [if_pos (by simp; omega)]
    rfl
  | true => rw [if_pos rfl]; rfl
theorem mks_length (hQ : Q.length ≤ 40) : (mks Q au).length ≤ 40 := by
  unfold mks
  split
  · decide
  · exact hQ
end
/-- The inside of both 'mark's. -/
theorem pick_any (M : List ByteArray) (hQ : M.length ≤ 40) (d w : Int) (hd : 0 ≤ d) (hw0 : 0 ≤ w) (hw1 : w ≤ 1) :
    (if (wrap64 ((M.length : Int) / 2)) = 0 then (some (⟨#[]⟩ : ByteArray)) else (if 0 ≤ (wrap64 ((wrap64 (2 * (mn d (wrap64 ((wrap64 ((M.length : Int) / 2)) - 1))))) + w)) then (if (wrap64 ((wrap64 (2 * (mn d (wrap64 ((wrap64 ((M.length : Int) / 2)) - 1))))) + w)) < (M.length : Int) then (some (rdOf ByteArray.empty M (wrap64 ((wrap64 (2 * (mn d (wrap64 ((wrap64 ((M.length : Int) / 2)) - 1))))) + w)))) else (none)) else (none))) = some (mk M d w) := by
  have e1 : wrap64 ((M.length : Int) / 2) = ((M.length / 2 : Nat) : Int) := by rw [w64 (by omega) (by omega)]; omega
  rw [e1]
  clear e1
  unfold mk
  by_cases h : M.length / 2 = 0
  · rw [if_pos (by omega), if_pos h]
  · rw [if_neg (by omega), if_neg h]
    have e2 : wrap64 (((M.length / 2 : Nat) : Int) - 1) = ((M.length / 2 : Nat) : Int) - 1 := w64 (by omega) (by omega)
    rw [e2]
    clear e2
    have hn0 : 0 ≤ mn d (((M.length / 2 : Nat) : Int) - 1) := by unfold mn; split <;> omega
    have hn1 : mn d (((M.length / 2 : Nat) : Int) - 1) ≤ ((M.length / 2 : Nat) : Int) - 1 := by unfold mn; split <;> omega
    have e3 : wrap64 (2 * mn d (((M.length / 2 : Nat) : Int) - 1)) = 2 * mn d (((M.length / 2 : Nat) : Int) - 1) := w64 (by omega) (by omega)
    rw [e3]
    clear e3
    have e4 : wrap64 (2 * mn d (((M.length / 2 : Nat) : Int) - 1) + w) = 2 * mn d (((M.length / 2 : Nat) : Int) - 1) + w := w64 (by omega) (by omega)
    rw [e4]
    clear e4
    rw [if_pos (by omega), if_pos (by omega)]
section
variable (x0 x1 x2 : ByteArray) (x3 : List S43) (x4 x5 : Bool) (Q : List ByteArray) (au : Bool) (x8 x9 x10 : List S47)
theorem mark_any (hQ : Q.length ≤ 40) (d w : Int) (hd : 0 ≤ d) (hw0 : 0 ≤ w) (hw1 : w ≤ 1) : quote_mark.f x0 x1 x2 x3 x4 x5 Q au x8 x9 x10 d w = some (mk (mks Q au) d w) := by
  unfold quote_mark.f
  exact bind_of (marks_any x0 x1 x2 x3 x4 x5 Q au x8 x9 x10 hQ) (pick_any _ (mks_length Q au hQ) d w hd hw0 hw1)
theorem rmark_any (hQ : Q.length ≤ 40) (d w : Int) (hd : 0 ≤ d) (hw0 : 0 ≤ w) (hw1 : w ≤ 1) : fleuronref15_mark.f x0 x1 x2 x3 x4 x5 Q au x8 x9 x10 d w = some (mk (mks Q au) d w) := by
  unfold fleuronref15_mark.f
  exact bind_of (rmarks_any x0 x1 x2 x3 x4 x5 Q au x8 x9 x10 hQ) (pick_any _ (mks_length Q au hQ) d w hd hw0 hw1)
theorem mx_facts (d : Int) (h1 : d ≤ 9223372036854775807) : 0 ≤ mx d 0 ∧ mx d 0 ≤ 9223372036854775807 := by
  unfold mx
  split <;> omega
/-- What both tell. -/
theorem both (hQ : Q.length ≤ 40) (k : Nat) (d c : Int) (h1 : d ≤ 9223372036854775807) :
    ∃ t n, quote_Do.f (k + 1) x0 x1 x2 x3 x4 x5 Q au x8 x9 x10 d c = some (t, n) ∧ fleuronref15_Quote.f x0 x1 x2 x3 x4 x5 Q au x8 x9 x10 d c = some (t, n) := by
  obtain ⟨m, hm⟩ : ∃ m, mx d 0 = m := ⟨_, rfl⟩
  have hb := mx_facts d h1
  unfold quote_Do.f fleuronref15_Quote.f
  rw [hm] at hb ⊢
  clear hm
  by_cases c5 : c = 5
  · rw [if_pos c5, if_pos c5]
    exact ⟨_, _, bind_of (mark_any x0 x1 x2 x3 x4 x5 Q au x8 x9 x10 hQ m 0 hb.1 (by omega) (by omega)) rfl, bind_of (rmark_any x0 x1 x2 x3 x4 x5 Q au x8 x9 x10 hQ m 0 hb.1 (by omega) (by omega)) rfl⟩
  rw [if_neg c5, if_neg c5]
  by_cases c7 : c = 7
  · rw [if_pos c7, if_pos c7]
    exact ⟨_, _, rfl, rfl⟩
  rw [if_neg c7, if_neg c7]
  by_cases c6 : c = 6
  · rw [if_pos c6, if_pos c6]
    by_cases h0 : m = 0
    · subst h0
      rw [if_pos rfl, quote_Do.j0, if_neg (by decide), if_neg (by omega)]
      exact ⟨_, _, rfl, rfl⟩
    · rw [if_neg h0, decide_eq_true (by omega : m > 0), quote_Do.j0, if_pos rfl]
      obtain ⟨q, hq⟩ : ∃ q, wrap64 (m - 1) = q := ⟨_, rfl⟩
      have hq0 : 0 ≤ q := by rw [← hq, w64 (by omega) (by omega)]; omega
      rw [hq]
      clear hq
      exact ⟨_, _, bind_of (mark_any x0 x1 x2 x3 x4 x5 Q au x8 x9 x10 hQ q 1 hq0 (by omega) (by omega)) rfl, bind_of (rmark_any x0 x1 x2 x3 x4 x5 Q au x8 x9 x10 hQ q 1 hq0 (by omega) (by omega)) rfl⟩
  rw [if_neg c6, if_neg c6, quote_Do.j0, if_neg (by decide)]
  by_cases c8 : c = 8
  · rw [if_pos c8, if_pos c8]
    by_cases h0 : m = 0
    · subst h0
      rw [if_neg (by decide), w64 (by omega) (by omega), show mx ((0 : Int) - 1) 0 = 0 by decide]
      exact ⟨_, _, rfl, rfl⟩
    · rw [if_pos (by omega)]
      obtain ⟨q, hq⟩ : ∃ q, wrap64 (m - 1) = q := ⟨_, rfl⟩
      have hq0 : 0 ≤ q := by rw [← hq, w64 (by omega) (by omega)]; omega
      rw [hq]
      clear hq
      rw [show mx q 0 = q from mx0 hq0]
      exact ⟨_, _, rfl, rfl⟩
  · rw [if_neg c8, if_neg c8]
    exact ⟨_, _, rfl, rfl⟩
end
theorem texts_same (M : List ByteArray) (hM : M.length ≤ 40) (m : Nat) : ∀ (k j : Nat), M.length - j = m → j ≤ M.length → m < k → fleuronalike_Texts.l0 k M M (j : Int) = some true := by
  induction m with
  | zero =>
    intro k j hm hj hk
    obtain ⟨k, rfl⟩ : ∃ m, k = m + 1 := ⟨k - 1, by omega⟩
    rw [fleuronalike_Texts.l0, if_neg (by omega)]
  | succ m ih =>
    intro k j hm hj hk
    obtain ⟨k, rfl⟩ : ∃ m, k = m + 1 := ⟨k - 1, by omega⟩
    rw [fleuronalike_Texts.l0, if_pos (by omega), if_pos (by omega), if_pos (by omega), if_pos rfl]
    have ew : wrap64 ((j : Int) + 1) = ((j + 1 : Nat) : Int) := by rw [w64 (by omega) (by omega)]; omega
    rw [ew]
    clear ew
    exact ih k (j + 1) (by omega) (by omega) (by omega)
theorem pairs_some (l : List S47) (m : Nat) : ∀ (k j : Nat), 50 - j = m → j ≤ 50 → 2 * m + 2 < k → ∃ b, fleuronalike_Pairs.l0 k l (j : Int) = some b := by
  induction m with
  | zero =>
    intro k j hm hj hk
    obtain ⟨k, rfl⟩ : ∃ m, k = m + 2 := ⟨k - 2, by omega⟩
    have hj2 : j = 50 := by omega
    subst hj2
    rw [fleuronalike_Pairs.l0]
    by_cases h : ((50 : Nat) : Int) < (l.length : Int)
    · rw [if_pos h, decide_eq_false (by decide), fleuronalike_Pairs.j1, if_neg (by decide)]
      exact ⟨_, rfl⟩
    · rw [if_neg h, fleuronalike_Pairs.j1, if_neg (by decide)]
      exact ⟨_, rfl⟩
  | succ m ih =>
    intro k j hm hj hk
    obtain ⟨k, rfl⟩ : ∃ m, k = m + 2 := ⟨k - 2, by omega⟩
    rw [fleuronalike_Pairs.l0]
    by_cases h : (j : Int) < (l.length : Int)
    · rw [if_pos h, decide_eq_true (by omega), fleuronalike_Pairs.j1, if_pos rfl, if_pos (by omega), if_pos h]
      by_cases h2 : (((rd_T47 l (j : Int)).f0).size : Int) > 100
      · rw [if_pos h2]; exact ⟨_, rfl⟩
      · rw [if_neg h2]
        have ew : wrap64 ((j : Int) + 1) = ((j + 1 : Nat) : Int) := by rw [w64 (by omega) (by omega)]; omega
        rw [ew]
        clear ew
        exact ih k (j + 1) (by omega) (by omega) (by omega)
    · rw [if_neg h, fleuronalike_Pairs.j1, if_neg (by decide)]
      exact ⟨_, rfl⟩
section
variable (x0 x1 x2 : ByteArray) (x3 : List S43) (x4 x5 : Bool) (Q : List ByteArray) (au : Bool) (x8 x9 x10 : List S47)
theorem l1_some (hQ : Q.length ≤ 40) (m : Nat) : ∀ (k j : Nat), Q.length - j = m → j ≤ Q.length → m < k → ∃ b, fleuronalike_Style.l1 k (j : Int) x0 x1 x2 x3 x4 x5 Q au x8 x9 x10 = some b := by
  induction m with
  | zero =>
    intro k j hm hj hk
    obtain ⟨k, rfl⟩ : ∃ m, k = m + 1 := ⟨k - 1, by omega⟩
    rw [fleuronalike_Style.l1, if_neg (by omega)]
    exact ⟨_, rfl⟩
  | succ m ih =>
    intro k j hm hj hk
    obtain ⟨k, rfl⟩ : ∃ m, k = m + 1 := ⟨k - 1, by omega⟩
    rw [fleuronalike_Style.l1, if_pos (by omega), if_pos (by omega)]
    by_cases h : ((rdOf ByteArray.empty Q (j : Int)).size : Int) > 300
    · rw [if_pos h]; exact ⟨_, rfl⟩
    · rw [if_neg h]
      have ew : wrap64 ((j : Int) + 1) = ((j + 1 : Nat) : Int) := by rw [w64 (by omega) (by omega)]; omega
      rw [ew]
      clear ew
      exact ih k (j + 1) (by omega) (by omega) (by omega)
theorem l0_some (h3 : x3.length ≤ 40) (hQ : Q.length ≤ 40) (m : Nat) : ∀ (k j : Nat), x3.length - j = m → j ≤ x3.length → m + 50 < k → ∃ b, fleuronalike_Style.l0 k (j : Int) x0 x1 x2 x3 x4 x5 Q au x8 x9 x10 = some b := by
  induction m with
  | zero =>
    intro k j hm hj hk
    obtain ⟨k, rfl⟩ : ∃ m, k = m + 1 := ⟨k - 1, by omega⟩
    rw [fleuronalike_Style.l0, if_neg (by omega)]
    exact l1_some x0 x1 x2 x3 x4 x5 Q au x8 x9 x10 hQ Q.length k 0 (by omega) (by omega) (by omega)
  | succ m ih =>
    intro k j hm hj hk
    obtain ⟨k, rfl⟩ : ∃ m, k = m + 1 := ⟨k - 1, by omega⟩
    rw [fleuronalike_Style.l0, if_pos (by omega), if_pos (by omega)]
    by_cases h : (((rd_T43 x3 (j : Int)).f1).size : Int) > 300
    · rw [if_pos h]; exact ⟨_, rfl⟩
    rw [if_neg h]
    by_cases h : (((rd_T43 x3 (j : Int)).f2).size : Int) > 300
    · rw [if_pos h]; exact ⟨_, rfl⟩
    rw [if_neg h]
    by_cases h : (((rd_T43 x3 (j : Int)).f3).size : Int) > 100
    · rw [if_pos h]; exact ⟨_, rfl⟩
    rw [if_neg h]
    have ew : wrap64 ((j : Int) + 1) = ((j + 1 : Nat) : Int) := by rw [w64 (by omega) (by omega)]; omega
    rw [ew]
    clear ew
    exact ih k (j + 1) (by omega) (by omega) (by omega)
theorem style_some : ∃ b, fleuronalike_Style.f 300 x0 x1 x2 x3 x4 x5 Q au x8 x9 x10 = some b ∧ (b = true → Q.length ≤ 40) := by
  have ht : fleuronalike_Style.j0 300 true x0 x1 x2 x3 x4 x5 Q au x8 x9 x10 = some false := by rw [fleuronalike_Style.j0, if_pos rfl]
  have no : ∃ b, fleuronalike_Style.j0 300 true x0 x1 x2 x3 x4 x5 Q au x8 x9 x10 = some b ∧ (b = true → Q.length ≤ 40) := ⟨false, ht, fun h => by cases h⟩
  unfold fleuronalike_Style.f
  by_cases h : (x0.size : Int) > 100
  · rw [if_pos h]; exact no
  rw [if_neg h]
  by_cases h : (x1.size : Int) > 300
  · rw [if_pos h]; exact no
  rw [if_neg h]
  by_cases h : (x2.size : Int) > 100
  · rw [if_pos h]; exact no
  rw [if_neg h]
  by_cases h3 : (x3.length : Int) > 40
  · rw [if_pos h3]; exact no
  rw [if_neg h3]
  by_cases hQ : (Q.length : Int) > 40
  · rw [if_pos hQ]; exact no
  rw [if_neg hQ]
  obtain ⟨b8, h8⟩ := pairs_some x8 50 300 0 (by omega) (by omega) (by omega)
  obtain ⟨b9, h9⟩ := pairs_some x9 50 300 0 (by omega) (by omega) (by omega)
  obtain ⟨b10, h10⟩ := pairs_some x10 50 300 0 (by omega) (by omega) (by omega)
  obtain ⟨b, hb⟩ := l0_some x0 x1 x2 x3 x4 x5 Q au x8 x9 x10 (by omega) (by omega) x3.length 299 0 (by omega) (by omega) (by omega)
  cases b8 with
  | false => exact ⟨false, bind_of h8 (by rw [if_neg (by decide)]; exact ht), fun h => by cases h⟩
  | true =>
    cases b9 with
    | false => exact ⟨false, bind_of h8 (by rw [if_pos rfl]; exact bind_of h9 (by rw [if_neg (by decide)]; exact ht)), fun h => by cases h⟩
    | true =>
      cases b10 with
      | false => exact ⟨false, bind_of h8 (by rw [if_pos rfl]; exact bind_of h9 (by rw [if_pos rfl]; exact bind_of h10 ht)), fun h => by cases h⟩
      | true =>
        refine ⟨b, bind_of h8 ?_, fun _ => by omega⟩
        rw [if_pos rfl]
        refine bind_of h9 ?_
        rw [if_pos rfl]
        refine bind_of h10 ?_
        rw [show (!true) = false from rfl, fleuronalike_Style.j0, if_neg (by decide)]
        exact hb
theorem tells (d c : Int) (h1 : d ≤ 9223372036854775807) : fleuronlaw17_QuoteTells.f 300 x0 x1 x2 x3 x4 x5 Q au x8 x9 x10 d c = some true := by
  obtain ⟨b, hb, hQ⟩ := style_some x0 x1 x2 x3 x4 x5 Q au x8 x9 x10
  unfold fleuronlaw17_QuoteTells.f
  refine bind_of hb ?_
  cases b with
  | false => rw [if_neg (by decide)]; rfl
  | true =>
    have hQ := hQ rfl
    obtain ⟨t, n, ha, hc⟩ := both x0 x1 x2 x3 x4 x5 Q au x8 x9 x10 hQ 299 d c h1
    rw [if_pos rfl]
    refine bind_of ha (bind_of hc ?_)
    rw [if_pos rfl, if_pos rfl]
    refine bind_of (marks_any x0 x1 x2 x3 x4 x5 Q au x8 x9 x10 hQ) (bind_of (rmarks_any x0 x1 x2 x3 x4 x5 Q au x8 x9 x10 hQ) ?_)
    have hl := mks_length Q au hQ
    have ht : fleuronalike_Texts.f 300 (mks Q au) (mks Q au) = some true := by
      unfold fleuronalike_Texts.f
      rw [if_pos rfl]
      exact texts_same _ hl (mks Q au).length 300 0 (by omega) (by omega) (by omega)
    refine bind_of ht ?_
    rw [if_pos rfl]
    rfl
end
end Go.Proofs.Ytodcbiehocphkaa.Pure
