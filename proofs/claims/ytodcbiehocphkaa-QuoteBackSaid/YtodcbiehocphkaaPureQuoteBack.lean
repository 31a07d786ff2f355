/- Proved: as many closes as there were opens come back to where they began, with the same marks in the other order; for every input of the law. No further conditions. -/
import Derived.Test.YtodcbiehocphkaaPx7
import Derived.Test.YtodcbiehocphkaaQLib
namespace Go.Proofs.Ytodcbiehocphkaa.Pure
open Go.RowKit Go.Proofs.Ytodcbiehocphkaa.P Go.Proofs.YtodcbiehocphkaaW.PrintWords Go.Proofs.YtodcbiehocphkaaW.PrintLast Go.Proofs.YtodcbiehocphkaaW.PrintMore

/-- The marks of so many pairs: each pair the same letter twice. -/
def bk : Nat → List ByteArray
  | 0 => []
  | n + 1 => bk n ++ [strOfNums [(wrap64 (97 + (n : Int))) % 256], strOfNums [(wrap64 (97 + (n : Int))) % 256]]

theorem bk_length : ∀ n, (bk n).length = 2 * n
  | 0 => rfl
  | n + 1 => by rw [bk, List.length_append, bk_length n]; simp; omega

/-- The marks' emptiness, and that a pair's marks are alike, tried at all six sizes. -/
theorem bk_facts : ∀ n : Fin 7, ∀ j : Fin 7, (mk (bk n.val) (j.val : Int) 0 = mk (bk n.val) (j.val : Int) 1) ∧ ((mk (bk n.val) (j.val : Int) 0).toList == ([] : List UInt8)) = ((n.val : Int) == 0) := by
  decide +kernel

theorem mk_cap (n : Nat) (hn : n ≤ 6) (d w : Int) (hd : 0 ≤ d) : ∃ j : Nat, j ≤ 6 ∧ ∀ w, mk (bk n) d w = mk (bk n) (j : Int) w := by
  by_cases h : d ≤ 6
  · exact ⟨d.toNat, by omega, fun w => by rw [show ((d.toNat : Nat) : Int) = d by omega]⟩
  · refine ⟨6, by omega, fun w => ?_⟩
    have hl : (bk n).length / 2 = n := by rw [bk_length]; omega
    unfold mk
    rw [hl]
    have e1 : mn d ((n : Int) - 1) = (n : Int) - 1 := by unfold mn; rw [if_pos (by omega)]
    have e2 : mn (((6 : Nat)) : Int) ((n : Int) - 1) = (n : Int) - 1 := by unfold mn; rw [if_pos (by omega)]
    rw [e1, e2]

theorem mk_same (n : Nat) (hn : n ≤ 6) (d : Int) (hd : 0 ≤ d) : mk (bk n) d 0 = mk (bk n) d 1 ∧ ((mk (bk n) d 0).toList == ([] : List UInt8)) = ((n : Int) == 0) := by
  obtain ⟨j, hj, h⟩ := mk_cap n hn d 0 hd
  rw [h 0, h 1]
  exact bk_facts ⟨n, by omega⟩ ⟨j, by omega⟩

section
variable (x0 x1 : Int) (n : Nat) (e0 e1 e2 : ByteArray)

/-- Down again. -/
theorem down (hn : n ≤ 6) (hx0 : x0 ≤ 50) (hx1 : 0 ≤ x1) (hx1' : x1 ≤ 50) (L : List ByteArray) (hL : ∀ i : Nat, i < L.length → L.getD i ByteArray.empty = mk (bk n) (x1 + i) 0) (hl : (L.length : Int) = x0) (d : Nat) :
    ∀ (k : Nat) (i : Int), i = (d : Int) - 1 → i < x0 → d + 1 < k → fleuronlaw17_QuoteBack.l2 k x1 (x1 + i + 1) L i e0 e1 e2 false false (bk n) false = some true := by
  induction d with
  | zero =>
    intro k i hi hi2 hk
    obtain ⟨k, rfl⟩ : ∃ m, k = m + 1 := ⟨k - 1, by omega⟩
    rw [fleuronlaw17_QuoteBack.l2, if_neg (by omega), if_pos (by omega)]
    rfl
  | succ d ih =>
    intro k i hi hi2 hk
    obtain ⟨k, rfl⟩ : ∃ m, k = m + 2 := ⟨k - 2, by omega⟩
    have hi3 : i = (d : Int) := by omega
    rw [fleuronlaw17_QuoteBack.l2, if_pos (by omega)]
    refine bind_of (do_close _ _ _ _ _ _ _ _ _ _ _ k (by rw [bk_length]; omega) (by omega) (by omega)) ?_
    have ew : wrap64 (x1 + i + 1 - 1) = x1 + i + 1 - 1 := w64 (by omega) (by omega)
    have ew2 : wrap64 (i - 1) = i - 1 := w64 (by omega) (by omega)
    have em : mk (bk n) (x1 + i + 1 - 1) 1 = rdOf ByteArray.empty L i := by
      have h1 := (mk_same n hn (x1 + i + 1 - 1) (by omega)).1
      rw [← h1]
      unfold rdOf
      rw [hL i.toNat (by omega)]
      congr 1
      omega
    rw [if_pos (by rw [ew]), if_pos (by omega), if_pos (by omega), if_pos (by rw [em])]
    rw [ew2]
    have h := ih (k + 1) (i - 1) (by omega) (by omega) (by omega)
    rw [show x1 + (i - 1) + 1 = x1 + i + 1 - 1 by omega] at h
    exact h

/-- Up. -/
theorem up (hn : n ≤ 6) (hx0 : 0 ≤ x0) (hx0' : x0 ≤ 50) (hx1 : 0 ≤ x1) (hx1' : x1 ≤ 50) (d : Nat) :
    ∀ (k : Nat) (i : Int) (L : List ByteArray), 0 ≤ i → x0 - i = (d : Int) → d + 60 < k → (L.length : Int) = i → (∀ j : Nat, j < L.length → L.getD j ByteArray.empty = mk (bk n) (x1 + j) 0) →
      fleuronlaw17_QuoteBack.l1 k x0 x1 (n : Int) (x1 + i) L i e0 e1 e2 false false (bk n) false = some true := by
  induction d with
  | zero =>
    intro k i L hi hd hk hl hL
    obtain ⟨k, rfl⟩ : ∃ m, k = m + 1 := ⟨k - 1, by omega⟩
    rw [fleuronlaw17_QuoteBack.l1, if_neg (by omega)]
    have ew : wrap64 (x0 - 1) = x0 - 1 := w64 (by omega) (by omega)
    rw [ew]
    have h := down x0 x1 n e0 e1 e2 hn hx0' hx1 hx1' L hL (by omega) x0.toNat k (x0 - 1) (by omega) (by omega) (by omega)
    rw [show x1 + (x0 - 1) + 1 = x1 + i by omega] at h
    exact h
  | succ d ih =>
    intro k i L hi hd hk hl hL
    obtain ⟨k, rfl⟩ : ∃ m, k = m + 1 := ⟨k - 1, by omega⟩
    rw [fleuronlaw17_QuoteBack.l1, if_pos (by omega)]
    refine bind_of (do_open _ _ _ _ _ _ _ _ _ _ _ k (by rw [bk_length]; omega) (by omega) (by omega)) ?_
    have ew : wrap64 (x1 + i + 1) = x1 + i + 1 := w64 (by omega) (by omega)
    have ew2 : wrap64 (i + 1) = i + 1 := w64 (by omega) (by omega)
    have hs := (mk_same n hn (x1 + i) (by omega)).2
    rw [if_pos (by rw [ew]), if_neg (by rw [hs]; simp), if_pos (by omega), ew2]
    have h := ih k (i + 1) (L ++ [mk (bk n) (x1 + i) 0]) (by omega) (by omega) (by omega) (by rw [List.length_append]; simp; omega) (fun j hj => by
      rw [List.length_append, List.length_singleton] at hj
      by_cases hj2 : j < L.length
      · rw [← hL j hj2, List.getD_eq_getElem?_getD, List.getD_eq_getElem?_getD, List.getElem?_append_left hj2]
      · have : j = L.length := by omega
        subst this
        rw [List.getD_eq_getElem?_getD, List.getElem?_append_right (Nat.le_refl _)]
        simp
        rw [hl])
    rw [show x1 + (i + 1) = x1 + i + 1 by omega] at h
    exact h

/-- The marks are made. -/
theorem made (m : Nat) (hm : m ≤ 6) (hx0 : 0 ≤ x0) (hx0' : x0 ≤ 50) (hx1 : 0 ≤ x1) (hx1' : x1 ≤ 50) (d : Nat) :
    ∀ (k i : Nat), m - i = d → i ≤ m → d + 120 < k → fleuronlaw17_QuoteBack.l0 k x0 x1 (m : Int) (i : Int) e0 e1 e2 false false (bk i) false = some true := by
  induction d with
  | zero =>
    intro k i hd hi hk
    obtain ⟨k, rfl⟩ : ∃ m, k = m + 1 := ⟨k - 1, by omega⟩
    have : i = m := by omega
    subst this
    rw [fleuronlaw17_QuoteBack.l0, if_neg (by omega)]
    have h := up x0 x1 i e0 e1 e2 hm hx0 hx0' hx1 hx1' x0.toNat k 0 [] (by omega) (by omega) (by omega) rfl (fun j hj => absurd hj (by simp))
    rw [Int.add_zero] at h
    exact h
  | succ d ih =>
    intro k i hd hi hk
    obtain ⟨k, rfl⟩ : ∃ m, k = m + 1 := ⟨k - 1, by omega⟩
    rw [fleuronlaw17_QuoteBack.l0, if_pos (by omega)]
    refine bind_of rfl (bind_of rfl ?_)
    rw [if_pos (by rw [bk_length]; simp; omega)]
    have ew : wrap64 ((i : Int) + 1) = ((i + 1 : Nat) : Int) := by rw [w64 (by omega) (by omega)]; omega
    rw [ew]
    exact ih k (i + 1) (by omega) (by omega) (by omega)
end

theorem QuoteBack : fleuronlaw17_QuoteBack.Pure := by
  intro a b c _ _ _
  refine ⟨200, ?_⟩
  unfold fleuronlaw17_QuoteBack.f
  have ht : fleuronlaw17_QuoteBack.j0 200 a b c true = some true := by rw [fleuronlaw17_QuoteBack.j0, if_pos rfl]; rfl
  by_cases h1 : a < 0
  · rw [if_pos h1]; exact ht
  rw [if_neg h1]
  by_cases h2 : a > 50
  · rw [if_pos h2]; exact ht
  rw [if_neg h2]
  by_cases h3 : b < 0
  · rw [if_pos h3]; exact ht
  rw [if_neg h3]
  by_cases h4 : b > 50
  · rw [if_pos h4]; exact ht
  rw [if_neg h4]
  by_cases h5 : c < 0
  · rw [if_pos h5]; exact ht
  rw [if_neg h5]
  by_cases h6 : c > 6
  · rw [decide_eq_true h6]; exact ht
  rw [decide_eq_false h6, fleuronlaw17_QuoteBack.j0, if_neg (by decide)]
  have h := made a b ⟨#[]⟩ ⟨#[]⟩ ⟨#[]⟩ c.toNat (by omega) (by omega) (by omega) (by omega) (by omega) c.toNat 199 0 (by omega) (by omega) (by omega)
  rw [show ((c.toNat : Nat) : Int) = c by omega] at h
  exact h

end Go.Proofs.Ytodcbiehocphkaa.Pure
