/- Proved: opened and closed in a row the depth is never below 0, a close at 0 tells nothing, and each close tells the mark of the open that it closes; for every input of the law. No further conditions. -/
import Derived.Test.YtodcbiehocphkaaPx5
import Derived.Test.YtodcbiehocphkaaQLib
namespace Go.Proofs.Ytodcbiehocphkaa.Pure
open Go.RowKit Go.Proofs.Ytodcbiehocphkaa.P Go.Proofs.YtodcbiehocphkaaW.PrintWords Go.Proofs.YtodcbiehocphkaaW.PrintLast Go.Proofs.YtodcbiehocphkaaW.PrintMore

theorem round4 (a : Int) : ∃ r, fleuronalike_Round.f a 4 = some r ∧ 0 ≤ r ∧ r < 4 := by
  unfold fleuronalike_Round.f
  rw [if_neg (by decide)]
  have h1 := Int.lt_tmod_of_pos a (show (0 : Int) < 4 by decide)
  have h2 := Int.tmod_lt_of_pos a (show (0 : Int) < 4 by decide)
  have e : wrap64 (Int.tmod a 4 + 4) = Int.tmod a 4 + 4 := w64 (by omega) (by omega)
  rw [e]
  have h3 := Int.tmod_lt_of_pos (Int.tmod a 4 + 4) (show (0 : Int) < 4 by decide)
  have h4 : 0 ≤ Int.tmod (Int.tmod a 4 + 4) 4 := Int.tmod_nonneg _ (by omega)
  exact ⟨_, rfl, h4, h3⟩

/-- The depth behind a mark. -/
def stepD (d k : Int) : Int := if k = 5 then d + 1 else if k = 6 then (if d > 0 then d - 1 else d) else if k = 7 then d + 1 else (if d > 0 then d - 1 else d)

theorem do_step (k : Nat) (d c : Int) (hd : 0 ≤ d) (hd1 : d ≤ 1000) (hc : 5 ≤ c) (hc1 : c ≤ 8) :
    ∃ t, quote_Do.f (k + 1) (⟨#[]⟩ : ByteArray) (⟨#[]⟩ : ByteArray) (⟨#[]⟩ : ByteArray) ([] : List S43) false false ([] : List ByteArray) false ([] : List S47) ([] : List S47) ([] : List S47) d c = some (t, stepD d c) := by
  have h : c = 5 ∨ c = 6 ∨ c = 7 ∨ c = 8 := by omega
  rcases h with rfl | rfl | rfl | rfl
  · exact ⟨_, do_open _ _ _ _ _ _ _ _ _ _ _ _ (by simp) hd (by omega)⟩
  · by_cases h : d > 0
    · refine ⟨mk [] (d - 1) 1, ?_⟩
      have e : stepD d 6 = d - 1 := by unfold stepD; rw [if_neg (by decide), if_pos rfl, if_pos h]
      rw [e]
      exact do_close _ _ _ _ _ _ _ _ _ _ _ _ (by simp) h (by omega)
    · obtain rfl : d = 0 := by omega
      exact ⟨_, do_close0 _ _ _ _ _ _ _ _ _ _ _⟩
  · exact ⟨_, do_noopen _ _ _ _ _ _ _ _ _ _ _ _ hd (by omega)⟩
  · by_cases h : d > 0
    · refine ⟨⟨#[]⟩, ?_⟩
      have e : stepD d 8 = d - 1 := by unfold stepD; rw [if_neg (by decide), if_neg (by decide), if_neg (by decide), if_pos h]
      rw [e]
      exact do_noclose _ _ _ _ _ _ _ _ _ _ _ _ h (by omega)
    · obtain rfl : d = 0 := by omega
      exact ⟨_, do_noclose0 _ _ _ _ _ _ _ _ _ _ _⟩

theorem stepD_bd (d c : Int) (hd : 0 ≤ d) : 0 ≤ stepD d c ∧ stepD d c ≤ d + 1 := by
  unfold stepD
  repeat' split
  all_goals omega

theorem depth_tells (l : List Int) (hl : l.length ≤ 100) (hk : ∀ c ∈ l, 5 ≤ c ∧ c ≤ 8) (m : Nat) :
    ∀ (k j : Nat) (d : Int), l.length - j = m → j ≤ l.length → 0 ≤ d → d ≤ j → m + 1 < k → quote_Depth.l0 k d l (l.length : Int) (j : Int) = some ((l.drop j).foldl stepD d) := by
  induction m with
  | zero =>
    intro k j d hm hj hd hd1 hk2
    obtain ⟨k, rfl⟩ : ∃ m, k = m + 1 := ⟨k - 1, by omega⟩
    have : j = l.length := by omega
    subst this
    rw [quote_Depth.l0, if_neg (by omega), List.drop_length]
    rfl
  | succ m ih =>
    intro k j d hm hj hd hd1 hk2
    obtain ⟨k, rfl⟩ : ∃ m, k = m + 2 := ⟨k - 2, by omega⟩
    have hjl : j < l.length := by omega
    have hr : rd l (j : Int) = l[j] := by unfold rd; simp [List.getD_eq_getElem?_getD, List.getElem?_eq_getElem hjl]
    have hc := hk l[j] (List.getElem_mem hjl)
    rw [quote_Depth.l0, if_pos (by omega), if_pos (by omega), if_pos (by omega), hr]
    obtain ⟨t, ht⟩ := do_step k d l[j] hd (by omega) hc.1 hc.2
    refine bind_of ht ?_
    have ew : wrap64 ((j : Int) + 1) = ((j + 1 : Nat) : Int) := by rw [w64 (by omega) (by omega)]; omega
    have hb := stepD_bd d l[j] hd
    rw [ew, List.drop_eq_getElem_cons hjl]
    exact ih (k + 1) (j + 1) (stepD d l[j]) (by omega) (by omega) hb.1 (by omega) (by omega)

/-- The marks of so many pairs: 'o' and 'c', and the number. -/
def oc (c : UInt8) (j : Int) : ByteArray := (⟨#[c]⟩ : ByteArray) ++ strOfNums [(wrap64 (48 + j)) % 256]
def pk : Nat → List ByteArray
  | 0 => []
  | n + 1 => pk n ++ [oc 111 (n : Int), oc 99 (n : Int)]
theorem pk_length : ∀ n, (pk n).length = 2 * n
  | 0 => rfl
  | n + 1 => by rw [pk, List.length_append, pk_length n]; simp; omega
theorem pk_facts : ∀ n : Fin 6, ∀ j : Fin 6, 1 ≤ n.val → mk (pk n.val) (j.val : Int) 0 = oc 111 (mn (j.val : Int) ((n.val : Int) - 1)) ∧ mk (pk n.val) (j.val : Int) 1 = oc 99 (mn (j.val : Int) ((n.val : Int) - 1)) := by
  decide +kernel
theorem oc_size : ∀ j : Fin 6, (strOfNums [(wrap64 (48 + (j.val : Int))) % 256]).size = 1 := by
  decide +kernel
theorem pk_mk (n : Nat) (h1 : 1 ≤ n) (hn : n ≤ 5) (d : Int) (hd : 0 ≤ d) : mk (pk n) d 0 = oc 111 (mn d ((n : Int) - 1)) ∧ mk (pk n) d 1 = oc 99 (mn d ((n : Int) - 1)) := by
  by_cases h : d ≤ 5
  · have := pk_facts ⟨n, by omega⟩ ⟨d.toNat, by omega⟩ h1
    simp only at this
    rw [show ((d.toNat : Nat) : Int) = d by omega] at this
    exact this
  · have := pk_facts ⟨n, by omega⟩ ⟨5, by omega⟩ h1
    simp only at this
    have hl : (pk n).length / 2 = n := by rw [pk_length]; omega
    have e1 : mn d ((n : Int) - 1) = (n : Int) - 1 := by unfold mn; rw [if_pos (by omega)]
    have e2 : mn (((5 : Nat)) : Int) ((n : Int) - 1) = (n : Int) - 1 := by
      unfold mn
      by_cases h5 : n = 5
      · subst h5; decide
      · by_cases h6 : n = 6
        · omega
        · rw [if_pos (by omega)]
    unfold mk at this ⊢
    rw [hl] at this ⊢
    rw [e1]
    rw [e2] at this
    exact this

section
variable (x0 : List Int) (n : Nat) (e0 e1 e2 : ByteArray)

theorem nil_toList : (⟨#[]⟩ : ByteArray).toList = ([] : List UInt8) := by decide +kernel
theorem sz (d : Int) (hd : 0 ≤ d) (h : d ≤ 5) : (strOfNums [(wrap64 (48 + d)) % 256]).size = 1 := by
  have := oc_size ⟨d.toNat, by omega⟩
  simp only at this
  rw [show ((d.toNat : Nat) : Int) = d by omega] at this
  exact this

theorem rounds (h1 : 1 ≤ n) (hn : n ≤ 5) (hx : x0.length ≤ 40) (m : Nat) :
    ∀ (k j : Nat) (d : Int) (l : List Int), x0.length - j = m → j ≤ x0.length → 0 ≤ d → d ≤ j → m + 60 < k → l.length = j → (∀ c ∈ l, 5 ≤ c ∧ c ≤ 8) → Aside0 (l.foldl stepD 0 = d) →
      fleuronlaw17_QuoteDepths.l1 k x0 (n : Int) d l (j : Int) e0 e1 e2 false false (pk n) false = some true := by
  induction m with
  | zero =>
    intro k j d l hm hj hd hd1 hk hl hc hf
    obtain ⟨k, rfl⟩ : ∃ m, k = m + 1 := ⟨k - 1, by omega⟩
    rw [fleuronlaw17_QuoteDepths.l1, if_neg (by omega)]
    have h := depth_tells l (by omega) hc l.length k 0 0 (by omega) (by omega) (by omega) (by omega) (by omega)
    rw [List.drop_zero, hf.out] at h
    refine bind_of h ?_
    rw [if_pos rfl]
    rfl
  | succ m ih =>
    intro k j d l hm hj hd hd1 hk hl hc hf
    obtain ⟨k, rfl⟩ : ∃ m, k = m + 2 := ⟨k - 2, by omega⟩
    have hd40 : d ≤ 40 := by omega
    have hj40 : j ≤ 40 := by omega
    rw [fleuronlaw17_QuoteDepths.l1, if_pos (by omega), if_pos (by omega)]
    obtain ⟨r, hr, hr0, hr1⟩ := round4 (rd x0 (j : Int))
    refine bind_of hr ?_
    rw [if_pos (by omega)]
    refine bind_of rfl ?_
    obtain ⟨c, hcc, hc0, hc1⟩ : ∃ c, wrap64 (5 + r) = c ∧ 5 ≤ c ∧ c ≤ 8 := ⟨5 + r, w64 (by omega) (by omega), by omega, by omega⟩
    clear hr hr0 hr1
    rw [hcc]
    clear hcc
    have ej : wrap64 ((j : Int) + 1) = ((j + 1 : Nat) : Int) := by rw [w64 (by omega) (by omega)]; omega
    have ed : wrap64 (d + 1) = d + 1 := w64 (by omega) (by omega)
    have ed' : wrap64 (d - 1) = d - 1 := w64 (by omega) (by omega)
    have en : wrap64 ((n : Int) - 1) = (n : Int) - 1 := w64 (by omega) (by omega)
    have next : ∀ d2, d2 = stepD d c → fleuronlaw17_QuoteDepths.l1 (k + 1) x0 (n : Int) d2 (l ++ [c]) ((j + 1 : Nat) : Int) e0 e1 e2 false false (pk n) false = some true := by
      intro d2 h2
      have hb := stepD_bd d c hd
      refine ih (k + 1) (j + 1) d2 (l ++ [c]) (by omega) (by omega) (by omega) (by omega) (by omega) (by rw [List.length_append]; simp; omega) (fun c2 hc2 => ?_) ⟨by rw [List.foldl_append, hf.out]; exact h2.symm⟩
      rcases List.mem_append.1 hc2 with h | h
      · exact hc c2 h
      · rw [List.mem_singleton] at h
        omega
    clear ih hc hf
    rw [ej, ed, ed', en]
    clear ej ed ed' en
    have hn0 : ∀ x : Int, 0 ≤ x → 0 ≤ mn x ((n : Int) - 1) ∧ mn x ((n : Int) - 1) ≤ 5 := by
      intro x hx
      unfold mn
      split <;> omega
    have hp := (pk_mk n h1 hn d hd).1
    have hs := sz (mn d ((n : Int) - 1)) (hn0 d hd).1 (hn0 d hd).2
    have hq : (pk n).length < 1000000 := by rw [pk_length]; omega
    have lim : 1 + 1 ≤ 9223372036854775807 := by decide
    have hrr : c = 5 ∨ c = 6 ∨ c = 7 ∨ c = 8 := by omega
    rcases hrr with rfl | rfl | rfl | rfl
    · refine bind_of (do_open _ _ _ _ _ _ _ _ _ _ _ _ hq hd (by omega)) (bind_of rfl (bind_of rfl ?_))
      refine (if_pos (by rfl)).trans ?_
      refine (if_pos (by rw [hs]; exact lim)).trans ?_
      refine (if_pos (by show (mk (pk n) d 0).toList = _; rw [hp, oc])).trans ?_
      refine (if_pos (by rfl)).trans ?_
      exact next _ rfl
    · by_cases h : d > 0
      · refine bind_of (do_close _ _ _ _ _ _ _ _ _ _ _ _ hq h (by omega)) (bind_of rfl (bind_of rfl ?_))
        have em : mx (d - 1) 0 = d - 1 := mx0 (by omega)
        have hp2 := (pk_mk n h1 hn (d - 1) (by omega)).2
        have hs2 := sz (mn (d - 1) ((n : Int) - 1)) (hn0 (d - 1) (by omega)).1 (hn0 (d - 1) (by omega)).2
        rw [em]
        refine (if_neg (by decide)).trans ?_
        refine (if_pos (by rfl)).trans ?_
        refine (if_pos h).trans ?_
        refine (if_pos (by rw [hs2]; exact lim)).trans ?_
        refine (if_pos (by show (mk (pk n) (d - 1) 1).toList = _; rw [hp2, oc])).trans ?_
        refine (if_pos (by rfl)).trans ?_
        exact next _ (by unfold stepD; rw [if_neg (by decide), if_pos rfl, if_pos h])
      · obtain rfl : d = 0 := by omega
        refine bind_of (do_close0 _ _ _ _ _ _ _ _ _ _ _) (bind_of rfl (bind_of rfl ?_))
        refine (if_neg (by decide)).trans ?_
        refine (if_pos (by rfl)).trans ?_
        refine (if_neg (by decide)).trans ?_
        refine (if_pos nil_toList).trans ?_
        refine (if_pos (by rfl)).trans ?_
        exact next _ rfl
    · refine bind_of (do_noopen _ _ _ _ _ _ _ _ _ _ _ _ hd (by omega)) (bind_of rfl (bind_of rfl ?_))
      refine (if_neg (by decide)).trans ?_
      refine (if_neg (by decide)).trans ?_
      refine (if_pos (by rfl)).trans ?_
      refine (if_pos nil_toList).trans ?_
      refine (if_pos (by rfl)).trans ?_
      exact next _ rfl
    · by_cases h : d > 0
      · refine bind_of (do_noclose _ _ _ _ _ _ _ _ _ _ _ _ h (by omega)) (bind_of rfl (bind_of rfl ?_))
        have em : mx (d - 1) 0 = d - 1 := mx0 (by omega)
        rw [em]
        refine (if_neg (by decide)).trans ?_
        refine (if_neg (by decide)).trans ?_
        refine (if_neg (by decide)).trans ?_
        refine (if_pos (by rfl)).trans ?_
        refine (if_pos nil_toList).trans ?_
        refine (if_pos (by rfl)).trans ?_
        exact next _ (by unfold stepD; rw [if_neg (by decide), if_neg (by decide), if_neg (by decide), if_pos h])
      · obtain rfl : d = 0 := by omega
        refine bind_of (do_noclose0 _ _ _ _ _ _ _ _ _ _ _) (bind_of rfl (bind_of rfl ?_))
        have em : mx ((0 : Int) - 1) 0 = 0 := by decide
        rw [em]
        refine (if_neg (by decide)).trans ?_
        refine (if_neg (by decide)).trans ?_
        refine (if_neg (by decide)).trans ?_
        refine (if_pos (by rfl)).trans ?_
        refine (if_pos nil_toList).trans ?_
        refine (if_pos (by rfl)).trans ?_
        exact next _ rfl

theorem made2 (h1 : 1 ≤ n) (hn : n ≤ 5) (hx : x0.length ≤ 40) (d : Nat) :
    ∀ (k i : Nat), n - i = d → i ≤ n → d + 120 < k → fleuronlaw17_QuoteDepths.l0 k x0 (n : Int) (i : Int) e0 e1 e2 false false (pk i) false = some true := by
  induction d with
  | zero =>
    intro k i hd hi hk
    obtain ⟨k, rfl⟩ : ∃ m, k = m + 1 := ⟨k - 1, by omega⟩
    have : i = n := by omega
    subst this
    rw [fleuronlaw17_QuoteDepths.l0, if_neg (by omega)]
    exact rounds x0 i e0 e1 e2 h1 hn hx x0.length k 0 0 [] (by omega) (by omega) (by omega) (by omega) (by omega) rfl (fun c hc => absurd hc (by simp)) ⟨rfl⟩
  | succ d ih =>
    intro k i hd hi hk
    obtain ⟨k, rfl⟩ : ∃ m, k = m + 1 := ⟨k - 1, by omega⟩
    have hs := sz (i : Int) (by omega) (by omega)
    rw [fleuronlaw17_QuoteDepths.l0, if_pos (by omega)]
    refine bind_of rfl ?_
    rw [if_pos (by rw [hs]; decide)]
    refine bind_of rfl ?_
    rw [if_pos (by rw [hs]; decide)]
    refine bind_of rfl ?_
    rw [if_pos (by rw [pk_length]; simp; omega)]
    have ew : wrap64 ((i : Int) + 1) = ((i + 1 : Nat) : Int) := by rw [w64 (by omega) (by omega)]; omega
    rw [ew]
    exact ih k (i + 1) (by omega) (by omega) (by omega)
end

theorem QuoteDepths : fleuronlaw17_QuoteDepths.Pure := by
  intro l a _ _ _ _
  refine ⟨200, ?_⟩
  unfold fleuronlaw17_QuoteDepths.f
  have ht : fleuronlaw17_QuoteDepths.j0 200 l a true = some true := by rw [fleuronlaw17_QuoteDepths.j0, if_pos rfl]; rfl
  by_cases h1 : (l.length : Int) > 40
  · rw [if_pos h1]; exact ht
  rw [if_neg h1]
  by_cases h2 : a < 1
  · rw [if_pos h2]; exact ht
  rw [if_neg h2]
  by_cases h3 : a > 5
  · rw [decide_eq_true h3]; exact ht
  rw [decide_eq_false h3, fleuronlaw17_QuoteDepths.j0, if_neg (by decide)]
  have h := made2 l a.toNat ⟨#[]⟩ ⟨#[]⟩ ⟨#[]⟩ (by omega) (by omega) (by omega) a.toNat 199 0 (by omega) (by omega) (by omega)
  rw [show ((a.toNat : Nat) : Int) = a by omega] at h
  exact h

end Go.Proofs.Ytodcbiehocphkaa.Pure
