/- Lemmas on the printed functions of quote: what quote.Do answers, for any list of marks.
   No conditions of the program's. -/
import Derived.Test.YtodcbiehocphkaaPx3
namespace Go.Proofs.Ytodcbiehocphkaa.Pure
open Go.RowKit Go.Proofs.Ytodcbiehocphkaa.P Go.Proofs.YtodcbiehocphkaaW.PrintWords Go.Proofs.YtodcbiehocphkaaW.PrintLast Go.Proofs.YtodcbiehocphkaaW.PrintMore

theorem w64 {x : Int} (h0 : -9223372036854775808 ≤ x) (h1 : x ≤ 9223372036854775807) : wrap64 x = x := by
  unfold wrap64
  omega

theorem bind_of {α β : Type} {X : Option α} {f : α → Option β} {a : α} {r : Option β} (hX : X = some a) (h : f a = r) : X.bind f = r := by
  rw [hX]; exact h
/-- The mark at a depth. -/
def mk (Q : List ByteArray) (d w : Int) : ByteArray := if Q.length / 2 = 0 then (⟨#[]⟩ : ByteArray) else rdOf ByteArray.empty Q (2 * (mn d ((Q.length / 2 : Nat) - 1)) + w)

theorem marks_tells (x0 x1 x2 : ByteArray) (x3 : List S43) (x4 x5 : Bool) (Q : List ByteArray) (x8 x9 x10 : List S47) (hQ : Q.length < 1000000) :
    quote_Marks.f x0 x1 x2 x3 x4 x5 Q false x8 x9 x10 = some Q := by
  unfold quote_Marks.f slices_Clone_string_string.f
  rw [if_neg (by decide)]
  refine bind_of (bind_of rfl ?_) rfl
  rw [if_pos (by simp; omega)]
  simp
theorem mark_tells (x0 x1 x2 : ByteArray) (x3 : List S43) (x4 x5 : Bool) (Q : List ByteArray) (x8 x9 x10 : List S47) (d w : Int) (hQ : Q.length < 1000000) (hd : 0 ≤ d) (hw0 : 0 ≤ w) (hw1 : w ≤ 1) :
    quote_mark.f x0 x1 x2 x3 x4 x5 Q false x8 x9 x10 d w = some (mk Q d w) := by
  unfold quote_mark.f
  refine bind_of (marks_tells x0 x1 x2 x3 x4 x5 Q x8 x9 x10 hQ) ?_
  have e1 : wrap64 ((Q.length : Int) / 2) = ((Q.length / 2 : Nat) : Int) := by rw [w64 (by omega) (by omega)]; omega
  rw [e1]
  unfold mk
  by_cases h : Q.length / 2 = 0
  · rw [if_pos (by omega), if_pos h]
  · rw [if_neg (by omega), if_neg h]
    have e2 : wrap64 (((Q.length / 2 : Nat) : Int) - 1) = ((Q.length / 2 : Nat) : Int) - 1 := w64 (by omega) (by omega)
    rw [e2]
    have hn0 : 0 ≤ mn d (((Q.length / 2 : Nat) : Int) - 1) := by unfold mn; split <;> omega
    have hn1 : mn d (((Q.length / 2 : Nat) : Int) - 1) ≤ ((Q.length / 2 : Nat) : Int) - 1 := by unfold mn; split <;> omega
    have e3 : wrap64 (2 * mn d (((Q.length / 2 : Nat) : Int) - 1)) = 2 * mn d (((Q.length / 2 : Nat) : Int) - 1) := w64 (by omega) (by omega)
    rw [e3]
    have e4 : wrap64 (2 * mn d (((Q.length / 2 : Nat) : Int) - 1) + w) = 2 * mn d (((Q.length / 2 : Nat) : Int) - 1) + w := w64 (by omega) (by omega)
    rw [e4, if_pos (by omega), if_pos (by omega)]

theorem mx0 {d : Int} (h : 0 ≤ d) : mx d 0 = d := by unfold mx; rw [if_neg (by omega)]

section
variable (x0 x1 x2 : ByteArray) (x3 : List S43) (x4 x5 : Bool) (Q : List ByteArray) (x8 x9 x10 : List S47) (d : Int)
theorem do_open (k : Nat) (hQ : Q.length < 1000000) (hd : 0 ≤ d) (hd1 : d ≤ 1000000) :
    quote_Do.f k x0 x1 x2 x3 x4 x5 Q false x8 x9 x10 d 5 = some (mk Q d 0, d + 1) := by
  unfold quote_Do.f
  rw [if_pos rfl, mx0 hd]
  refine bind_of (mark_tells _ _ _ _ _ _ _ _ _ _ _ _ hQ hd (by omega) (by omega)) ?_
  have : mn d 2147483646 = d := by unfold mn; rw [if_neg (by omega)]
  rw [this]
theorem do_noopen (k : Nat) (hd : 0 ≤ d) (hd1 : d ≤ 1000000) :
    quote_Do.f k x0 x1 x2 x3 x4 x5 Q false x8 x9 x10 d 7 = some (⟨#[]⟩, d + 1) := by
  unfold quote_Do.f
  rw [if_neg (by decide), if_pos rfl, mx0 hd]
  have : mn d 2147483646 = d := by unfold mn; rw [if_neg (by omega)]
  rw [this]
theorem do_close (k : Nat) (hQ : Q.length < 1000000) (hd : 0 < d) (hd1 : d ≤ 1000000) :
    quote_Do.f (k + 1) x0 x1 x2 x3 x4 x5 Q false x8 x9 x10 d 6 = some (mk Q (d - 1) 1, d - 1) := by
  unfold quote_Do.f
  rw [if_neg (by decide), if_neg (by decide), if_pos rfl, mx0 (by omega)]
  rw [decide_eq_true (by omega : d > 0)]
  rw [quote_Do.j0, if_pos rfl, w64 (by omega) (by omega)]
  exact bind_of (mark_tells _ _ _ _ _ _ _ _ _ _ _ _ hQ (by omega) (by omega) (by omega)) rfl
theorem do_close0 (k : Nat) :
    quote_Do.f (k + 1) x0 x1 x2 x3 x4 x5 Q false x8 x9 x10 0 6 = some (⟨#[]⟩, 0) := by
  unfold quote_Do.f
  rw [if_neg (by decide), if_neg (by decide), if_pos rfl, mx0 (by omega)]
  rw [quote_Do.j0, if_neg (by decide), if_neg (by decide)]
theorem do_noclose (k : Nat) (hd : 0 < d) (hd1 : d ≤ 1000000) :
    quote_Do.f (k + 1) x0 x1 x2 x3 x4 x5 Q false x8 x9 x10 d 8 = some (⟨#[]⟩, d - 1) := by
  unfold quote_Do.f
  rw [if_neg (by decide), if_neg (by decide), if_neg (by decide), mx0 (by omega)]
  rw [quote_Do.j0, if_neg (by decide), if_pos rfl, if_pos (by omega), w64 (by omega) (by omega)]
theorem do_noclose0 (k : Nat) :
    quote_Do.f (k + 1) x0 x1 x2 x3 x4 x5 Q false x8 x9 x10 0 8 = some (⟨#[]⟩, 0) := by
  unfold quote_Do.f
  rw [if_neg (by decide), if_neg (by decide), if_neg (by decide), mx0 (by omega)]
  rw [quote_Do.j0, if_neg (by decide), if_pos rfl, if_neg (by decide)]
end
end Go.Proofs.Ytodcbiehocphkaa.Pure
