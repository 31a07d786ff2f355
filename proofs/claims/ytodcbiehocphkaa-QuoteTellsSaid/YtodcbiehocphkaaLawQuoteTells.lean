/- Proved: the given statement QuoteTellsSaid: of any style, depth and kind quote.Do, quote.Marks answer as the reference does; the arguments read as they did. No further conditions. -/
import Derived.Test.YtodcbiehocphkaaRows
import Derived.Test.YtodcbiehocphkaaPx4
import Derived.Test.YtodcbiehocphkaaPureQuoteTells
import Derived.Test.YtodcbiehocphkaaOpenK
import Derived.WalkKit
import Derived.ProofKit
import Derived.OpenShut
import Derived.ShutString
import Derived.ChangeOld
import Derived.Below
import Derived.SizedLaws
namespace Go.Proofs.Ytodcbiehocphkaa.quoteTells
open Go.ChangeShapes Go.WideShapes Go.ChangeAt Go.RowKit
open Go.ChangeMaps (open_string shut_string)
open Go.Proofs.Ytodcbiehocphkaa.OpenK Go.Proofs.YtodcbiehocphkaaW.PrintWords
open Go.Proofs.Ytodcbiehocphkaa.P
set_option linter.unusedVariables false
theorem own : ownKnob Try.prog.godebug = none := by kernel_rfl
theorem laidOut : laidOutB Try.prog = true := by kernel_rfl
theorem opn43 : Opn Try.prog k43 43 := by
  unfold k43
  refine opn_iso _ (fun y => ⟨⟨y.1, y.2.1, y.2.2.1, y.2.2.2⟩, rfl⟩) ?_
  exact opn_struct Try.underlying43 (by kernel_rfl) (opnF_cons rfl (by kernel_rfl) (opn_int Try.underlying3) (opnF_cons rfl (by kernel_rfl) (opn_string Try.underlying9) (opnF_cons rfl (by kernel_rfl) (opn_string Try.underlying9) (opnF_one rfl (by kernel_rfl) (opn_string Try.underlying9)))))
theorem opn47 : Opn Try.prog k47 47 := by
  unfold k47
  refine opn_iso _ (fun y => ⟨⟨y.1, y.2.1, y.2.2.1, y.2.2.2⟩, rfl⟩) ?_
  exact opn_struct Try.underlying47 (by kernel_rfl) (opnF_cons rfl (by kernel_rfl) (opn_string Try.underlying9) (opnF_cons rfl (by kernel_rfl) (opn_int Try.underlying3) (opnF_cons rfl (by kernel_rfl) (opn_bool Try.underlying4) (opnF_one rfl (by kernel_rfl) (opn_bool Try.underlying4)))))
/-- A style's cells. -/
def k26 := Kd.pair Kd.string (Kd.pair Kd.string (Kd.pair Kd.string (Kd.pair (Kd.slice 43 k43) (Kd.pair Kd.bool (Kd.pair Kd.bool (Kd.pair (Kd.slice 9 Kd.string) (Kd.pair Kd.bool (Kd.pair (Kd.slice 47 k47) (Kd.pair (Kd.slice 47 k47) (Kd.slice 47 k47))))))))))
theorem opn26 : Opn Try.prog k26 26 :=
  opn_struct Try.underlying26 (by kernel_rfl) (opnF_cons rfl (by kernel_rfl) (opn_string Try.underlying9) (opnF_cons rfl (by kernel_rfl) (opn_string Try.underlying9) (opnF_cons rfl (by kernel_rfl) (opn_string Try.underlying9)
    (opnF_cons rfl (by kernel_rfl) (opn_slice Try.underlying22 opn43 (by kernel_rfl)) (opnF_cons rfl (by kernel_rfl) (opn_bool Try.underlying4) (opnF_cons rfl (by kernel_rfl) (opn_bool Try.underlying4)
      (opnF_cons rfl (by kernel_rfl) (opn_slice Try.underlying23 (opn_string Try.underlying9) (by kernel_rfl)) (opnF_cons rfl (by kernel_rfl) (opn_bool Try.underlying4) (opnF_cons rfl (by kernel_rfl) (opn_slice Try.underlying24 opn47 (by kernel_rfl)) (opnF_cons rfl (by kernel_rfl) (opn_slice Try.underlying24 opn47 (by kernel_rfl)) (opnF_one rfl (by kernel_rfl) (opn_slice Try.underlying24 opn47 (by kernel_rfl)))))))))))))
theorem open26 {w : World} {y} {cs : List Value} (h : k26.K w y cs) :
    ∃ (a0 a1 a2 : ByteArray) (A3 : Option Addr) (c3 : Nat) (l3 : List S43) (a4 a5 : Bool) (A6 : Option Addr) (c6 : Nat) (l6 : List ByteArray) (a7 : Bool) (A8 : Option Addr) (c8 : Nat) (l8 : List S47) (A9 : Option Addr) (c9 : Nat) (l9 : List S47) (A10 : Option Addr) (c10 : Nat) (l10 : List S47),
      cs = [.string a0, .string a1, .string a2, .slice A3 l3.length c3, .bool a4, .bool a5, .slice A6 l6.length c6, .bool a7, .slice A8 l8.length c8, .slice A9 l9.length c9, .slice A10 l10.length c10] ∧
      Kd.C k43 w A3 l3.length l3 ∧ l3.length ≤ c3 ∧ Kd.C Kd.string w A6 l6.length l6 ∧ l6.length ≤ c6 ∧ Kd.C k47 w A8 l8.length l8 ∧ l8.length ≤ c8 ∧ Kd.C k47 w A9 l9.length l9 ∧ l9.length ≤ c9 ∧ Kd.C k47 w A10 l10.length l10 ∧ l10.length ≤ c10 := by
  obtain ⟨_, _, rfl, rfl, ⟨_, _, rfl, rfl, ⟨_, _, rfl, rfl, ⟨_, _, rfl, ⟨A3, c3, rfl, h3, g3⟩, ⟨_, _, rfl, rfl, ⟨_, _, rfl, rfl, ⟨_, _, rfl, ⟨A6, c6, rfl, h6, g6⟩, ⟨_, _, rfl, rfl, ⟨_, _, rfl, ⟨A8, c8, rfl, h8, g8⟩, ⟨_, _, rfl, ⟨A9, c9, rfl, h9, g9⟩, ⟨A10, c10, rfl, h10, g10⟩⟩⟩⟩⟩⟩⟩⟩⟩⟩⟩ := h
  exact ⟨_, _, _, A3, c3, _, _, _, A6, c6, _, _, A8, c8, _, A9, c9, _, A10, c10, _, rfl, g3, h3, g6, h6, g8, h8, g9, h9, g10, h10⟩
set_option maxRecDepth 100000 in
theorem lifted (os : Os) (started : os.Started) (H : Type) (enc : TypeId × Value → H) :
    ReturnsInHanded {} Try.checked os 3 .any (Rows.quoteTellsSpec.pre6 enc Try.prog Try.f3 Rows.quoteTellsRow.domain false) (Rows.quoteTellsSpec.post enc Try.prog Try.f3 false true false false) := by
  refine returnsInHanded_of_change_sized (C := Try.checked) own started (by kernel_rfl) Try.func3
    (ChangeSpec.witness6 (enc := enc) (C := Try.checked) false ⟨#[], #[.agg #[.string ByteArray.empty, .string ByteArray.empty, .string ByteArray.empty, .slice none 0 0, .bool false, .bool false, .slice none 0 0, .bool false, .slice none 0 0, .slice none 0 0, .slice none 0 0], .int .i64 0, .int .i64 0], []⟩ 8 (by kernel_rfl) (by kernel_rfl) (by kernel_rfl) (by kernel_rfl)) ?_
  intro W base args ds gs before hval0 hW hcnd hsz0 _
  have hsz : (DataW.weightsEach Try.prog (Try.f3.params.toList ++ Rows.quoteTellsSpec.plain.varTypes Try.prog) (ds ++ gs)).all (· ≤ reachBytes) = true := hsz0
  have hval : ∀ (j : Nat) t v, Try.f3.params[j]? = some t → args[j]? = some v → Value.okWide Try.prog W .any base t v := hval0
  have hW' := hW
  obtain ⟨p, q, hA0, hV, rfl, hfz, hnd⟩ := hW
  have hA : DataW.TrodAll enc Try.prog W 0 (fun _ => true) true Try.f3.params.toList args.toList ds p := hA0
  rw [Try.params3] at hA hval hsz
  obtain ⟨v0, vs0, d0, ds0, p0, q0, hargs, rfl, rfl, h0, r0⟩ := trodAll_cons hA
  obtain ⟨v1, vs1, d1, ds1, p1, q1, rfl, rfl, rfl, h1, r1⟩ := trodAll_cons r0
  obtain ⟨v2, vs2, d2, ds2, p2, q2, rfl, rfl, rfl, h2, r2⟩ := trodAll_cons r1
  obtain ⟨rfl, rfl, rfl⟩ := trodAll_nil r2
  obtain rfl : args = #[v0, v1, v2] := by cases args; simp_all
  obtain ⟨rfl, rfl⟩ := trodVars_none hV
  obtain ⟨cs0, rfl, hcs0⟩ := okWide_struct Try.underlying26 (hval 0 26 v0 rfl rfl)
  have k0 := h0
  have lt0 : ∀ x ∈ p0, x.block < W.heap.size := by obtain ⟨m, hm⟩ := k0; exact DataW.trod_lt m _ _ _ hm
  obtain ⟨a1, rfl, rfl, rfl, w1⟩ := open_int Try.underlying3 (hval 1 3 v1 rfl rfl) h1
  obtain ⟨a2, rfl, rfl, rfl, w2⟩ := open_int Try.underlying3 (hval 2 3 v2 rfl rfl) h2
  obtain ⟨y, hy⟩ : ∃ y, k26.K W y cs0.toList := by
    obtain ⟨m, hm⟩ := h0
    exact opn26 _ _ _ _ _ _ _ _ _ hm
  obtain ⟨s0, s1, s2, A3, c3, l3, s4, s5, A6, c6, l6, s7, A8, c8, l8, A9, c9, l9, A10, c10, l10, hcs, g3, e3, g6, e6, g8, e8, g9, e9, g10, e10⟩ := open26 hy
  obtain rfl : cs0 = #[.string s0, .string s1, .string s2, .slice A3 l3.length c3, .bool s4, .bool s5, .slice A6 l6.length c6, .bool s7, .slice A8 l8.length c8, .slice A9 l9.length c9, .slice A10 l10.length c10] := by cases cs0; simp_all
  have hd1 : a1 ≤ 9223372036854775807 := by
    have := w1
    simp [Lit.wf, IntKind.min, IntKind.max, IntKind.bits, IntKind.signed] at this
    omega
  have hf := Pure.tells s0 s1 s2 l3 s4 s5 l6 s7 l8 l9 l10 a1 a2 hd1
  clear hA0 hval0 hsz0 hsz hy hcs hd1
  refine (fleuronlaw17_QuoteTells.calls 300 s0 s1 s2 A3 c3 l3 s4 s5 A6 c6 l6 s7 A8 c8 l8 A9 c9 l9 A10 c10 l10 a1 a2 true W g3 e3 g6 e6 g8 e8 g9 e9 g10 e10 hf rfl).mono fun e W' ⟨he, bel⟩ => ?_
  subst he
  exact ⟨_, rfl, _, _, _, [], _, [], hW', trodAll_mk1 (shut_bool Try.underlying4 _), (trodAll_cons_mk (Below.trod laidOut (by kernel_rfl) (of_decide_eq_true (by kernel_rfl)) k0 bel lt0) (trodAll_cons_mk (shut_int Try.underlying3 w1) (trodAll_cons_mk (shut_int Try.underlying3 w2) trodAll_mk0))), rfl, bel.frame _, fun h => by cases h⟩
theorem over : Rows.quoteTellsRow.holds Try.pinned (OpenSpec.ofChange Rows.quoteTellsSpec) :=
  OpenClaim.holds_of_wide 3 Try.f3 rfl rfl rfl rfl rfl rfl rfl ⟨rfl, rfl, rfl, rfl, rfl⟩ rfl rfl rfl rfl rfl (by kernel_rfl) Try.func3 (by kernel_rfl)
    (of_decide_eq_true (by kernel_rfl)) (by unfold Func.isWrapper; first | (rw [if_pos (by decide +kernel)]; kernel_rfl) | (rw [if_neg (by decide +kernel)]; exact ⟨rfl, rfl⟩))
    (fun os started H enc _ => lifted os started H enc)
theorem proved : Rows.QuoteTellsSaid := over
#print axioms proved
end Go.Proofs.Ytodcbiehocphkaa.quoteTells
namespace Go.Proofs.Ytodcbiehocphkaa
/-- The row, under a short name, for the claim. -/
theorem quoteTells_holds : Rows.QuoteTellsSaid := quoteTells.proved
end Go.Proofs.Ytodcbiehocphkaa
