/-
  PROVED: pacesetterlaw20.CtlNil returns true at every input, and each argument reads behind the call as it read before (Rows.CtlNilSaid).
  CONDITIONS: none beyond the given statement's own.
-/
import Derived.Test.YtcoejfgecnaphaaRows
import Derived.Test.YtcoejfgecnaphaaAbJ
set_option linter.unusedSimpArgs false
set_option linter.unusedVariables false
namespace Go.Proofs.Ytcoejfgecnaphaa
open Go.ChangeShapes Go.WideShapes Go.ChangeAt Go.RowKit Go.Ab

theorem Try.own : ownKnob Try.prog.godebug = none := by kernel_rfl
theorem Try.laidOut : laidOutB Try.prog = true := by kernel_rfl

noncomputable abbrev T : TT := tabs Try.prog [23, 24, 25, 26, 27, 28, 31, 32, 33, 40, 41]
set_option maxRecDepth 100000 in
theorem tok : TOK Try.prog T := tabs_ok (by kernel_rfl) (by kernel_rfl)
theorem mixed : Try.prog.follows .mixedOrders = true := by kernel_rfl
noncomputable abbrev call : CallF := callA Try.prog T (fun _ _ _ _ => none) 20
theorem callOk : CallsOK Try.prog call := callA_ok tok mixed (fun _ _ _ _ _ h => by cases h) 20

set_option maxRecDepth 100000 in
theorem walk (a1 a2 a3 a4 a5 a6 now b1 b2 b3 b4 : Int) (s : ByteArray) (c1 c2 c3 c4 c5 c6 c7 c8 c9 c10 c11 c12 : Int) :
    yesB (call 3 [.agg [int64 a1, int64 a2, int64 a3, int64 a4, int64 a5, int64 a6], int64 now,
      .agg [int64 b1, int64 b2, int64 b3, int64 b4, .v (.string s), int64 c1, int64 c2, int64 c3, int64 c4, int64 c5, int64 c6, int64 c7, int64 c8, int64 c9, int64 c10, int64 c11, int64 c12]] [] []) = true := by
  kernel_rfl

theorem u3 : Try.prog.underlying 3 = some (.int .i64) := by kernel_rfl
theorem u4 : Try.prog.underlying 4 = some .bool := by kernel_rfl
theorem u9 : Try.prog.underlying 9 = some .string := by kernel_rfl
set_option maxRecDepth 100000 in
theorem kids : Kids Try.prog (· < Try.prog.types.size) := kids_rows Try.laidOut (by kernel_rfl)
set_option maxRecDepth 100000 in
theorem full : ∀ t e, t < Try.prog.types.size → Try.prog.underlying t = some (.slice e) → 0 < Try.prog.cellsOf e := slices_full_of Try.prog (by kernel_rfl)

set_option maxRecDepth 100000 in
theorem f_lifted (os : Os) (started : os.Started) (H : Type) (enc : TypeId × Value → H) :
    ReturnsInHanded {} Try.checked os 3 .any (Rows.ctlNilSpec.pre6 enc Try.prog Try.f3 Rows.ctlNilRow.domain false) (Rows.ctlNilSpec.post enc Try.prog Try.f3 Rows.ctlNilRow.apart Rows.ctlNilRow.fresh Rows.ctlNilRow.handsOn Rows.ctlNilRow.again) := by
  refine returnsInHanded_of_change (C := Try.checked) Try.own started (by kernel_rfl) Try.func3
    (ChangeSpec.witness6 (enc := enc) (C := Try.checked) false ⟨#[], #[.agg #[.int .i64 0, .int .i64 0, .int .i64 0, .int .i64 0, .int .i64 0, .int .i64 0], .int .i64 0,
      .agg #[.int .i64 0, .int .i64 0, .int .i64 0, .int .i64 0, .string ByteArray.empty, .int .i64 0, .int .i64 0, .int .i64 0, .int .i64 0, .int .i64 0, .int .i64 0, .int .i64 0, .int .i64 0, .int .i64 0, .int .i64 0, .int .i64 0, .int .i64 0]], []⟩ 8
      (by kernel_rfl) (by kernel_rfl) (by kernel_rfl) (by kernel_rfl)) ?_
  intro W base args ds gs before hval0 hW hcnd _
  have hval : ∀ (j : Nat) t v, Try.f3.params[j]? = some t → args[j]? = some v → Value.okWide Try.prog W .any base t v := hval0
  have hW' := hW
  obtain ⟨p, q, hA0, hV, rfl, hfz, hnd⟩ := hW
  have hA : DataW.TrodAll enc Try.prog W 0 (fun _ => true) true Try.f3.params.toList args.toList ds p := hA0
  rw [Try.params3] at hA hval
  obtain ⟨v0, v1, v2, d0, d1, d2, p0, p1, p2, rfl, rfl, rfl, h0, h1, h2⟩ := trodAll_three hA
  obtain ⟨rfl, rfl⟩ := trodVars_none hV
  obtain ⟨l0, rfl, F0⟩ := open_flat (ts := [3, 3, 3, 3, 3, 3]) (hval 0 23 v0 rfl rfl) (by kernel_rfl) (by kernel_rfl) (by kernel_rfl)
  obtain ⟨now, rfl, -⟩ := one_int u3 (hval 1 3 v1 rfl rfl)
  obtain ⟨l2, rfl, F2⟩ := open_flat (ts := [3, 3, 3, 3, 9, 3, 3, 3, 3, 3, 3, 3, 3, 3, 3, 3, 3]) (hval 2 28 v2 rfl rfl) (by kernel_rfl) (by kernel_rfl) (by kernel_rfl)
  obtain ⟨a1, _, rfl, -, F0⟩ := F0.int u3
  obtain ⟨a2, _, rfl, -, F0⟩ := F0.int u3
  obtain ⟨a3, _, rfl, -, F0⟩ := F0.int u3
  obtain ⟨a4, _, rfl, -, F0⟩ := F0.int u3
  obtain ⟨a5, _, rfl, -, F0⟩ := F0.int u3
  obtain ⟨a6, _, rfl, -, F0⟩ := F0.int u3
  cases F0.nil
  obtain ⟨b1, _, rfl, -, F2⟩ := F2.int u3
  obtain ⟨b2, _, rfl, -, F2⟩ := F2.int u3
  obtain ⟨b3, _, rfl, -, F2⟩ := F2.int u3
  obtain ⟨b4, _, rfl, -, F2⟩ := F2.int u3
  obtain ⟨s, _, rfl, -, F2⟩ := F2.str u9
  obtain ⟨c1, _, rfl, -, F2⟩ := F2.int u3
  obtain ⟨c2, _, rfl, -, F2⟩ := F2.int u3
  obtain ⟨c3, _, rfl, -, F2⟩ := F2.int u3
  obtain ⟨c4, _, rfl, -, F2⟩ := F2.int u3
  obtain ⟨c5, _, rfl, -, F2⟩ := F2.int u3
  obtain ⟨c6, _, rfl, -, F2⟩ := F2.int u3
  obtain ⟨c7, _, rfl, -, F2⟩ := F2.int u3
  obtain ⟨c8, _, rfl, -, F2⟩ := F2.int u3
  obtain ⟨c9, _, rfl, -, F2⟩ := F2.int u3
  obtain ⟨c10, _, rfl, -, F2⟩ := F2.int u3
  obtain ⟨c11, _, rfl, -, F2⟩ := F2.int u3
  obtain ⟨c12, _, rfl, -, F2⟩ := F2.int u3
  cases F2.nil
  refine (law_calls callOk (walk a1 a2 a3 a4 a5 a6 now b1 b2 b3 b4 s c1 c2 c3 c4 c5 c6 c7 c8 c9 c10 c11 c12)
    (cargs := [.agg #[.int .i64 a1, .int .i64 a2, .int .i64 a3, .int .i64 a4, .int .i64 a5, .int .i64 a6], .int .i64 now,
      .agg #[.int .i64 b1, .int .i64 b2, .int .i64 b3, .int .i64 b4, .string s, .int .i64 c1, .int .i64 c2, .int .i64 c3, .int .i64 c4, .int .i64 c5, .int .i64 c6, .int .i64 c7, .int .i64 c8, .int .i64 c9, .int .i64 c10, .int .i64 c11, .int .i64 c12]])
    (by simp [VRs, VR, int64]) W).mono fun e W' ⟨he, hs, hk, hm⟩ => ?_
  subst he
  exact ⟨_, rfl, law_post (v := .bool true) kids full (by rw [Try.params3]; decide +kernel) rfl hW' hs hk hm rfl rfl (fun _ _ _ => trodAll_mk1 (shut_bool u4 true)) (ok_one (by kernel_rfl) rfl (okWide_bool_mk u4 true))⟩

theorem ctlNil_holds : Rows.CtlNilSaid :=
  OpenClaim.holds_of_wide 3 Try.f3 rfl rfl rfl rfl rfl rfl rfl ⟨rfl, rfl, rfl, rfl, rfl⟩ rfl rfl rfl rfl rfl (by kernel_rfl) Try.func3 (by kernel_rfl)
    (of_decide_eq_true (by kernel_rfl)) (by unfold Func.isWrapper; first | (rw [if_pos (by decide +kernel)]; kernel_rfl) | (rw [if_neg (by decide +kernel)]; exact ⟨rfl, rfl⟩))
    (fun os started H enc _ => f_lifted os started H enc)

end Go.Proofs.Ytcoejfgecnaphaa
