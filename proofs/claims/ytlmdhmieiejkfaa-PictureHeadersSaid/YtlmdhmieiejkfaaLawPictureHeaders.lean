/- The law PictureHeaders answers true for every input, and leaves its arguments as they were; no condition. -/
import Derived.Test.YtlmdhmieiejkfaaGlue
import Derived.WalkKit
import Derived.ProofKit
import Derived.OpenShut
import Derived.ShutString
import Derived.ChangeOld
import Derived.Below
import Derived.SizedLaws
namespace Go.Proofs.Ytlmdhmieiejkfaa.pictureHeaders
open Go.Eng Go.ChangeShapes Go.WideShapes Go.ChangeAt Go.RowKit
set_option linter.unusedVariables false
set_option maxRecDepth 100000
theorem own : ownKnob Try.prog.godebug = none := by kernel_rfl
theorem laidOut : laidOutB Try.prog = true := by kernel_rfl
theorem hG (d : LD ([T_api_Pic, T_api_Unit].map argSD)) (hd : okL ([T_api_Pic, T_api_Unit].map argSD) d) : cutroomlaw11_PictureHeaders.G (AV × Store) 0 (mkL _ d) [] (fun x ob => some (x, ob)) = some (.v true .bool true, []) :=
  have h := cutroomlaw11_PictureHeaders_law d.1 d.2.1 hd.1 hd.2.1
  (unArgs_mk _ d _).trans ((need_pos h.1 _).trans (by
    show some (AV.v true .bool (cutroomlaw11_PictureHeaders_S d.1 d.2.1), _) = _
    rw [h.2]
    rfl))
theorem lifted (os : Os) (started : os.Started) (H : Type) (enc : TypeId × Value → H) :
    ReturnsInHanded {} Try.checked os 3 .any (Rows.pictureHeadersSpec.pre6 enc Try.prog Try.f3 Rows.pictureHeadersRow.domain false) (Rows.pictureHeadersSpec.post enc Try.prog Try.f3 false true false false) := by
  refine returnsInHanded_of_change_sized (C := Try.checked) own started (by kernel_rfl) Try.func3
    (ChangeSpec.witness6 (enc := enc) (C := Try.checked) false ⟨#[], #[(.agg #[.int .i64 0, .int .i64 0, .int .i64 0, .bool false, .bool false, .bool false]), (.agg #[.int .i64 0, .slice none 0 0])], []⟩ 16 (by kernel_rfl) (by kernel_rfl) (by kernel_rfl) (by kernel_rfl)) ?_
  intro W base args ds gs before hval0 hW hcnd hsz0 _
  have hval : ∀ (j : Nat) t v, Try.f3.params[j]? = some t → args[j]? = some v → Value.okWide Try.prog W .any base t v := hval0
  have hW' := hW
  obtain ⟨p, q, hA0, hV, rfl, hfz, hnd⟩ := hW
  have hA : DataW.TrodAll enc Try.prog W 0 (fun _ => true) true Try.f3.params.toList args.toList ds p := hA0
  have hcall := law_calls (enc := enc) (cutroomlaw11_PictureHeaders_snd C24_ok) (ts := [T_api_Pic, T_api_Unit]) (Ts := Try.f3.params.toList) (by kernel_rfl) hG (base := base) hA (fun j T v h1 h2 => hval j T v (by simpa using h1) h2)
  rw [Try.params3] at hA
  obtain ⟨v0, vs0, d0, ds0, p0, q0, hargs0, hds0, hpq0, h0, r0⟩ := trodAll_cons hA
  obtain ⟨v1, vs1, d1, ds1, p1, q1, hargs1, hds1, hpq1, h1, r1⟩ := trodAll_cons r0
  obtain ⟨hn1, hn2, hn3⟩ := trodAll_nil r1
  obtain ⟨rfl, rfl⟩ := trodVars_none hV
  subst hn1; subst hn2; subst hn3
  subst hargs1; subst hds1; subst hpq1
  subst hds0; subst hpq0
  obtain rfl : args = #[v0, v1] := by cases args; simp_all
  have lt0 : ∀ x ∈ p0, x.block < W.heap.size := by obtain ⟨m, hm⟩ := h0; exact DataW.trod_lt m _ _ _ hm
  have lt1 : ∀ x ∈ p1, x.block < W.heap.size := by obtain ⟨m, hm⟩ := h1; exact DataW.trod_lt m _ _ _ hm
  refine hcall.mono fun e W' ⟨he, bel⟩ => ?_
  subst he
  exact ⟨_, rfl, _, _, _, [], _, [], hW', trodAll_mk1 (shut_bool Try.underlying4 _), (trodAll_cons_mk (Below.trod laidOut (by kernel_rfl) (of_decide_eq_true (by kernel_rfl)) h0 bel lt0) (trodAll_cons_mk (Below.trod laidOut (by kernel_rfl) (of_decide_eq_true (by kernel_rfl)) h1 bel lt1) trodAll_mk0)), rfl, bel.frame _, fun h => by cases h⟩
theorem over : Rows.pictureHeadersRow.holds Try.pinned (OpenSpec.ofChange Rows.pictureHeadersSpec) :=
  OpenClaim.holds_of_wide 3 Try.f3 rfl rfl rfl rfl rfl rfl rfl ⟨rfl, rfl, rfl, rfl, rfl⟩ rfl rfl rfl rfl rfl (by kernel_rfl) Try.func3 (by kernel_rfl)
    (of_decide_eq_true (by kernel_rfl)) (by unfold Func.isWrapper; first | (rw [if_pos (by decide +kernel)]; kernel_rfl) | (rw [if_neg (by decide +kernel)]; exact ⟨rfl, rfl⟩))
    (fun os started H enc _ => lifted os started H enc)
theorem proved : Rows.PictureHeadersSaid := over
end Go.Proofs.Ytlmdhmieiejkfaa.pictureHeaders
namespace Go.Proofs.Ytlmdhmieiejkfaa
/-- The row, under a short name, for the claim. -/
theorem pictureHeaders_holds : Rows.PictureHeadersSaid := pictureHeaders.proved
#print axioms pictureHeaders_holds
end Go.Proofs.Ytlmdhmieiejkfaa
