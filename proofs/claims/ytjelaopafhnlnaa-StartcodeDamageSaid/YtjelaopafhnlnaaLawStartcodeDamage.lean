/- The law StartcodeDamage answers true for every input, and leaves its arguments as they were; no condition. -/
import Derived.Test.YtjelaopafhnlnaaGlue
import Derived.WalkKit
import Derived.ProofKit
import Derived.OpenShut
import Derived.ShutString
import Derived.ChangeOld
import Derived.Below
import Derived.SizedLaws
namespace Go.Proofs.Ytjelaopafhnlnaa.startcodeDamage
open Go.Eng Go.ChangeShapes Go.WideShapes Go.ChangeAt Go.RowKit
set_option linter.unusedVariables false
set_option maxRecDepth 100000
theorem own : ownKnob Try.prog.godebug = none := by kernel_rfl
theorem laidOut : laidOutB Try.prog = true := by kernel_rfl
theorem hG (d : LD ([(.sl T_api_Unit), (.int .i64), (.int .i64), (.int .u8)].map argSD)) (hd : okL ([(.sl T_api_Unit), (.int .i64), (.int .i64), (.int .u8)].map argSD) d) : cutroomlaw03_StartcodeDamage.G (AV × Store) 0 (mkL _ d) [] (fun x ob => some (x, ob)) = some (.v true .bool true, []) :=
  have h := cutroomlaw03_StartcodeDamage_law d.1 d.2.1 d.2.2.1 d.2.2.2.1 hd.1 hd.2.1 hd.2.2.1 hd.2.2.2.1
  (unArgs_mk _ d _).trans ((need_pos h.1 _).trans (by
    show some (AV.v true .bool (cutroomlaw03_StartcodeDamage_S d.1 d.2.1 d.2.2.1 d.2.2.2.1), _) = _
    rw [h.2]
    rfl))
theorem lifted (os : Os) (started : os.Started) (H : Type) (enc : TypeId × Value → H) :
    ReturnsInHanded {} Try.checked os 10 .any (Rows.startcodeDamageSpec.pre6 enc Try.prog Try.f10 Rows.startcodeDamageRow.domain false) (Rows.startcodeDamageSpec.post enc Try.prog Try.f10 false true false false) := by
  refine returnsInHanded_of_change_sized (C := Try.checked) own started (by kernel_rfl) Try.func10
    (ChangeSpec.witness6 (enc := enc) (C := Try.checked) false ⟨#[], #[(.slice none 0 0), (.int .i64 0), (.int .i64 0), (.int .u8 0)], []⟩ 16 (by kernel_rfl) (by kernel_rfl) (by kernel_rfl) (by kernel_rfl)) ?_
  intro W base args ds gs before hval0 hW hcnd hsz0 _
  have hval : ∀ (j : Nat) t v, Try.f10.params[j]? = some t → args[j]? = some v → Value.okWide Try.prog W .any base t v := hval0
  have hW' := hW
  obtain ⟨p, q, hA0, hV, rfl, hfz, hnd⟩ := hW
  have hA : DataW.TrodAll enc Try.prog W 0 (fun _ => true) true Try.f10.params.toList args.toList ds p := hA0
  have hcall := law_calls (enc := enc) (cutroomlaw03_StartcodeDamage_snd C26_ok) (ts := [(.sl T_api_Unit), (.int .i64), (.int .i64), (.int .u8)]) (Ts := Try.f10.params.toList) (by kernel_rfl) hG (base := base) hA (fun j T v h1 h2 => hval j T v (by simpa using h1) h2)
  rw [Try.params10] at hA
  obtain ⟨v0, vs0, d0, ds0, p0, q0, hargs0, hds0, hpq0, h0, r0⟩ := trodAll_cons hA
  obtain ⟨v1, vs1, d1, ds1, p1, q1, hargs1, hds1, hpq1, h1, r1⟩ := trodAll_cons r0
  obtain ⟨v2, vs2, d2, ds2, p2, q2, hargs2, hds2, hpq2, h2, r2⟩ := trodAll_cons r1
  obtain ⟨v3, vs3, d3, ds3, p3, q3, hargs3, hds3, hpq3, h3, r3⟩ := trodAll_cons r2
  obtain ⟨hn1, hn2, hn3⟩ := trodAll_nil r3
  obtain ⟨rfl, rfl⟩ := trodVars_none hV
  subst hn1; subst hn2; subst hn3
  subst hargs3; subst hds3; subst hpq3
  subst hargs2; subst hds2; subst hpq2
  subst hargs1; subst hds1; subst hpq1
  subst hds0; subst hpq0
  obtain rfl : args = #[v0, v1, v2, v3] := by cases args; simp_all
  have lt0 : ∀ x ∈ p0, x.block < W.heap.size := by obtain ⟨m, hm⟩ := h0; exact DataW.trod_lt m _ _ _ hm
  have lt1 : ∀ x ∈ p1, x.block < W.heap.size := by obtain ⟨m, hm⟩ := h1; exact DataW.trod_lt m _ _ _ hm
  have lt2 : ∀ x ∈ p2, x.block < W.heap.size := by obtain ⟨m, hm⟩ := h2; exact DataW.trod_lt m _ _ _ hm
  have lt3 : ∀ x ∈ p3, x.block < W.heap.size := by obtain ⟨m, hm⟩ := h3; exact DataW.trod_lt m _ _ _ hm
  refine hcall.mono fun e W' ⟨he, bel⟩ => ?_
  subst he
  exact ⟨_, rfl, _, _, _, [], _, [], hW', trodAll_mk1 (shut_bool Try.underlying4 _), (trodAll_cons_mk (Below.trod laidOut (by kernel_rfl) (of_decide_eq_true (by kernel_rfl)) h0 bel lt0) (trodAll_cons_mk (Below.trod laidOut (by kernel_rfl) (of_decide_eq_true (by kernel_rfl)) h1 bel lt1) (trodAll_cons_mk (Below.trod laidOut (by kernel_rfl) (of_decide_eq_true (by kernel_rfl)) h2 bel lt2) (trodAll_cons_mk (Below.trod laidOut (by kernel_rfl) (of_decide_eq_true (by kernel_rfl)) h3 bel lt3) trodAll_mk0)))), rfl, bel.frame _, fun h => by cases h⟩
theorem over : Rows.startcodeDamageRow.holds Try.pinned (OpenSpec.ofChange Rows.startcodeDamageSpec) :=
  OpenClaim.holds_of_wide 10 Try.f10 rfl rfl rfl rfl rfl rfl rfl ⟨rfl, rfl, rfl, rfl, rfl⟩ rfl rfl rfl rfl rfl (by kernel_rfl) Try.func10 (by kernel_rfl)
    (of_decide_eq_true (by kernel_rfl)) (by unfold Func.isWrapper; first | (rw [if_pos (by decide +kernel)]; kernel_rfl) | (rw [if_neg (by decide +kernel)]; exact ⟨rfl, rfl⟩))
    (fun os started H enc _ => lifted os started H enc)
theorem proved : Rows.StartcodeDamageSaid := over
end Go.Proofs.Ytjelaopafhnlnaa.startcodeDamage
namespace Go.Proofs.Ytjelaopafhnlnaa
/-- The row, under a short name, for the claim. -/
theorem startcodeDamage_holds : Rows.StartcodeDamageSaid := startcodeDamage.proved
#print axioms startcodeDamage_holds
end Go.Proofs.Ytjelaopafhnlnaa
