/-
  Any row of parts is taken, or refused, and at any time, for any digests, the upload is done, or not, just as the document says: for every input.
-/
import Derived.Test.YtgdjfijkbemkeaaEtP
import Derived.Test.YtgdjfijkbemkeaaFo
namespace Go.Proofs.Ytgdjfijkbemkeaa.etagUploads
open Go.ChangeShapes Go.WideShapes Go.ChangeAt Go.ChangeMaps Go.WideMaps Go.WideElems Go.RowKit
set_option linter.unusedVariables false

set_option maxRecDepth 100000 in
theorem lifted (os : Os) (started : os.Started) (H : Type) (enc : TypeId × Value → H) :
    ReturnsInHanded {} Try.checked os 9 .any (Rows.etagUploadsSpec.pre6 enc Try.prog Try.f9 Rows.etagUploadsRow.domain false) (Rows.etagUploadsSpec.post enc Try.prog Try.f9 false true false false) := by
  refine returnsInHanded_of_change (C := Try.checked) own0 started (by kernel_rfl) Try.func9
    (ChangeSpec.witness6 (enc := enc) (C := Try.checked) false ⟨#[], #[.slice none 0 0, .slice none 0 0, .int .i64 0], []⟩ 8 (by kernel_rfl) (by kernel_rfl) (by kernel_rfl) (by kernel_rfl)) ?_
  intro W base args ds gs before hval0 hW hcnd _
  have hval : ∀ (j : Nat) t v, Try.f9.params[j]? = some t → args[j]? = some v → Value.okWide Try.prog W .any base t v := hval0
  have hW' := hW
  obtain ⟨p, q, hA0, hV, rfl, hfz, hnd⟩ := hW
  have hA : DataW.TrodAll enc Try.prog W 0 (fun _ => true) true Try.f9.params.toList args.toList ds p := hA0
  rw [Try.params9] at hA hval
  obtain ⟨v0, vs0, d0, ds0, p0, q0, hargs, rfl, rfl, h0, r0⟩ := trodAll_cons hA
  obtain ⟨v1, vs1, d1, ds1, p1, q1, rfl, rfl, rfl, h1, r1⟩ := trodAll_cons r0
  obtain ⟨v2, vs2, d2, ds2, p2, q2, rfl, rfl, rfl, h2, r2⟩ := trodAll_cons r1
  obtain ⟨rfl, rfl, rfl⟩ := trodAll_nil r2
  obtain rfl : args = #[v0, v1, v2] := by cases args; simp_all
  obtain ⟨rfl, rfl⟩ := trodVars_none hV
  obtain ⟨pt0, hp0, rd0⟩ := open_rdP Try.underlying69 Try.underlying75 (by kernel_rfl) rfl rfl (by kernel_rfl) (by kernel_rfl) Try.underlying3 Try.underlying9 (okWide_slice Try.underlying69 (hval 0 69 v0 rfl rfl)) h0 (fun x hx => by simpa using hW'.lt x (by simp [hx]))
  obtain ⟨dg1, hd1, rd1⟩ := open_rdD Try.underlying62 Try.underlying50 Try.underlying5 (by kernel_rfl) (by kernel_rfl) (okWide_slice Try.underlying62 (hval 1 62 v1 rfl rfl)) h1 (fun x hx => by simpa using hW'.lt x (by simp [hx]))
  obtain ⟨a2, rfl, rfl, rfl, w2⟩ := open_int Try.underlying3 (hval 2 3 v2 rfl rfl) h2
  have b2 : -9223372036854775808 ≤ a2 ∧ a2 ≤ 9223372036854775807 := by simpa [Lit.wf, IntKind.min, IntKind.max, IntKind.signed, IntKind.bits] using w2
  obtain ⟨n2, rfl⟩ : ∃ n, n = a2 := ⟨_, rfl⟩
  refine (etagUploads v0 pt0 hp0 v1 dg1 hd1 n2 W rd0 rd1).mono fun e W' ⟨he, hb⟩ => ?_
  subst he
  exact ⟨_, rfl, law_post hW' rfl rfl rfl rfl hb laid0 (by
    intro t ht
    rw [Try.params9] at ht
    simp at ht
    rcases ht with rfl | rfl | rfl <;> exact ⟨by kernel_rfl, of_decide_eq_true (by kernel_rfl)⟩) 4 (by kernel_rfl) Try.underlying4⟩

theorem over : Rows.etagUploadsRow.holds Try.pinned (OpenSpec.ofChange Rows.etagUploadsSpec) :=
  OpenClaim.holds_of_wide 9 Try.f9 rfl rfl rfl rfl rfl rfl rfl ⟨rfl, rfl, rfl, rfl, rfl⟩ rfl rfl rfl rfl rfl (by kernel_rfl) Try.func9 (by kernel_rfl)
    (of_decide_eq_true (by kernel_rfl)) (by unfold Func.isWrapper; first | (rw [if_pos (by decide +kernel)]; kernel_rfl) | (rw [if_neg (by decide +kernel)]; exact ⟨rfl, rfl⟩))
    (fun os started H enc _ => lifted os started H enc)

theorem proved : Rows.EtagUploadsSaid :=
  over
end Go.Proofs.Ytgdjfijkbemkeaa.etagUploads
