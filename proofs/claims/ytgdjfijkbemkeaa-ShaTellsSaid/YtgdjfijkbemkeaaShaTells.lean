/-
  Any text, in any parts, has just the digest of the document, and that its digits; any digits are just their digest, or none: for every input.
-/
import Derived.Test.YtgdjfijkbemkeaaShaS
import Derived.Test.YtgdjfijkbemkeaaShaI
import Derived.Test.YtgdjfijkbemkeaaFo
namespace Go.Proofs.Ytgdjfijkbemkeaa.shaTells
open Go.ChangeShapes Go.WideShapes Go.ChangeAt Go.ChangeMaps Go.WideMaps Go.WideElems Go.RowKit
set_option linter.unusedVariables false

set_option maxRecDepth 100000 in
theorem lifted (os : Os) (started : os.Started) (H : Type) (enc : TypeId × Value → H) :
    ReturnsInHanded {} Try.checked os 6 .any (Rows.shaTellsSpec.pre6 enc Try.prog Try.f6 Rows.shaTellsRow.domain false) (Rows.shaTellsSpec.post enc Try.prog Try.f6 false true false false) := by
  refine returnsInHanded_of_change (C := Try.checked) own0 started (by kernel_rfl) Try.func6
    (ChangeSpec.witness6 (enc := enc) (C := Try.checked) false ⟨#[], #[.slice none 0 0, .string ⟨#[]⟩], []⟩ 8 (by kernel_rfl) (by kernel_rfl) (by kernel_rfl) (by kernel_rfl)) ?_
  intro W base args ds gs before hval0 hW hcnd _
  have hval : ∀ (j : Nat) t v, Try.f6.params[j]? = some t → args[j]? = some v → Value.okWide Try.prog W .any base t v := hval0
  have hW' := hW
  obtain ⟨p, q, hA0, hV, rfl, hfz, hnd⟩ := hW
  have hA : DataW.TrodAll enc Try.prog W 0 (fun _ => true) true Try.f6.params.toList args.toList ds p := hA0
  rw [Try.params6] at hA hval
  obtain ⟨v0, vs0, d0, ds0, p0, q0, hargs, rfl, rfl, h0, r0⟩ := trodAll_cons hA
  obtain ⟨v1, vs1, d1, ds1, p1, q1, rfl, rfl, rfl, h1, r1⟩ := trodAll_cons r0
  obtain ⟨rfl, rfl, rfl⟩ := trodAll_nil r1
  obtain rfl : args = #[v0, v1] := by cases args; simp_all
  obtain ⟨rfl, rfl⟩ := trodVars_none hV
  obtain ⟨A0, m0, c0, ss0, rfl, rd0⟩ := open_rdS Try.underlying42 Try.underlying9 (by kernel_rfl) (okWide_slice Try.underlying42 (hval 0 42 v0 rfl rfl)) h0 (fun x hx => by simpa using hW'.lt x (by simp [hx]))
  obtain ⟨s1, rfl, rfl, rfl, b1⟩ := open_string Try.underlying9 (hval 1 9 v1 rfl rfl) h1
  refine (shaTells (fun s w h => refOf s h w) A0 m0 c0 ss0 s1 W rd0).mono fun e W' ⟨he, hb⟩ => ?_
  subst he
  exact ⟨_, rfl, law_post hW' rfl rfl rfl rfl hb laid0 (by
    intro t ht
    rw [Try.params6] at ht
    simp at ht
    rcases ht with rfl | rfl <;> exact ⟨by kernel_rfl, of_decide_eq_true (by kernel_rfl)⟩) 4 (by kernel_rfl) Try.underlying4⟩

theorem over : Rows.shaTellsRow.holds Try.pinned (OpenSpec.ofChange Rows.shaTellsSpec) :=
  OpenClaim.holds_of_wide 6 Try.f6 rfl rfl rfl rfl rfl rfl rfl ⟨rfl, rfl, rfl, rfl, rfl⟩ rfl rfl rfl rfl rfl (by kernel_rfl) Try.func6 (by kernel_rfl)
    (of_decide_eq_true (by kernel_rfl)) (by unfold Func.isWrapper; first | (rw [if_pos (by decide +kernel)]; kernel_rfl) | (rw [if_neg (by decide +kernel)]; exact ⟨rfl, rfl⟩))
    (fun os started H enc _ => lifted os started H enc)

theorem proved : Rows.ShaTellsSaid :=
  over
end Go.Proofs.Ytgdjfijkbemkeaa.shaTells
