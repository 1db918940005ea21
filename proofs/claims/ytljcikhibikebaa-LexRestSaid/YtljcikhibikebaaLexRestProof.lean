/- PROVED HERE: LexRestSaid: at every text and number the law weirgatelaw08.LexRest answers true, and the input reads as it did. -/
import Derived.Test.YtljcikhibikebaaRows
import Derived.ProofKit
import Derived.Test.YtljcikhibikebaaSxLaw
import Derived.Test.YtljcikhibikebaaLexH1
namespace Go.Proofs.Ytljcikhibikebaa.lexRest
open Go.ChangeShapes Go.WideShapes Go.ChangeAt Go.RowKit Go.ChangeMaps

theorem own : ownKnob Try.prog.godebug = none := by kernel_rfl

set_option maxRecDepth 100000 in
theorem lifted (os : Os) (started : os.Started) (H : Type) (enc : TypeId × Value → H) :
    ReturnsInHanded {} Try.checked os 5 .any (Rows.lexRestSpec.pre6 enc Try.prog Try.f5 Rows.lexRestRow.domain false) (Rows.lexRestSpec.post enc Try.prog Try.f5 false true false false) := by
  refine returnsInHanded_of_change (C := Try.checked) own started (by kernel_rfl) Try.func5
    (ChangeSpec.witness6 (enc := enc) (C := Try.checked) false ⟨#[], #[.string ⟨#[]⟩, .int .u8 0], []⟩ 8 (by kernel_rfl) (by kernel_rfl) (by kernel_rfl) (by kernel_rfl)) ?_
  intro W base args ds gs before hval0 hW _ _
  have hval : ∀ (j : Nat) t v, Try.f5.params[j]? = some t → args[j]? = some v → Value.okWide Try.prog W .any base t v := hval0
  have hW' := hW
  obtain ⟨p, q, hA0, hV, rfl, hfz, hnd⟩ := hW
  have hA : DataW.TrodAll enc Try.prog W 0 (fun _ => true) true Try.f5.params.toList args.toList ds p := hA0
  rw [Try.params5] at hA hval
  obtain ⟨v0, vs0, d0, ds0, p0, q0, hargs, rfl, rfl, h0, r0⟩ := trodAll_cons hA
  obtain ⟨v1, vs1, d1, ds1, p1, q1, rfl, rfl, rfl, h1, r1⟩ := trodAll_cons r0
  obtain ⟨rfl, rfl, rfl⟩ := trodAll_nil r1
  obtain rfl : args = #[v0, v1] := by cases args; simp_all
  obtain ⟨rfl, rfl⟩ := trodVars_none hV
  obtain ⟨s0, rfl, rfl, rfl, hs0⟩ := open_string Try.underlying9 (hval 0 9 v0 rfl rfl) h0
  obtain ⟨s1, rfl, rfl, rfl, hs1⟩ := open_int Try.underlying5 (hval 1 5 v1 rfl rfl) h1
  clear hA0 hval0
  simp only [List.append_nil] at hW'
  have hrel : Sx.RelL (fun _ _ => none) Sx.Mp.none [.str s0.data.toList, .int .u8 s1] #[.string s0, .int .u8 s1] :=
    ⟨rfl, fun j x v hx hv => by
      match j with
      | 0 => simp at hx hv; subst hx; subst hv; exact Sx.Rel.str _ _
      | 1 => simp at hx hv; subst hx; subst hv; exact Sx.Rel.int _ _ _
      | j + 2 => simp at hx⟩
  have hb1 : 0 ≤ s1 ∧ s1 ≤ 255 := by simpa [Lit.wf, IntKind.min, IntKind.max, IntKind.signed, IntKind.bits] using hs1
  refine (Sx.calls_of_con Try.func5 rfl (by kernel_rfl) (lexRest_con s0.data.toList s1 hb1) (Sx.memR_none W) hrel).mono fun e W' ⟨v, he, ⟨rd', hv⟩, hb⟩ => ?_
  subst he
  cases Sx.rel_bool hv
  exact ⟨_, rfl, Sx.post_of_below (pa := []) (pv := []) hW' (fun _ _ _ => (trodAll_cons_mk (shut_bool Try.underlying4 _) trodAll_mk0)) (fun sp _ => (trodAll_cons_mk (shut_string Try.underlying9 hs0) (trodAll_cons_mk (shut_int Try.underlying5 hs1) trodAll_mk0))) (fun _ _ => rfl) rfl
    hb (ok_one (by kernel_rfl) rfl (okWide_bool_mk Try.underlying4 _))⟩

theorem proved : Rows.LexRestSaid :=
  OpenClaim.holds_of_wide 5 Try.f5 rfl rfl rfl rfl rfl rfl rfl ⟨rfl, rfl, rfl, rfl, rfl⟩ rfl rfl rfl rfl rfl (by kernel_rfl) Try.func5 (by kernel_rfl)
    (of_decide_eq_true (by kernel_rfl)) (by unfold Func.isWrapper; first | (rw [if_pos (by decide +kernel)]; kernel_rfl) | (rw [if_neg (by decide +kernel)]; exact ⟨rfl, rfl⟩))
    (fun os started H enc _ => lifted os started H enc)

end Go.Proofs.Ytljcikhibikebaa.lexRest
