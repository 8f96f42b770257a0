/- LazyParses: for any text, any window and any cut, the lazy parser lays the very pieces that the document's lays, and the call returns true; no condition. -/
import Derived.Test.YtalopgbkjgjppaaRow
import Derived.Test.YtalopgbkjgjppaaLy
namespace Go.Proofs.Ytalopgbkjgjppaa
open Go.ChangeShapes Go.WideShapes Go.ChangeAt Go.RowKit Go.Cas

theorem Try.ownZ : ownKnob Try.prog.godebug = none := by kernel_rfl
theorem Try.laidOutZ : laidOutB Try.prog = true := by kernel_rfl

set_option maxRecDepth 100000 in
theorem lazyParses_lifted (os : Os) (started : os.Started) (H : Type) (enc : TypeId × Value → H) :
    ReturnsInHanded {} Try.checked os 7 .any (Rows.lazyParsesSpec.pre6 enc Try.prog Try.f7 Rows.lazyParsesRow.domain false) (Rows.lazyParsesSpec.post enc Try.prog Try.f7 false true false false) := by
  refine returnsInHanded_of_change (C := Try.checked) Try.ownZ started (by kernel_rfl) Try.func7
    (ChangeSpec.witness6 (enc := enc) (C := Try.checked) false ⟨#[], #[.string ⟨#[]⟩, .int .i64 0, .int .i64 0], []⟩ 8 (by kernel_rfl) (by kernel_rfl) (by kernel_rfl) (by kernel_rfl)) ?_
  intro W base args ds gs before hval0 hW hcnd _
  have hval : ∀ (j : Nat) t v, Try.f7.params[j]? = some t → args[j]? = some v → Value.okWide Try.prog W .any base t v := hval0
  have hW' := hW
  obtain ⟨p, q, hA0, hV, rfl, hfz, hnd⟩ := hW
  have hA : DataW.TrodAll enc Try.prog W 0 (fun _ => true) true Try.f7.params.toList args.toList ds p := hA0
  rw [Try.params7] at hA hval
  obtain ⟨v0, v1, v2, d0, d1, d2, p0, p1, p2, rfl, rfl, rfl, h0, h1, h2⟩ := trodAll_three hA
  obtain ⟨rfl, rfl⟩ := trodVars_none hV
  obtain ⟨s, rfl, _, _, hs⟩ := Go.ChangeMaps.open_string Try.underlying9 (hval 0 9 v0 rfl rfl) h0
  obtain ⟨x, rfl, _, _, _⟩ := open_int Try.underlying3 (hval 1 3 v1 rfl rfl) h1
  obtain ⟨y, rfl, _, _, _⟩ := open_int Try.underlying3 (hval 2 3 v2 rfl rfl) h2
  have hd : s = ⟨s.data.toList.toArray⟩ := by apply ByteArray.ext; simp
  have H : Calls Try.prog 7 #[.string s, i6 x, i6 y] W fun e w' => e = .returned (.bool true) ∧ Same W w' := by
    rw [hd]
    exact lazy_any s.data.toList x y W (by simpa using hs)
  refine H.mono fun z W' ⟨he, hs⟩ => ?_
  subst he
  exact ⟨_, rfl, law_post Try.laidOutZ rfl (by rw [Try.params7]; intro t ht; simp at ht; rcases ht with rfl | rfl | rfl <;> exact ⟨by kernel_rfl, of_decide_eq_true (by kernel_rfl)⟩) 4 (by kernel_rfl) Try.underlying4 hW' rfl hs⟩

theorem lazyParses_holds : Rows.LazyParsesSaid :=
  OpenClaim.holds_of_wide 7 Try.f7 rfl rfl rfl rfl rfl rfl rfl ⟨rfl, rfl, rfl, rfl, rfl⟩ rfl rfl rfl rfl rfl (by kernel_rfl) Try.func7 (by kernel_rfl)
    (of_decide_eq_true (by kernel_rfl)) (by unfold Func.isWrapper; first | (rw [if_pos (by decide +kernel)]; kernel_rfl) | (rw [if_neg (by decide +kernel)]; exact ⟨rfl, rfl⟩))
    (fun os started H enc _ => lazyParses_lifted os started H enc)

#print axioms lazyParses_holds
end Go.Proofs.Ytalopgbkjgjppaa
