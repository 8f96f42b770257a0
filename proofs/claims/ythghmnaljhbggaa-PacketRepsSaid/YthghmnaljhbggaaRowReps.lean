/- PacketReps: for any four distances, any distance and any place, the program's Find, Push, Front and First answer as the document's do, and the call returns true; no condition. -/
import Derived.Test.YthghmnaljhbggaaRow
import Derived.Test.YthghmnaljhbggaaPr
namespace Go.Proofs.Ythghmnaljhbggaa
open Go.ChangeShapes Go.WideShapes Go.ChangeAt Go.RowKit Go.Cas

theorem Try.ownG : ownKnob Try.prog.godebug = none := by kernel_rfl
theorem Try.laidOutG : laidOutB Try.prog = true := by kernel_rfl

set_option maxRecDepth 100000 in
theorem open_arr4 {H : Type} {enc : TypeId × Value → H} {W : World} {base : Nat} {v : Value} {d : DataW H} {p : List MemPlace} (hv : Value.okWide Try.prog W .any base 43 v)
    (h : DataW.Trod enc Try.prog W 0 (fun _ => true) true 43 v d p) : ∃ a b c e : Int, v = rp a b c e := by
  unfold Value.okWide at hv
  rw [Try.underlying43] at hv
  obtain ⟨cs, rfl, hsz, _⟩ := hv
  have hC : Try.prog.cellsOf 43 = 4 := by kernel_rfl
  have hC3 : Try.prog.cellsOf 3 = 1 := by kernel_rfl
  rw [hC] at hsz
  obtain ⟨fuel, hf⟩ := h
  obtain ⟨xs, m, _, _, _, hxl, hx⟩ := DataW.trod_array Try.underlying43 hf
  obtain ⟨l⟩ := cs
  match l, hsz with
  | [c0, c1, c2, c3], _ =>
    have e : ∀ i, i < 4 → ∃ x, DataW.trod enc Try.prog W 0 (fun _ => true) true m 3 (([c0, c1, c2, c3].drop i).take 1) = some x := by
      intro i hi
      have := hx i hi
      rw [hC3, Nat.mul_one] at this
      refine ⟨xs[i], ?_⟩
      rw [← List.getElem?_eq_getElem]
      simpa [Value.cells] using this
    obtain ⟨x0, e0⟩ := e 0 (by omega)
    obtain ⟨x1, e1⟩ := e 1 (by omega)
    obtain ⟨x2, e2⟩ := e 2 (by omega)
    obtain ⟨x3, e3⟩ := e 3 (by omega)
    obtain ⟨n0, h0, _⟩ := DataW.trod_int Try.underlying3 e0
    obtain ⟨n1, h1, _⟩ := DataW.trod_int Try.underlying3 e1
    obtain ⟨n2, h2, _⟩ := DataW.trod_int Try.underlying3 e2
    obtain ⟨n3, h3, _⟩ := DataW.trod_int Try.underlying3 e3
    simp at h0 h1 h2 h3
    exact ⟨n0, n1, n2, n3, by rw [h0, h1, h2, h3]⟩

set_option maxRecDepth 100000 in
theorem packetReps_lifted (os : Os) (started : os.Started) (H : Type) (enc : TypeId × Value → H) :
    ReturnsInHanded {} Try.checked os 5 .any (Rows.packetRepsSpec.pre6 enc Try.prog Try.f5 Rows.packetRepsRow.domain false) (Rows.packetRepsSpec.post enc Try.prog Try.f5 false true false false) := by
  refine returnsInHanded_of_change (C := Try.checked) Try.ownG started (by kernel_rfl) Try.func5
    (ChangeSpec.witness6 (enc := enc) (C := Try.checked) false ⟨#[], #[.agg #[.int .i64 0, .int .i64 0, .int .i64 0, .int .i64 0], .int .i64 0, .int .i64 0], []⟩ 8 (by kernel_rfl) (by kernel_rfl) (by kernel_rfl) (by kernel_rfl)) ?_
  intro W base args ds gs before hval0 hW hcnd _
  have hval : ∀ (j : Nat) t v, Try.f5.params[j]? = some t → args[j]? = some v → Value.okWide Try.prog W .any base t v := hval0
  have hW' := hW
  obtain ⟨p, q, hA0, hV, rfl, hfz, hnd⟩ := hW
  have hA : DataW.TrodAll enc Try.prog W 0 (fun _ => true) true Try.f5.params.toList args.toList ds p := hA0
  rw [Try.params5] at hA hval
  obtain ⟨v0, v1, v2, d0, d1, d2, p0, p1, p2, rfl, rfl, rfl, h0, h1, h2⟩ := trodAll_three hA
  obtain ⟨rfl, rfl⟩ := trodVars_none hV
  obtain ⟨a, b, c, e, rfl⟩ := open_arr4 (hval 0 43 v0 rfl rfl) h0
  obtain ⟨x, rfl, _, _, _⟩ := open_int Try.underlying3 (hval 1 3 v1 rfl rfl) h1
  obtain ⟨i, rfl, _, _, _⟩ := open_int Try.underlying3 (hval 2 3 v2 rfl rfl) h2
  refine (preps_any a b c e x i W).mono fun z W' ⟨he, hs⟩ => ?_
  subst he
  exact ⟨_, rfl, law_post Try.laidOutG rfl (by rw [Try.params5]; intro t ht; simp at ht; rcases ht with rfl | rfl | rfl <;> exact ⟨by kernel_rfl, of_decide_eq_true (by kernel_rfl)⟩) 4 (by kernel_rfl) Try.underlying4 hW' rfl hs⟩

theorem packetReps_holds : Rows.PacketRepsSaid :=
  OpenClaim.holds_of_wide 5 Try.f5 rfl rfl rfl rfl rfl rfl rfl ⟨rfl, rfl, rfl, rfl, rfl⟩ rfl rfl rfl rfl rfl (by kernel_rfl) Try.func5 (by kernel_rfl)
    (of_decide_eq_true (by kernel_rfl)) (by unfold Func.isWrapper; first | (rw [if_pos (by decide +kernel)]; kernel_rfl) | (rw [if_neg (by decide +kernel)]; exact ⟨rfl, rfl⟩))
    (fun os started H enc _ => packetReps_lifted os started H enc)

#print axioms packetReps_holds
end Go.Proofs.Ythghmnaljhbggaa
