/- PacketApplies: for any packets and any limit, the program's Apply tells the text, or the error, that the document's tells, its Repeat lays the same packets, that tell the same text, and each packet fits as the document has it; the call returns true; no condition. -/
import Derived.Test.YtalopgbkjgjppaaRow
import Derived.Test.YtalopgbkjgjppaaPa
namespace Go.Proofs.Ytalopgbkjgjppaa
open Go.ChangeShapes Go.WideShapes Go.ChangeAt Go.RowKit Go.Cas

theorem Try.ownP : ownKnob Try.prog.godebug = none := by kernel_rfl
theorem Try.laidOutP : laidOutB Try.prog = true := by kernel_rfl

theorem u8_of (z : Int) (h : (Lit.int .u8 z).wf = true) : ∃ y : UInt8, (.int .u8 z : Value) = b8 y := by
  simp [Lit.wf, IntKind.min, IntKind.max, IntKind.signed, IntKind.bits] at h
  refine ⟨UInt8.ofNat z.toNat, ?_⟩
  show Value.int .u8 z = Value.int .u8 (((UInt8.ofNat z.toNat).toNat : Nat) : Int)
  congr 1
  rw [UInt8.toNat_ofNat']
  omega

set_option maxRecDepth 100000 in
theorem open_pk {H : Type} {enc : TypeId × Value → H} {W : World} {n : Nat} {cs : List Value} {x : DataW H × List MemPlace} (hl : cs.length = 4)
    (h : DataW.trod enc Try.prog W 0 (fun _ => true) true n 75 cs = some x) : ∃ p : Pk, cs = p.cells := by
  obtain ⟨xs, m, _, _, _, hxl, hx⟩ := DataW.trod_struct Try.underlying75 h
  have c3 : Try.prog.cellsOf 3 = 1 := by kernel_rfl
  have c5 : Try.prog.cellsOf 5 = 1 := by kernel_rfl
  have hxl4 : xs.length = 4 := hxl
  match cs, hl with
  | [c0, c1, c2, c3'], _ =>
    have e0 : DataW.trod enc Try.prog W 0 (fun _ => true) true m 3 (([c0, c1, c2, c3'].drop 0).take (Try.prog.cellsOf 3)) = xs[0]? := hx 0 _ rfl
    have e1 : DataW.trod enc Try.prog W 0 (fun _ => true) true m 3 (([c0, c1, c2, c3'].drop 1).take (Try.prog.cellsOf 3)) = xs[1]? := hx 1 _ rfl
    have e2 : DataW.trod enc Try.prog W 0 (fun _ => true) true m 3 (([c0, c1, c2, c3'].drop 2).take (Try.prog.cellsOf 3)) = xs[2]? := hx 2 _ rfl
    have e3 : DataW.trod enc Try.prog W 0 (fun _ => true) true m 5 (([c0, c1, c2, c3'].drop 3).take (Try.prog.cellsOf 5)) = xs[3]? := hx 3 _ rfl
    rw [c3] at e0 e1 e2
    rw [c5] at e3
    rw [List.getElem?_eq_getElem (by omega)] at e0 e1 e2 e3
    obtain ⟨n0, h0, _, _⟩ := DataW.trod_int Try.underlying3 e0
    obtain ⟨n1, h1, _, _⟩ := DataW.trod_int Try.underlying3 e1
    obtain ⟨n2, h2, _, _⟩ := DataW.trod_int Try.underlying3 e2
    obtain ⟨n3, h3, _, w3⟩ := DataW.trod_int Try.underlying5 e3
    simp at h0 h1 h2 h3
    obtain ⟨y, hy⟩ := u8_of n3 w3
    exact ⟨⟨n0, n1, n2, y⟩, by rw [h0, h1, h2, h3, hy]; rfl⟩

set_option maxRecDepth 100000 in
theorem open_pks {H : Type} {enc : TypeId × Value → H} {W : World} {base : Nat} {v : Value} {d : DataW H} {p : List MemPlace} (hv : Value.okWide Try.prog W .any base 31 v)
    (h : DataW.Trod enc Try.prog W 0 (fun _ => true) true 31 v d p) :
    ∃ (q : Option Addr) (n cap : Nat) (L : List Pk), v = .slice q n cap ∧ n ≤ maxLen ∧ L.length = min n 60 ∧ OutPks W q L := by
  have hC : Try.prog.cellsOf 75 = 4 := by kernel_rfl
  obtain ⟨q, n, cap, rfl⟩ := okWide_slice Try.underlying31 hv
  obtain ⟨fuel, hf⟩ := h
  rcases Go.Deep.open_slice Try.underlying31 hf with ⟨hcs, _⟩ | ⟨a, len, cap', m, k, D, Pl, hcs, _, hl, hm, hmm, hx, hcell⟩
  · simp [Value.cells] at hcs
    obtain ⟨rfl, rfl, rfl⟩ := hcs
    exact ⟨none, 0, 0, [], rfl, Nat.zero_le _, rfl, by intro k p hk; simp at hk⟩
  · simp [Value.cells] at hcs
    obtain ⟨rfl, rfl, rfl⟩ := hcs
    simp at hmm
    subst hmm
    have H1 : ∀ i, ∃ p : Pk, i < n → a.block < W.heap.size ∧ W.cell? (a.add (i * 4)) = some (i6 p.k) ∧ W.cell? (a.add (i * 4 + 1)) = some (i6 p.d) ∧ W.cell? (a.add (i * 4 + 2)) = some (i6 p.l) ∧ W.cell? (a.add (i * 4 + 3)) = some (b8 p.y) := by
      intro i
      by_cases hi : i < n
      · obtain ⟨cs', h1, h2⟩ := hcell i (by omega)
        rw [hC] at h1
        obtain ⟨_, hlen, hat⟩ := World.cells?_some h1
        obtain ⟨p, rfl⟩ := open_pk hlen h2
        have e0 := hat 0 (by omega)
        have e1 := hat 1 (by omega)
        have e2 := hat 2 (by omega)
        have e3 := hat 3 (by omega)
        rw [Go.Deep.add_add] at e0 e1 e2 e3
        have hb := World.block_lt_of_cell? W (a.add (i * 4 + 0)) (by rw [e0]; rfl)
        exact ⟨p, fun _ => ⟨by unfold Addr.add at hb; split at hb <;> exact hb, e0, e1, e2, e3⟩⟩
      · exact ⟨⟨0, 0, 0, 0⟩, fun h => absurd h hi⟩
    obtain ⟨V, hV⟩ := Classical.axiomOfChoice H1
    refine ⟨some a, n, _, (List.range (min n 60)).map V, rfl, by omega, by simp, ?_⟩
    intro i p hp
    have hi : i < min n 60 := by
      have := (List.getElem?_eq_some_iff.1 hp).1
      simpa using this
    simp only [List.getElem?_map] at hp
    rw [List.getElem?_range hi] at hp
    simp only [Option.map_some, Option.some.injEq] at hp
    subst hp
    exact ⟨a, rfl, hV i (by omega)⟩

set_option maxRecDepth 100000 in
theorem packetApplies_lifted (os : Os) (started : os.Started) (H : Type) (enc : TypeId × Value → H) :
    ReturnsInHanded {} Try.checked os 4 .any (Rows.packetAppliesSpec.pre6 enc Try.prog Try.f4 Rows.packetAppliesRow.domain false) (Rows.packetAppliesSpec.post enc Try.prog Try.f4 false true false false) := by
  refine returnsInHanded_of_change (C := Try.checked) Try.ownP started (by kernel_rfl) Try.func4
    (ChangeSpec.witness6 (enc := enc) (C := Try.checked) false ⟨#[], #[.slice none 0 0, .int .i64 0], []⟩ 8 (by kernel_rfl) (by kernel_rfl) (by kernel_rfl) (by kernel_rfl)) ?_
  intro W base args ds gs before hval0 hW hcnd _
  have hval : ∀ (j : Nat) t v, Try.f4.params[j]? = some t → args[j]? = some v → Value.okWide Try.prog W .any base t v := hval0
  have hW' := hW
  obtain ⟨p, q, hA0, hV, rfl, hfz, hnd⟩ := hW
  have hA : DataW.TrodAll enc Try.prog W 0 (fun _ => true) true Try.f4.params.toList args.toList ds p := hA0
  rw [Try.params4] at hA hval
  obtain ⟨v0, v1, d0, d1, p0, p1, rfl, rfl, rfl, h0, h1⟩ := trodAll_two hA
  obtain ⟨rfl, rfl⟩ := trodVars_none hV
  obtain ⟨a, n, cap, L, rfl, hn, hL, hl⟩ := open_pks (hval 0 31 v0 rfl rfl) h0
  obtain ⟨x, rfl, _, _, hx⟩ := open_int Try.underlying3 (hval 1 3 v1 rfl rfl) h1
  have hx' : -9223372036854775808 ≤ x ∧ x ≤ 9223372036854775807 := by
    simp [Lit.wf, IntKind.min, IntKind.max, IntKind.signed, IntKind.bits] at hx
    omega
  refine (papplies_any a n cap x L W hn hL hl hx'.1 hx'.2).mono fun z W' ⟨he, hs⟩ => ?_
  subst he
  exact ⟨_, rfl, law_post Try.laidOutP rfl (by rw [Try.params4]; intro t ht; simp at ht; rcases ht with rfl | rfl <;> exact ⟨by kernel_rfl, of_decide_eq_true (by kernel_rfl)⟩) 4 (by kernel_rfl) Try.underlying4 hW' rfl hs⟩

theorem packetApplies_holds : Rows.PacketAppliesSaid :=
  OpenClaim.holds_of_wide 4 Try.f4 rfl rfl rfl rfl rfl rfl rfl ⟨rfl, rfl, rfl, rfl, rfl⟩ rfl rfl rfl rfl rfl (by kernel_rfl) Try.func4 (by kernel_rfl)
    (of_decide_eq_true (by kernel_rfl)) (by unfold Func.isWrapper; first | (rw [if_pos (by decide +kernel)]; kernel_rfl) | (rw [if_neg (by decide +kernel)]; exact ⟨rfl, rfl⟩))
    (fun os started H enc _ => packetApplies_lifted os started H enc)

#print axioms packetApplies_holds
end Go.Proofs.Ytalopgbkjgjppaa
