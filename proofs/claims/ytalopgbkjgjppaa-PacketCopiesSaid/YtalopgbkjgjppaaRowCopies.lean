/- PacketCopies: for any text and any list of pairs, the packets that the statement lays tell the text that goes round, and the call returns true; no condition. -/
import Derived.Test.YtalopgbkjgjppaaRow
import Derived.Test.YtalopgbkjgjppaaPcx
namespace Go.Proofs.Ytalopgbkjgjppaa
open Go.ChangeShapes Go.WideShapes Go.ChangeAt Go.RowKit Go.Cas

theorem Try.ownC : ownKnob Try.prog.godebug = none := by kernel_rfl
theorem Try.laidOutC : laidOutB Try.prog = true := by kernel_rfl

set_option maxRecDepth 100000 in
theorem open_pair16 {H : Type} {enc : TypeId × Value → H} {W : World} {n : Nat} {cs : List Value} {x : DataW H × List MemPlace} (hl : cs.length = 2)
    (h : DataW.trod enc Try.prog W 0 (fun _ => true) true n 53 cs = some x) : ∃ a b : Int, cs = [.int .u16 a, .int .u16 b] ∧ 0 ≤ a ∧ a < 65536 ∧ 0 ≤ b ∧ b < 65536 := by
  have hC3 : Try.prog.cellsOf 52 = 1 := by kernel_rfl
  obtain ⟨xs, m, _, _, _, hxl, hx⟩ := DataW.trod_array Try.underlying53 h
  match cs, hl with
  | [c0, c1], _ =>
    have e : ∀ i, i < 2 → ∃ x, DataW.trod enc Try.prog W 0 (fun _ => true) true m 52 (([c0, c1].drop i).take 1) = some x := by
      intro i hi
      have := hx i hi
      rw [hC3, Nat.mul_one] at this
      refine ⟨xs[i], ?_⟩
      rw [← List.getElem?_eq_getElem]
      simpa using this
    obtain ⟨x0, e0⟩ := e 0 (by omega)
    obtain ⟨x1, e1⟩ := e 1 (by omega)
    obtain ⟨n0, h0, _, w0⟩ := DataW.trod_int Try.underlying52 e0
    obtain ⟨n1, h1, _, w1⟩ := DataW.trod_int Try.underlying52 e1
    simp at h0 h1
    have k : ∀ z : Int, (Lit.int .u16 z).wf = true → 0 ≤ z ∧ z < 65536 := by
      intro z hz
      simp [Lit.wf, IntKind.min, IntKind.max, IntKind.signed, IntKind.bits] at hz
      omega
    exact ⟨n0, n1, by rw [h0, h1], (k _ w0).1, (k _ w0).2, (k _ w1).1, (k _ w1).2⟩

set_option maxRecDepth 100000 in
theorem open_pairs16 {H : Type} {enc : TypeId × Value → H} {W : World} {base : Nat} {v : Value} {d : DataW H} {p : List MemPlace} (hv : Value.okWide Try.prog W .any base 51 v)
    (h : DataW.Trod enc Try.prog W 0 (fun _ => true) true 51 v d p) :
    ∃ (q : Option Addr) (n cap : Nat), v = .slice q n cap ∧ n ≤ maxLen ∧ ∀ i, i < n → ∃ (a : Addr) (x y : Int), q = some a ∧ a.block < W.heap.size ∧ 0 ≤ x ∧ x < 65536 ∧ 0 ≤ y ∧ y < 65536 ∧ W.cell? (a.add (i * 2)) = some (.int .u16 x) ∧ W.cell? (a.add (i * 2 + 1)) = some (.int .u16 y) := by
  have hC : Try.prog.cellsOf 53 = 2 := by kernel_rfl
  obtain ⟨q, n, cap, rfl⟩ := okWide_slice Try.underlying51 hv
  obtain ⟨fuel, hf⟩ := h
  have hlt := DataW.trod_lt _ _ _ _ hf
  rcases Go.Deep.open_slice Try.underlying51 hf with ⟨hcs, _⟩ | ⟨a, len, cap', m, k, D, Pl, hcs, _, hl, hm, hmm, hx, hcell⟩
  · simp [Value.cells] at hcs
    obtain ⟨rfl, rfl, rfl⟩ := hcs
    exact ⟨none, 0, 0, rfl, Nat.zero_le _, by intro i hi; omega⟩
  · simp [Value.cells] at hcs
    obtain ⟨rfl, rfl, rfl⟩ := hcs
    simp at hmm
    subst hmm
    refine ⟨some a, n, _, rfl, by omega, fun i hi => ?_⟩
    obtain ⟨cs', h1, h2⟩ := hcell i (by omega)
    rw [hC] at h1
    obtain ⟨_, hlen, hat⟩ := World.cells?_some h1
    obtain ⟨x, y, rfl, hx0, hx1, hy0, hy1⟩ := open_pair16 hlen h2
    have hab : a.block < W.heap.size := by
      have hp : p = (MemPlace.row a (m * Try.prog.cellsOf 53) ++ (List.range m).flatMap Pl) := by simpa using congrArg Prod.snd hx
      have := hlt (.cell a.block (a.off + 0)) (by rw [hp]; exact List.mem_append_left _ (MemPlace.mem_row.2 ⟨0, by rw [hC]; omega, rfl⟩))
      exact this
    refine ⟨a, x, y, rfl, hab, hx0, hx1, hy0, hy1, ?_, ?_⟩
    · have := hat 0 (by omega)
      rw [Go.Deep.add_add] at this
      exact this
    · have := hat 1 (by omega)
      rw [Go.Deep.add_add] at this
      exact this

set_option maxRecDepth 100000 in
theorem packetCopies_lifted (os : Os) (started : os.Started) (H : Type) (enc : TypeId × Value → H) :
    ReturnsInHanded {} Try.checked os 6 .any (Rows.packetCopiesSpec.pre6 enc Try.prog Try.f6 Rows.packetCopiesRow.domain false) (Rows.packetCopiesSpec.post enc Try.prog Try.f6 false true false false) := by
  refine returnsInHanded_of_change (C := Try.checked) Try.ownC started (by kernel_rfl) Try.func6
    (ChangeSpec.witness6 (enc := enc) (C := Try.checked) false ⟨#[], #[.string ⟨#[]⟩, .slice none 0 0], []⟩ 8 (by kernel_rfl) (by kernel_rfl) (by kernel_rfl) (by kernel_rfl)) ?_
  intro W base args ds gs before hval0 hW hcnd _
  have hval : ∀ (j : Nat) t v, Try.f6.params[j]? = some t → args[j]? = some v → Value.okWide Try.prog W .any base t v := hval0
  have hW' := hW
  obtain ⟨p, q, hA0, hV, rfl, hfz, hnd⟩ := hW
  have hA : DataW.TrodAll enc Try.prog W 0 (fun _ => true) true Try.f6.params.toList args.toList ds p := hA0
  rw [Try.params6] at hA hval
  obtain ⟨v0, v1, d0, d1, p0, p1, rfl, rfl, rfl, h0, h1⟩ := trodAll_two hA
  obtain ⟨rfl, rfl⟩ := trodVars_none hV
  obtain ⟨s, rfl, _, _, hs⟩ := Go.ChangeMaps.open_string Try.underlying9 (hval 0 9 v0 rfl rfl) h0
  obtain ⟨a, n, cap, rfl, hn, hl⟩ := open_pairs16 (hval 1 51 v1 rfl rfl) h1
  have hd : s = ⟨s.data.toList.toArray⟩ := by apply ByteArray.ext; simp
  have H : Calls Try.prog 6 #[.string s, .slice a n cap] W fun e w' => e = .returned (.bool true) ∧ Same W w' := by
    rw [hd]
    exact pcopies_any s.data.toList a n cap W (by simpa using hs) hn hl
  refine H.mono fun z W' ⟨he, hs⟩ => ?_
  subst he
  exact ⟨_, rfl, law_post Try.laidOutC rfl (by rw [Try.params6]; intro t ht; simp at ht; rcases ht with rfl | rfl <;> exact ⟨by kernel_rfl, of_decide_eq_true (by kernel_rfl)⟩) 4 (by kernel_rfl) Try.underlying4 hW' rfl hs⟩

theorem packetCopies_holds : Rows.PacketCopiesSaid :=
  OpenClaim.holds_of_wide 6 Try.f6 rfl rfl rfl rfl rfl rfl rfl ⟨rfl, rfl, rfl, rfl, rfl⟩ rfl rfl rfl rfl rfl (by kernel_rfl) Try.func6 (by kernel_rfl)
    (of_decide_eq_true (by kernel_rfl)) (by unfold Func.isWrapper; first | (rw [if_pos (by decide +kernel)]; kernel_rfl) | (rw [if_neg (by decide +kernel)]; exact ⟨rfl, rfl⟩))
    (fun os started H enc _ => packetCopies_lifted os started H enc)

#print axioms packetCopies_holds
end Go.Proofs.Ytalopgbkjgjppaa
