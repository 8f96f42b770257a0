/- Part of a proof: Qg, Qh. -/
import Derived.Test.YtalopgbkjgjppaaGreatDoorGQa
import Derived.Test.YtalopgbkjgjppaaGreatDoorGCk
import Derived.Lib.LaidTab
/- Keys of four ints: the map of the document's probabilities. -/
namespace Go.Proofs.YtalopgbkjgjppaaGreatDoor
open Go.RowKit Go.Cas Go.Maps Go.Cas.Enc

theorem Tryz.keyed4 : Keyed Tryz.prog 60 := Keyed.of_law (deep_law_laid Tryz.laidK (m := 6) (by decide) (of_decide_eq_true (by kernel_rfl)) (by kernel_rfl) (by kernel_rfl))

abbrev kv4 (a b c d : Nat) : Value := .agg #[i6 a, i6 b, i6 c, i6 d]
def kl4 (a b c d : Nat) : Lit := .string (keyBytes [.int .i64 a, .int .i64 b, .int .i64 c, .int .i64 d])

theorem i6_wf (x : Nat) (h : x < 1000000000) : (Lit.int .i64 (x : Int)).wf = true := by
  simp [Lit.wf, IntKind.min, IntKind.max, IntKind.signed, IntKind.bits]
  omega
theorem u64_wf (x : Nat) (h : x < 1000000000) : (Lit.int .u64 (x : Int)).wf = true := by
  simp [Lit.wf, IntKind.min, IntKind.max, IntKind.signed, IntKind.bits]
  omega

theorem keyOf_kv4 (a b c d : Nat) (ha : a < 1000000000) (hb : b < 1000000000) (hc : c < 1000000000) (hd : d < 1000000000) : keyOf Tryz.prog 60 (kv4 a b c d) = some (kl4 a b c d) := by
  have h1 : Tryz.prog.keyType 60 = true := by kernel_rfl
  have h2 : Tryz.prog.cellsOf 60 = 4 := by kernel_rfl
  have h3 : Tryz.prog.cellsOf 3 = 1 := by kernel_rfl
  obtain ⟨n, hn⟩ : ∃ n, Tryz.prog.types.size = n + 1 := ⟨Tryz.prog.types.size - 1, by kernel_rfl⟩
  unfold keyOf
  simp only [Tryz.underlying60, h1, Value.formed, h2, hn]
  simp [Value.cells, Program.keyLits, Tryz.underlying60, Tryz.underlying3, h2, h3, i6_wf _ ha, i6_wf _ hb, i6_wf _ hc, i6_wf _ hd, kl4, List.range_succ, List.mapM_cons]

/-- A map of probabilities. -/
inductive MapOk : DataW Unit → Prop
  | nil : MapOk (.map [])
  | put {D : DataW Unit} (K : Lit) (p : Nat) : MapOk D → okPr p → WideAt.IsKeyLit K → MapOk (D.put K (.lit (.int .u64 p)))

theorem MapOk.isMap {D : DataW Unit} (h : MapOk D) : IsMap D := by
  induction h with
  | nil => exact isMap_empty
  | put K p _ _ _ ih => exact ih.put _ _

theorem MapOk.at {D : DataW Unit} (h : MapOk D) (K : Lit) (z : Nat) (hz : z = 0 ∨ okPr z) : ∃ v : Nat, D.atKey K (.lit (.int .u64 z)) = .lit (.int .u64 v) ∧ (v = 0 ∨ okPr v) ∧ (z = 0 → v = 0 ∨ okPr v) := by
  induction h with
  | nil => exact ⟨z, rfl, hz, fun _ => hz⟩
  | put K' p hD hp hK ih =>
    by_cases e : K' = K
    · subst e
      exact ⟨p, atKey_put_same hD.isMap hK _ _, .inr hp, fun _ => .inr hp⟩
    · obtain ⟨v, h1, h2, h3⟩ := ih
      refine ⟨v, ?_, h2, h3⟩
      rw [atKey_put_other (fun h => e h.symm), h1]

theorem Tryz.zeroU (w : World) : (zeroValue 54).run Tryz.prog w = .ok (.int .u64 0) w := by kernel_rfl

end Go.Proofs.YtalopgbkjgjppaaGreatDoor

/- The document's model in memory; a bit by its name. -/
namespace Go.Proofs.YtalopgbkjgjppaaGreatDoor
open Go.RowKit Go.Cas Go.Maps Go.Cas.Enc

structure Mdl where
  lc : Nat
  lp : Nat
  pb : Nat
  st : Nat
  r0 : Int
  r1 : Int
  r2 : Int
  r3 : Int
  T : List UInt8

abbrev Mdl.cells (M : Mdl) (mb : Nat) : Array Value := #[i6 M.lc, i6 M.lp, i6 M.pb, .map (some mb), i6 M.st, i6 M.r0, i6 M.r1, i6 M.r2, i6 M.r3, .string ⟨M.T.toArray⟩]

/-- The document's model: its block, and its map of at most k names. -/
structure D10 (w : World) (p mb : Nat) (M : Mdl) (k : Nat) : Prop where
  blk : Blk w p (M.cells mb) 65
  map : ∃ D, MapOk D ∧ w.ownsMap Tryz.prog 60 (plainElem (H := Unit) Tryz.prog 54) mb k D
  ne : mb ≠ p

theorem D10.lt {w : World} {p mb : Nat} {M : Mdl} {k : Nat} (h : D10 w p mb M k) : mb < w.heap.size := by
  obtain ⟨D, _, h2⟩ := h.map
  exact h2.lt
theorem D10.keeps {S : Nat → Prop} {w w' : World} {p mb : Nat} {M : Mdl} {k : Nat} (h : D10 w p mb M k) (K : Keeps S w w') (h1 : ¬ S p) (h2 : ¬ S mb) : D10 w' p mb M k := by
  refine ⟨h.blk.keeps K h1, ?_, h.ne⟩
  obtain ⟨D, d1, d2⟩ := h.map
  exact ⟨D, d1, map_keeps d2 K h2⟩
theorem D10.mono {w : World} {p mb : Nat} {M : Mdl} {k k' : Nat} (h : D10 w p mb M k) (hk : k ≤ k') : D10 w p mb M k' := by
  refine ⟨h.blk, ?_, h.ne⟩
  obtain ⟨D, d1, d2⟩ := h.map
  exact ⟨D, d1, d2.mono hk⟩

/-- An encoder behind at most k bits. -/
def EN (w : World) (v : Value) (k : Nat) : Prop := ∃ n sz, E3 w v n sz ∧ n ≤ 4 * k + 4 ∧ 16777216 ≤ sz ∧ sz < 4294967296

theorem EN.same {w w' : World} {v : Value} {k : Nat} (h : EN w v k) (hs : Same w w') : EN w' v k := by
  obtain ⟨n, sz, h1, h2⟩ := h
  exact ⟨n, sz, h1.same hs, h2⟩
theorem EN.mono {w : World} {v : Value} {k k' : Nat} (h : EN w v k) (hk : k ≤ k') : EN w v k' := by
  obtain ⟨n, sz, h1, h2, h3⟩ := h
  exact ⟨n, sz, h1, by omega, h3⟩

theorem bys_map {w : World} {g cap b : Nat} {bs : List UInt8} {k : TypeId} {n : Nat} {R : Value → Option (DataW Unit × List MemPlace)} {D : DataW Unit} (h : Bys w (some ⟨g, 0, none⟩) cap bs) (hb : w.ownsMap Tryz.prog k R b n D) : g ≠ b := by
  rintro rfl
  obtain ⟨es, clock, h1, _⟩ := hb
  rcases h.own.2 with ⟨h1, _⟩ | ⟨g', c', cur, h2, _, hg, _⟩
  · simp at h1
  · simp at h2
    obtain ⟨rfl, rfl⟩ := h2
    rw [h1] at hg
    simp at hg

theorem EN.keeps {w w' : World} {v : Value} {p mb k k' : Nat} {M : Mdl} {S : Nat → Prop} (h : EN w v k) (hD : D10 w p mb M k') (hs : Keeps S w w') (hS : ∀ b, S b → b = p ∨ b = mb) : EN w' v k := by
  obtain ⟨n, sz, h1, h2⟩ := h
  refine ⟨n, sz, h1.keeps hs (fun g x y e hg => ?_), h2⟩
  obtain ⟨g', cap, bs, e', _, hB, _⟩ := h1
  rw [e'] at e
  simp at e
  obtain ⟨⟨rfl, _⟩, _⟩ := e
  rcases hS _ hg with rfl | rfl
  · exact bys_ne hB hD.blk (by decide) rfl
  · obtain ⟨D, _, d2⟩ := hD.map
    exact bys_map hB d2 rfl

/-- In the midst of 'bit'. -/
structure QH (w V : World) (p mb x : Nat) (M : Mdl) (k : Nat) (E K : Array Value) : Prop where
  be : Blk V x E 56
  bn : Blk V (x + 1) K 60
  br : Blk V (x + 2) #[.slice none 0 0, .int .u64 0] 56
  D : D10 V p mb M k
  S : Keeps (fun b => b = mb) w V
  hx : w.heap.size = x
  px : p < x
  mx : mb < x

theorem QH.np {w V : World} {p mb x : Nat} {M : Mdl} {k : Nat} {E K : Array Value} (h : QH w V p mb x M k E K) : ¬ (p = x ∨ p = mb) := by
  have h1 := h.px
  have h2 := h.D.ne
  rintro (e | e)
  · omega
  · exact h2 e.symm
theorem QH.nn {w V : World} {p mb x : Nat} {M : Mdl} {k : Nat} {E K : Array Value} (h : QH w V p mb x M k E K) : ¬ (x + 1 = x ∨ x + 1 = mb) := by
  have := h.mx
  omega
theorem QH.same {w V V' : World} {p mb x : Nat} {M : Mdl} {k : Nat} {E K : Array Value} (h : QH w V p mb x M k E K) (hs : Same V V') : QH w V' p mb x M k E K :=
  ⟨h.be.keeps hs (fun h => h), h.bn.keeps hs (fun h => h), h.br.keeps hs (fun h => h), h.D.keeps hs (fun h => h) (fun h => h), h.S.trans' hs (fun _ _ h => h.elim), h.hx, h.px, h.mx⟩

theorem qh_store {w V wa : World} {p mb x : Nat} {M : Mdl} {k g2 n2 c2 s2 : Nat} {a0 a1 : Value} {K : Array Value} {bs2 : List UInt8} (h : QH w V p mb x M k #[a0, a1] K) (hB : Bys V (some ⟨g2, 0, none⟩) c2 bs2) (hK : Keeps (fun b => b = x ∨ b = mb) wa V) :
    QH w ((V.setCell ⟨x, 0, none⟩ (.slice (some ⟨g2, 0, none⟩) n2 c2)).setCell ⟨x, 1, none⟩ (v64 s2)) p mb x M k #[.slice (some ⟨g2, 0, none⟩) n2 c2, v64 s2] K ∧
    Bys ((V.setCell ⟨x, 0, none⟩ (.slice (some ⟨g2, 0, none⟩) n2 c2)).setCell ⟨x, 1, none⟩ (v64 s2)) (some ⟨g2, 0, none⟩) c2 bs2 ∧
    Keeps (fun b => b = x ∨ b = mb) wa ((V.setCell ⟨x, 0, none⟩ (.slice (some ⟨g2, 0, none⟩) n2 c2)).setCell ⟨x, 1, none⟩ (v64 s2)) := by
  have hb' := (h.be.set 0 (.slice (some ⟨g2, 0, none⟩) n2 c2)).set 1 (v64 s2)
  simp only [List.setIfInBounds_toArray, List.set_cons_zero, List.set_cons_succ] at hb'
  have hK' : Keeps (fun b => b = x) V ((V.setCell ⟨x, 0, none⟩ (.slice (some ⟨g2, 0, none⟩) n2 c2)).setCell ⟨x, 1, none⟩ (v64 s2)) := Keeps.setCell (p := ⟨x, 1, none⟩) (Keeps.setCell (p := ⟨x, 0, none⟩) (Keeps.refl (fun b => b = x) _) (fun _ => rfl) _) (fun _ => rfl) _
  have hg : g2 ≠ x := bys_ne hB h.be (by decide)
  have h1 := h.hx
  have h2 := h.px
  have h3 := h.mx
  exact ⟨⟨hb', h.bn.keeps hK' (by omega), h.br.keeps hK' (by omega), h.D.keeps hK' (by omega) (by omega), h.S.trans' hK' (fun b hb e => by omega), h1, h2, h3⟩, hB.keeps hK' (fun b hb e => by simp [sblk] at hb; omega), hK.trans' hK' (fun b _ e => .inl e)⟩

theorem qh_put {w V : World} {p mb x : Nat} {M : Mdl} {k : Nat} {E K : Array Value} {key : Value} {L : Lit} {q : Nat} (h : QH w V p mb x M k E K) (hK : keyOf Tryz.prog 60 key = some L) (hq : okPr q) (hk : k ≤ 200000) :
    ∃ V', (Instr.mapUpdate 63 (.map (some mb)) key (v64 q)).run Tryz.prog V = .ok () V' ∧ QH w V' p mb x M (k + 1) E K ∧ Keeps (fun b => b = mb) V V' := by
  obtain ⟨D, hD, hmap⟩ := h.D.map
  have hq' := hq
  unfold okPr at hq'
  obtain ⟨w5, hrun, r1, r2⟩ := World.ownsMap.store (w := V) hmap Tryz.keyed4 Tryz.underlying63 (by unfold maxLen; omega) hK (plainElem_int (a := (q : Int)) Tryz.underlying54 (u64_wf q (by omega)))
  have hK5 : Keeps (fun b => b = mb) V w5 := (Keeps.grown (Keeps.refl (fun b => b = mb) V) r2.grown (fun k e _ => by simpa using e.symm))
  have h3 := h.mx
  have h2 := h.px
  have hne := h.D.ne
  exact ⟨w5, hrun, ⟨h.be.keeps hK5 (by omega), h.bn.keeps hK5 (by omega), h.br.keeps hK5 (by omega), ⟨h.D.blk.keeps hK5 (fun e => hne e.symm), ⟨_, hD.put L q hq (Tryz.keyed4.key hK), r1⟩, hne⟩, h.S.trans' hK5 (fun b _ e => e), h.hx, h2, h3⟩, hK5⟩

theorem look_at {V : World} {mb k : Nat} {key : Value} {L : Lit} {D : DataW Unit} {v : Nat} (hmap : V.ownsMap Tryz.prog 60 (plainElem (H := Unit) Tryz.prog 54) mb k D) (hK : keyOf Tryz.prog 60 key = some L) (hv : D.atKey L (.lit (.int .u64 0)) = .lit (.int .u64 v)) :
    (Instr.lookup 63 (.map (some mb)) key false).run Tryz.prog V = .ok (v64 v) V := by
  obtain ⟨c, hrun, hc, _⟩ := hmap.lookup_int Tryz.keyed4 Tryz.underlying63 Tryz.underlying54 (Tryz.zeroU V) hK
  rw [hv] at hc
  simp at hc
  subst hc
  exact hrun

set_option maxHeartbeats 4000000 in
set_option maxRecDepth 100000 in
theorem r10bit_any (p mb : Nat) (M : Mdl) (k : Nat) (v : Value) (a b c d : Nat) (x1 : Int) (w : World) (hD : D10 w p mb M k) (hE : EN w v k) (hk : k ≤ 200000) (ha : a < 1000000000) (hb : b < 1000000000) (hc : c < 1000000000) (hd : d < 1000000000) :
    Calls Tryz.prog 50 #[.pointer (some ⟨p, 0, none⟩), v, kv4 a b c d, i6 x1] w fun z w' => ∃ v', z = .returned v' ∧ EN w' v' (k + 1) ∧ D10 w' p mb M (k + 1) ∧ Keeps (fun b => b = mb) w w' := by
  obtain ⟨n, sz, hE3, hn, hz0, hz1⟩ := hE
  have hE0 := hE3
  obtain ⟨g, cap, bs, rfl, hlen, hB, hn0⟩ := hE3
  have hkey := keyOf_kv4 a b c d ha hb hc hd
  obtain ⟨KL, hKL⟩ : ∃ KL, kl4 a b c d = KL := ⟨_, rfl⟩
  rw [hKL] at hkey
  obtain ⟨D, hMO, hmap⟩ := hD.map
  obtain ⟨pv, hat, hpv, _⟩ := hMO.at KL 0 (.inl rfl)
  have hpl := hD.blk.lt
  have hml := hD.lt
  have HKey := hid hkey
  have HAt := hid hat
  have HPv := hid hpv
  have HBi0 := hid (fun (q : Nat) (w0 : World) (h : E3 w0 (.agg #[.slice (some ⟨g, 0, none⟩) n cap, v64 sz]) n sz) (hq : okPr q) => r3bit_any _ n sz q x1 w0 h (by omega) hz0 hz1 hq)
  have HN := hid hn
  have HB0 := hid (And.intro hE0 hD)
  clear hE0 hlen hB hn0 hKL ha hb hc hd hD hMO hkey hat hn hz0 hz1 hpv
  go_enter Tryz.func50, Tryz.ntmps50
  go_upto_region 1 with fail
  have hbe : Blk (((w.alloc (.cells #[.slice (some ⟨g, 0, none⟩) n cap, v64 sz] 56)).alloc (.cells #[i6 a, i6 b, i6 c, i6 d] 60)).alloc (.cells #[.slice none 0 0, .int .u64 0] 56)) w.heap.size #[.slice (some ⟨g, 0, none⟩) n cap, v64 sz] 56 := ((Blk.new _ _ _).alloc _).alloc _
  have hbn : Blk (((w.alloc (.cells #[.slice (some ⟨g, 0, none⟩) n cap, v64 sz] 56)).alloc (.cells #[i6 a, i6 b, i6 c, i6 d] 60)).alloc (.cells #[.slice none 0 0, .int .u64 0] 56)) (w.heap.size + 1) #[i6 a, i6 b, i6 c, i6 d] 60 := (Blk.new_at (by simp)).alloc _
  have hbr : Blk (((w.alloc (.cells #[.slice (some ⟨g, 0, none⟩) n cap, v64 sz] 56)).alloc (.cells #[i6 a, i6 b, i6 c, i6 d] 60)).alloc (.cells #[.slice none 0 0, .int .u64 0] 56)) (w.heap.size + 2) #[.slice none 0 0, .int .u64 0] 56 := Blk.new_at (by simp)
  have hsa : Same w (((w.alloc (.cells #[.slice (some ⟨g, 0, none⟩) n cap, v64 sz] 56)).alloc (.cells #[i6 a, i6 b, i6 c, i6 d] 60)).alloc (.cells #[.slice none 0 0, .int .u64 0] 56)) := (((Keeps.refl _ _).alloc _).alloc _).alloc _
  generalize (((w.alloc (.cells #[.slice (some ⟨g, 0, none⟩) n cap, v64 sz] 56)).alloc (.cells #[i6 a, i6 b, i6 c, i6 d] 60)).alloc (.cells #[.slice none 0 0, .int .u64 0] 56)) = w1 at hbe hbn hbr hsa ⊢
  obtain ⟨x, hx⟩ : ∃ x, w.heap.size = x := ⟨_, rfl⟩
  have HM1 : Hid (QH w w1 p mb x M k #[.slice (some ⟨g, 0, none⟩) n cap, v64 sz] #[i6 a, i6 b, i6 c, i6 d]) := hid ⟨hx ▸ hbe, hx ▸ hbn, hx ▸ hbr, HB0.out.2.keeps hsa (fun h => h) (fun h => h), Keeps.of_same hsa, hx, by omega, by omega⟩
  have HE1 := hid (HB0.out.1.same hsa)
  have hmap1 := map_keeps hmap hsa (fun h => h)
  have hlook := fun n => look_at (V := w1.drewN n) hmap1 HKey.out HAt.out
  have c3 := HM1.out.D.blk.cell 3
  have k0 := HM1.out.bn.cell 0
  have k1 := HM1.out.bn.cell 1
  have k2 := HM1.out.bn.cell 2
  have k3 := HM1.out.bn.cell 3
  simp only [List.getElem?_toArray, List.getElem?_cons_succ, List.getElem?_cons_zero] at c3 k0 k1 k2 k3
  clear hbe hbn hbr hsa hmap hmap1
  rw [hx]
  clear hx
  have hxl := HM1.out.be.lt
  have hpw := HM1.out.D.blk.lt
  have hx1l := HM1.out.bn.lt
  go_cut [9] (fun s9 wx => s9 = v64 pv ∧ Same w1 wx)
  case first =>
    go_quiet (fail)
    go_wp2_with fail
    go_meet
    exact ⟨rfl, (Keeps.refl _ _).drewN _⟩
  case rest =>
    obtain ⟨rfl, hs2⟩ := hcut
    obtain ⟨w0, rfl⟩ : ∃ w0 : World, w0 = wc := ⟨_, rfl⟩
    have HM2 := hid (HM1.out.same hs2)
    have HE2 := hid (HE1.out.same hs2)
    clear hlook c3 k0 k1 k2 k3 hs2 hxl hpw hx1l
    go_upto_if 17 with fail
    go_cut [9] (fun s9 wx => ∃ q, s9 = v64 q ∧ okPr q ∧ wx = w0)
    case first =>
      by_cases hp0 : pv = 0
      · subst hp0
        go_wp2_with fail
        go_meet
        exact ⟨1024, rfl, by unfold okPr; omega, rfl⟩
      · have t0 : ((pv : Int) == 0) = false := by simpa using hp0
        go_wp2_with fail
        go_meet
        exact ⟨pv, rfl, HPv.out.resolve_left hp0, rfl⟩
    case rest =>
      obtain ⟨q, rfl, hq, rfl⟩ := hcut
      obtain ⟨wa, rfl⟩ : ∃ wa : World, wa = wc := ⟨_, rfl⟩
      have HBi := hid (fun (w0 : World) (h : E3 w0 (.agg #[.slice (some ⟨g, 0, none⟩) n cap, v64 sz]) n sz) => HBi0.out q w0 h hq)
      obtain ⟨Q, hQ⟩ : ∃ Q, learnP q (bitN x1) = Q := ⟨_, rfl⟩
      have HOk := hid (learnP_ok (b := bitN x1) hq)
      rw [hQ] at HBi HOk
      have HM := HM2
      have HEa := HE2
      have c3 := HM.out.D.blk.cell 3
      have k0 := HM.out.bn.cell 0
      have k1 := HM.out.bn.cell 1
      have k2 := HM.out.bn.cell 2
      have k3 := HM.out.bn.cell 3
      have y0 := HM.out.be.cell 0
      have y1 := HM.out.be.cell 1
      simp only [List.getElem?_toArray, List.getElem?_cons_succ, List.getElem?_cons_zero] at c3 k0 k1 k2 k3 y0 y1
      clear hQ hq HBi0
      go_upto_region 4 with fail
      refine wp_region_held_drew (S := (fun V => Keeps (fun b => b = x ∨ b = mb) wa V)) (by kernel_rfl) (by (try dsimp only); exact (Keeps.refl _ _).drew) (fun hHeld => ?_)
      refine wpAnyH_take (i := 0) (oi := ⟨some 19, _, _, _, _, _⟩) (v := ?v0) rfl (by kernel_rfl) (by kernel_rfl) (by kernel_rfl) (fun _ _ _ h => h) (Or.inl ⟨by rfl, ?h0⟩) (by assumption) ?r0
      case h0 => intro w hSw; (try dsimp only at hSw); go_simp; (try with_reducible rfl)
      try simp only [Act.put, List.setIfInBounds_toArray, List.set_cons_zero, List.set_cons_succ]
      refine wpAnyH_take (i := 1) (oi := ⟨some 20, _, _, _, _, _⟩) (v := ?v1) rfl (by kernel_rfl) (by kernel_rfl) (by kernel_rfl) (fun _ _ _ h => h) (Or.inl ⟨by rfl, ?h1⟩) (by assumption) ?r1
      case h1 => intro w hSw; (try dsimp only at hSw); go_simp; (try with_reducible rfl)
      try simp only [Act.put, List.setIfInBounds_toArray, List.set_cons_zero, List.set_cons_succ]
      refine wpAnyH_take (i := 2) (oi := ⟨some 21, _, _, _, _, _⟩) (v := ?v2) rfl (by kernel_rfl) (by kernel_rfl) (by kernel_rfl) (fun _ _ _ h => h) (Or.inl ⟨by rfl, ?h2⟩) (by assumption) ?r2
      case h2 => intro w hSw; (try dsimp only at hSw); go_simp; (try with_reducible rfl)
      try simp only [Act.put, List.setIfInBounds_toArray, List.set_cons_zero, List.set_cons_succ]
      refine wpAnyH_take (i := 3) (oi := ⟨some 22, _, _, _, _, _⟩) (v := ?v3) rfl (by kernel_rfl) (by kernel_rfl) (by kernel_rfl) (fun _ _ _ h => h) (Or.inl ⟨by rfl, ?h3⟩) (by assumption) ?r3
      case h3 => intro w hSw; (try dsimp only at hSw); have q3 := (Keeps.cell hSw (p := ⟨p, 3, none⟩) HM.out.D.blk.lt HM.out.np).trans c3; go_simp; (try with_reducible rfl)
      try simp only [Act.put, List.setIfInBounds_toArray, List.set_cons_zero, List.set_cons_succ]
      refine wpAnyH_take (i := 4) (oi := ⟨some 23, _, _, _, _, _⟩) (v := ?v4) rfl (by kernel_rfl) (by kernel_rfl) (by kernel_rfl) (fun _ _ _ h => h) (Or.inl ⟨by rfl, ?h4⟩) (by assumption) ?r4
      case h4 => intro w hSw; (try dsimp only at hSw); have q0 := (Keeps.cell hSw (p := ⟨x + 1, 0, none⟩) HM.out.bn.lt HM.out.nn).trans k0; have q1 := (Keeps.cell hSw (p := ⟨x + 1, 1, none⟩) HM.out.bn.lt HM.out.nn).trans k1; have q2 := (Keeps.cell hSw (p := ⟨x + 1, 2, none⟩) HM.out.bn.lt HM.out.nn).trans k2; have q3 := (Keeps.cell hSw (p := ⟨x + 1, 3, none⟩) HM.out.bn.lt HM.out.nn).trans k3; go_simp; (try with_reducible rfl)
      try simp only [Act.put, List.setIfInBounds_toArray, List.set_cons_zero, List.set_cons_succ]
      refine wpAnyH_take (i := 6) (oi := ⟨some 25, _, _, _, _, _⟩) (v := ?v6) rfl (by kernel_rfl) (by kernel_rfl) (by kernel_rfl) (fun _ _ _ h => h) (Or.inl ⟨by rfl, ?h6⟩) (by assumption) ?r6
      case h6 => intro w hSw; (try dsimp only at hSw); go_simp; (try with_reducible rfl)
      try simp only [Act.put, List.setIfInBounds_toArray, List.set_cons_zero, List.set_cons_succ]
      refine wpAnyH_take (i := 7) (oi := ⟨some 26, _, _, _, _, _⟩) (v := ?v7) rfl (by kernel_rfl) (by kernel_rfl) (by kernel_rfl) (fun _ _ _ h => h) (Or.inl ⟨by rfl, ?h7⟩) (by assumption) ?r7
      case h7 => intro w hSw; (try dsimp only at hSw); go_simp; (try with_reducible rfl)
      try simp only [Act.put, List.setIfInBounds_toArray, List.set_cons_zero, List.set_cons_succ]
      refine wpAnyH_ready (rs := [5]) (by kernel_rfl) (by simp) ?_
      refine AllReadyH.cons (o := ⟨some 24, _, _, _, _, _⟩) rfl (fun K hK => ?_) AllReadyH.nil
      go_simp
      refine hK.out _ _ (by (try dsimp only); exact (Keeps.refl _ _).drew) (fun hHeld => ?_)
      clear hK K
      try simp only [Act.put, List.setIfInBounds_toArray, List.set_cons_zero, List.set_cons_succ]
      refine wpAnyH_ready (rs := [8]) (by kernel_rfl) (by simp) ?_
      refine AllReadyH.cons (o := ⟨some 27, _, _, _, _, _⟩) rfl (fun K hK => ?_) AllReadyH.nil
      go_simp; refine (HBi.out _ (HEa.out.same (Keeps.refl _ _).drew)).mono ?_; rintro z w2 ⟨v2, n2, s2, rfl, hE2, hn2, hs2a, hs2b, hs2⟩; obtain ⟨g2, c2, bs2, rfl, hl2, hB2, hn20⟩ := hE2; have H2 := hid (HM.out.same (((Keeps.refl _ _).drew).trans hs2)); have HN2 := hid (And.intro hl2 (And.intro hB2 (And.intro hn20 (And.intro hn2 (And.intro hs2a hs2b))))); have K2 := hid (Keeps.of_same (S := fun b => b = x ∨ b = mb) (((Keeps.refl (fun _ => False) wa).drew).trans hs2)); clear hl2 hB2 hn20 hn2 hs2a hs2b hs2; go_simp
      refine hK.out _ _ (by (try dsimp only); exact K2.out) (fun hHeld => ?_)
      clear hK K
      try simp only [Act.put, List.setIfInBounds_toArray, List.set_cons_zero, List.set_cons_succ]
      refine wpAnyH_take (i := 9) (oi := ⟨some 18, _, _, _, _, _⟩) (v := ?v9) rfl (by kernel_rfl) (by kernel_rfl) (by kernel_rfl) (fun _ _ _ h => h) (Or.inl ⟨by rfl, ?h9⟩) (by assumption) ?r9
      case h9 => intro w hSw; (try dsimp only at hSw); go_simp; (try with_reducible rfl)
      try simp only [Act.put, List.setIfInBounds_toArray, List.set_cons_zero, List.set_cons_succ]
      refine wpAnyH_take (i := 10) (oi := ⟨some 28, _, _, _, _, _⟩) (v := ?v10) rfl (by kernel_rfl) (by kernel_rfl) (by kernel_rfl) (fun _ _ _ h => h) (Or.inl ⟨by rfl, ?h10⟩) (by assumption) ?r10
      case h10 => intro w hSw; (try dsimp only at hSw); go_simp; (try with_reducible rfl)
      try simp only [Act.put, List.setIfInBounds_toArray, List.set_cons_zero, List.set_cons_succ]
      refine wpAnyH_take (i := 11) (oi := ⟨some 29, _, _, _, _, _⟩) (v := ?v11) rfl (by kernel_rfl) (by kernel_rfl) (by kernel_rfl) (fun _ _ _ h => h) (Or.inl ⟨by rfl, ?h11⟩) (by assumption) ?r11
      case h11 => intro w hSw; (try dsimp only at hSw); go_simp; (try with_reducible rfl)
      try simp only [Act.put, List.setIfInBounds_toArray, List.set_cons_zero, List.set_cons_succ]
      refine wpAnyH_ready (rs := [12]) (by kernel_rfl) (by simp) ?_
      refine AllReadyH.cons (o := ⟨none, _, _, _, _, _⟩) rfl (fun K hK => ?_) AllReadyH.nil
      have z0 := H2.out.be.frozen 0; have z1 := H2.out.be.frozen 1; have y0 := H2.out.be.cell 0; have y1 := H2.out.be.cell 1; simp only [List.getElem?_toArray, List.getElem?_cons_succ, List.getElem?_cons_zero] at y0 y1; go_simp
      refine hK.out _ _ (by (try dsimp only); exact Keeps.setCell (p := ⟨x, 1, none⟩) (Keeps.setCell (p := ⟨x, 0, none⟩) K2.out (fun _ => .inl rfl) _) (fun _ => .inl rfl) _) (fun hHeld => ?_)
      clear hK K
      try simp only [Act.put, List.setIfInBounds_toArray, List.set_cons_zero, List.set_cons_succ]
      have H3 := hid (qh_store (g2 := g2) (n2 := n2) (c2 := c2) (s2 := s2) H2.out HN2.out.2.1 K2.out)
      generalize (w2.setCell ⟨x, 0, none⟩ (.slice (some ⟨g2, 0, none⟩) n2 c2)).setCell ⟨x, 1, none⟩ (v64 s2) = w3 at H3 ⊢
      obtain ⟨w4, hrun, H4'⟩ := qh_put H3.out.1 HKey.out HOk.out hk
      have H4 := hid H4'
      replace H4' : Hid (∀ b, sblk (some ⟨g2, 0, none⟩) b → ¬ b = mb) := hid (fun b hb e => by obtain ⟨D, _, d2⟩ := H3.out.1.D.map; simp [sblk] at hb; subst hb; exact bys_map H3.out.2.1 d2 e)
      have K4 := hid (H3.out.2.2.trans' H4.out.2 fun b _ e => .inr e)
      refine wpAnyH_ready (rs := [13]) (by kernel_rfl) (by simp) ?_
      refine AllReadyH.cons (o := ⟨none, _, _, _, _, _⟩) rfl (fun K hK => ?_) AllReadyH.nil
      go_simp
      refine hK.out _ _ (by (try dsimp only); exact K4.out) (fun hHeld => ?_)
      clear hK K
      try simp only [Act.put, List.setIfInBounds_toArray, List.set_cons_zero, List.set_cons_succ]
      refine wpAnyH_done (by kernel_rfl) ?_ _
      have z0 := H4.out.1.be.cell 0
      have z1 := H4.out.1.be.cell 1
      have f0 := H4.out.1.br.frozen 0
      have f1 := H4.out.1.br.frozen 1
      have u0 := H4.out.1.br.cell 0
      have u1 := H4.out.1.br.cell 1
      simp only [List.getElem?_toArray, List.getElem?_cons_succ, List.getElem?_cons_zero] at z0 z1 u0 u1
      have hb2 := (H4.out.1.br.set 0 (.slice (some ⟨g2, 0, none⟩) n2 c2)).set 1 (v64 s2)
      have hK2 : Keeps (fun b => b = x + 2) w4 ((w4.setCell ⟨x + 2, 0, none⟩ (.slice (some ⟨g2, 0, none⟩) n2 c2)).setCell ⟨x + 2, 1, none⟩ (v64 s2)) := Keeps.setCell (p := ⟨x + 2, 1, none⟩) (Keeps.setCell (p := ⟨x + 2, 0, none⟩) (Keeps.refl (fun b => b = x + 2) _) (fun _ => rfl) _) (fun _ => rfl) _
      simp only [List.setIfInBounds_toArray, List.set_cons_zero, List.set_cons_succ] at hb2
      have l0 := hb2.cell 0
      have l1 := hb2.cell 1
      simp only [List.getElem?_toArray, List.getElem?_cons_zero, List.getElem?_cons_succ] at l0 l1
      have HB4 := hid (H3.out.2.1.keeps H4.out.2 (fun b hb e => H4'.out b hb e))
      have HE := hid (And.intro hb2 hK2)
      clear hb2 hK2 hrun y0 y1 c3 k0 k1 k2 k3
      go_wp2_with fail
      refine bodyPost_ret (v := .agg #[.slice (some ⟨g2, 0, none⟩) n2 c2, v64 s2]) (by simp [results, Tryz.results50, go_sem, l0, l1]) rfl ?_
      have hpx := H4.out.1.px
      have hmx := H4.out.1.mx
      have hg2 : g2 ≠ x + 2 := bys_ne HB4.out H4.out.1.br (by decide)
      refine ⟨_, rfl, ⟨n2, s2, ⟨g2, c2, bs2, rfl, HN2.out.1, HB4.out.keeps HE.out.2 (fun b hb e => by simp [sblk] at hb; omega), HN2.out.2.2.1⟩, ?_, HN2.out.2.2.2.2⟩, H4.out.1.D.keeps HE.out.2 (by omega) (by omega), H4.out.1.S.trans' HE.out.2 (fun b hb e => by have := H4.out.1.hx; omega)⟩
      have := HN2.out.2.2.2.1
      have := HN.out
      omega
end Go.Proofs.YtalopgbkjgjppaaGreatDoor
