/- Part of a proof: Qq, Qr. -/
import Derived.Test.YtalopgbkjgjppaaGreatDoorQp
import Derived.Test.YtalopgbkjgjppaaGreatDoorGLawA
import Derived.Test.YtalopgbkjgjppaaGreatDoorGAp
/- The document's Put of any packet that it lets in; what the packets that were put tell. -/
namespace Go.Proofs.YtalopgbkjgjppaaGreatDoor
open Go.RowKit Go.Cas Go.Maps Go.Cas.Enc

abbrev backM (M : Mdl) (p : Pk) : Int × Int × (Int × Int × Int × Int) × Bool := backL p.k p.d p.l p.y.toNat M.T.length M.r0 M.r1 M.r2 M.r3

/-- The document lets the packet in. -/
def lets (M : Mdl) (p : Pk) : Bool := if p.k = 1 then decide (p.d = 0) && decide (p.l = 0) else (backM M p).2.2.2

def putM (M : Mdl) (p : Pk) : Mdl :=
  if p.k = 1 then { M with T := M.T ++ [p.y], st := nextS M.st 1 }
  else { M with T := copyL M.T (backM M p).1.toNat (backM M p).2.1.toNat, st := nextS M.st p.k.toNat, r0 := (backM M p).2.2.1.1, r1 := (backM M p).2.2.1.2.1, r2 := (backM M p).2.2.1.2.2.1, r3 := (backM M p).2.2.1.2.2.2 }

theorem apply_byte (M : Nat) (y : UInt8) (ps : List Pk) (bs : List UInt8) (r : Int × Int × Int × Int) (h : bs.length < M) : applyGo M (⟨1, 0, 0, y⟩ :: ps) bs r = applyGo M ps (bs ++ [y]) r := by
  simp only [applyGo, and_self, if_true]
  rw [if_pos h]

theorem back_first {kk d l h a b c e x0 x1 : Int} {r : Int × Int × Int × Int} (hb : backL kk d l 0 h a b c e = (x0, x1, r, true)) : r.1 = x0 := by
  unfold backL at hb
  rw [if_neg (by simp)] at hb
  by_cases h2 : kk = 2
  · rw [if_pos h2] at hb
    simp only [Prod.mk.injEq] at hb
    obtain ⟨h1, _, h3, _⟩ := hb
    rw [← h3, ← h1]
  · rw [if_neg h2] at hb
    by_cases h3 : kk = 3
    · rw [if_pos h3] at hb
      by_cases hd : 0 ≤ d ∧ d < 4
      · rw [if_pos hd] at hb
        simp only [Prod.mk.injEq] at hb
        obtain ⟨h1, _, h3, _⟩ := hb
        rw [← h3, ← h1]
        obtain rfl | rfl | rfl | rfl : d = 0 ∨ d = 1 ∨ d = 2 ∨ d = 3 := by omega
        all_goals simp [frontL]
      · rw [if_neg hd] at hb
        simp at hb
    · rw [if_neg h3] at hb
      by_cases h4 : kk = 4
      · rw [if_pos h4] at hb
        simp only [Prod.mk.injEq] at hb
        obtain ⟨h1, _, h3, _⟩ := hb
        rw [← h3, ← h1]
      · rw [if_neg h4] at hb
        simp at hb

/-- The packets that were put, and the model behind them. -/
structure Good (lc lp pb : Nat) (M : Mdl) (G : List Pk) : Prop where
  ok : MOk M
  par : M.lc = lc ∧ M.lp = lp ∧ M.pb = pb
  len : M.T.length ≤ 2273
  reps : rok (M.r0, M.r1, M.r2, M.r3)
  tell : ∀ Mx, M.T.length ≤ Mx → ∀ rest, applyGo Mx (G ++ rest) [] (1, 1, 1, 1) = applyGo Mx rest M.T (M.r0, M.r1, M.r2, M.r3)

theorem Good.first {lc lp pb : Nat} (h1 : lc ≤ 4) (h2 : lp ≤ 4) (h3 : pb ≤ 4) : Good lc lp pb (Mdl.first lc lp pb) [] :=
  ⟨⟨h1, h2, h3, by simp, by show 0 < 12; decide, fun h => absurd h (show ¬ 7 ≤ 0 by decide)⟩, ⟨rfl, rfl, rfl⟩, by simp, show (1 : Int) ≤ 1 ∧ (1 : Int) ≤ 1 ∧ (1 : Int) ≤ 1 ∧ (1 : Int) ≤ 1 by decide, fun _ _ _ => rfl⟩

theorem lets_copy {M : Mdl} {p : Pk} (hk : p.k ≠ 1) (h : lets M p = true) (hr : rok (M.r0, M.r1, M.r2, M.r3)) :
    ∃ (x0 x1 : Nat) (a b c e : Int), p.y = 0 ∧ backM M p = ((x0 : Int), (x1 : Int), (a, b, c, e), true) ∧ 1 ≤ x0 ∧ x0 ≤ M.T.length ∧ 1 ≤ x1 ∧ x1 ≤ 273 ∧ rok (a, b, c, e) ∧ a = x0 := by
  unfold lets at h
  rw [if_neg hk] at h
  obtain ⟨_, h2⟩ := back_fits p.k p.d p.l p.y.toNat M.T.length M.r0 M.r1 M.r2 M.r3 hk hr.1 hr.2.1 hr.2.2.1 hr.2.2.2
  obtain ⟨_, g1, g2, g3, g4, g5⟩ := h2 h
  have hy : p.y = 0 := by
    have hz : (p.y.toNat : Int) = 0 := by
      by_cases hz : (p.y.toNat : Int) = 0
      · exact hz
      · unfold backM backL at h
        rw [if_pos hz] at h
        cases h
    apply UInt8.toNat_inj.1
    simpa using hz
  obtain ⟨f, hf⟩ : ∃ f, backM M p = f := ⟨_, rfl⟩
  have hf' : backL p.k p.d p.l p.y.toNat M.T.length M.r0 M.r1 M.r2 M.r3 = f := hf
  rw [hf] at h
  rw [hf'] at g1 g2 g3 g4 g5
  obtain ⟨x0, x1, ⟨a, b, c, e⟩, ok⟩ := f
  dsimp only at h g1 g2 g3 g4 g5
  subst h
  rw [hy] at hf'
  have ha : a = x0 := back_first (show backL p.k p.d p.l 0 M.T.length M.r0 M.r1 M.r2 M.r3 = _ from hf')
  refine ⟨x0.toNat, x1.toNat, a, b, c, e, hy, ?_, by omega, by omega, by omega, by omega, g5, by omega⟩
  rw [hf, Int.toNat_of_nonneg (by omega), Int.toNat_of_nonneg (by omega)]

theorem nextS_one {s : Nat} (h : s < 12) : nextS s 1 < 7 := by
  unfold nextS
  rw [if_pos rfl]
  split
  · omega
  · split <;> omega

theorem Good.put {lc lp pb : Nat} {M : Mdl} {G : List Pk} {p : Pk} (h : Good lc lp pb M G) (hl : lets M p = true) (h2 : M.T.length < 2000) : Good lc lp pb (putM M p) (G ++ [p]) := by
  obtain ⟨⟨o1, o2, o3, o4, o5, o6⟩, hp, hlen, hr, ht⟩ := h
  by_cases hk : p.k = 1
  · unfold lets at hl
    rw [if_pos hk] at hl
    simp at hl
    have hp' : p = ⟨1, 0, 0, p.y⟩ := by
      obtain ⟨k, d, l, y⟩ := p
      dsimp only at hk hl
      obtain ⟨rfl, rfl⟩ := hl
      subst hk
      rfl
    have e : putM M p = { M with T := M.T ++ [p.y], st := nextS M.st 1 } := by unfold putM; rw [if_pos hk]
    have hs := nextS_one o5
    rw [e]
    refine ⟨⟨o1, o2, o3, by simp; omega, by show nextS M.st 1 < 12; omega, fun h => absurd h (by show ¬ 7 ≤ nextS M.st 1; omega)⟩, hp, by simp; omega, hr, fun Mx hM rest => ?_⟩
    simp only [List.length_append, List.length_singleton] at hM
    rw [List.append_assoc, ht Mx (by omega), List.singleton_append, hp', apply_byte Mx p.y rest M.T _ (by omega)]
  · obtain ⟨x0, x1, a, b, c, e, hy, hb, g1, g2, g3, g4, g5, g6⟩ := lets_copy hk hl hr
    have e' : putM M p = { M with T := copyL M.T x0 x1, st := nextS M.st p.k.toNat, r0 := a, r1 := b, r2 := c, r3 := e } := by
      unfold putM
      rw [if_neg hk, hb]
      simp
    have hb' : backL p.k p.d p.l 0 M.T.length M.r0 M.r1 M.r2 M.r3 = ((x0 : Int), (x1 : Int), (a, b, c, e), true) := by
      have := hb
      unfold backM at this
      rw [hy] at this
      exact this
    have hc := back_cases hb'
    rw [e']
    refine ⟨⟨o1, o2, o3, ?_, nextS_lt o5 (by omega) (by omega), fun _ => ⟨?_, ?_⟩⟩, hp, ?_, g5, fun Mx hM rest => ?_⟩
    · show (copyL M.T x0 x1).length ≤ 10000
      rw [copyL_length]; omega
    · show 1 ≤ a
      omega
    · show a ≤ ((copyL M.T x0 x1).length : Int)
      rw [copyL_length]; omega
    · show (copyL M.T x0 x1).length ≤ 2273
      rw [copyL_length]; omega
    · have hM' : (copyL M.T x0 x1).length ≤ Mx := hM
      rw [copyL_length] at hM'
      rw [List.append_assoc, ht Mx (by omega), List.singleton_append, applyGo_copy Mx p rest M.T _ hk hr]
      have hb2 : backL p.k p.d p.l p.y.toNat M.T.length M.r0 M.r1 M.r2 M.r3 = ((x0 : Int), (x1 : Int), (a, b, c, e), true) := hb
      dsimp only
      rw [hb2]
      dsimp only
      rw [if_pos rfl, if_pos (by omega), Int.toNat_natCast, Int.toNat_natCast]

theorem Good.back {lc lp pb : Nat} {M : Mdl} {G : List Pk} (h : Good lc lp pb M G) : applyL G (M.T.length : Int) = (M.T, 0) := by
  have := h.tell M.T.length (Nat.le_refl _) []
  rw [List.append_nil] at this
  unfold applyL
  rw [Int.toNat_natCast, this]
  rfl

/-- Put, for any packet that is let in. -/
theorem r10put_any (p mb : Nat) (M : Mdl) (k : Nat) (v : Value) (q : Pk) (w : World) (hD : D10 w p mb M k) (hE : EN w v k) (hk : k + 300 ≤ 200000) (hM : MOk M) (hr : rok (M.r0, M.r1, M.r2, M.r3)) (hl : lets M q = true) :
    Calls Tryz.prog 23 #[.pointer (some ⟨p, 0, none⟩), v, pk q.k q.d q.l q.y.toNat] w fun z w' => ∃ v', z = .returned v' ∧ EN w' v' (k + 300) ∧ D10 w' p mb (putM M q) (k + 300) ∧ Keeps (fun b => b = p ∨ b = mb) w w' := by
  by_cases h1 : q.k = 1
  · have e : putM M q = { M with T := M.T ++ [q.y], st := nextS M.st 1 } := by unfold putM; rw [if_pos h1]
    unfold lets at hl
    rw [if_pos h1] at hl
    simp at hl
    rw [e, h1, hl.1, hl.2]
    exact r10putb_any p mb M k v q.y w hD hE hk hM
  · obtain ⟨x0, x1, a, b, c, e, hy, hb, g1, g2, g3, g4, g5, g6⟩ := lets_copy h1 hl hr
    have e' : putM M q = { M with T := copyL M.T x0 x1, st := nextS M.st q.k.toNat, r0 := a, r1 := b, r2 := c, r3 := e } := by
      unfold putM
      rw [if_neg h1, hb]
      simp
    unfold backM at hb
    rw [hy] at hb
    rw [e', hy]
    exact r10putc_any p mb M k v q.k q.d q.l x0 x1 a b c e w hD hE hk hM hb ⟨g1, g2⟩ g4
end Go.Proofs.YtalopgbkjgjppaaGreatDoor

/- The document's coded packets: what law 11's Coded gives. -/
namespace Go.Proofs.YtalopgbkjgjppaaGreatDoor
open Go.RowKit Go.Cas Go.Maps Go.Cas.Enc

theorem sl_heap {T : TypeId} {sz : Nat} {w : World} {q : Option Addr} {cap n : Nat} {xs : List Value} (h : Sl T sz w q cap n xs) {b : Nat} (hb : sblk q b) : ∃ cur mk, w.heap[b]? = some (.cells cur T mk) := by
  rcases h.own.2 with ⟨h1, _⟩ | ⟨g', c', cur, h1, _, hg, _⟩
  · simp at h1
    obtain ⟨rfl, _⟩ := h1
    simp [sblk] at hb
  · simp at h1
    obtain ⟨rfl, rfl⟩ := h1
    simp [sblk] at hb
    subst hb
    exact ⟨_, _, hg⟩

theorem sl_blk {T t : TypeId} {sz : Nat} {w : World} {q : Option Addr} {cap n b : Nat} {xs : List Value} {cs : Array Value} (h : Sl T sz w q cap n xs) (hb : Blk w b cs t) (ht : t ≠ T) : ¬ sblk q b := fun e => by
  obtain ⟨cur, mk, hg⟩ := sl_heap h e
  unfold Blk at hb
  rw [hg] at hb
  injection hb with hb
  injection hb with _ e
  exact ht e.symm

theorem sl_sl {T T' : TypeId} {sz sz' : Nat} {w : World} {q q' : Option Addr} {cap n cap' n' : Nat} {xs xs' : List Value} (h : Sl T sz w q cap n xs) (h' : Sl T' sz' w q' cap' n' xs') (ht : T ≠ T') {b : Nat} (hb : sblk q b) : ¬ sblk q' b := fun e => by
  obtain ⟨cur, mk, hg⟩ := sl_heap h hb
  obtain ⟨cur', mk', hg'⟩ := sl_heap h' e
  rw [hg] at hg'
  injection hg' with hb
  injection hb with _ e
  exact ht e

theorem sl_map {T : TypeId} {sz : Nat} {w : World} {q : Option Addr} {cap n b : Nat} {xs : List Value} {k : TypeId} {m : Nat} {R : Value → Option (DataW Unit × List MemPlace)} {D : DataW Unit} (h : Sl T sz w q cap n xs) (hb : w.ownsMap Tryz.prog k R b m D) : ¬ sblk q b := fun e => by
  obtain ⟨es, clock, h1, _⟩ := hb
  obtain ⟨cur, mk, hg⟩ := sl_heap h e
  rw [h1] at hg
  simp at hg

/-- In the midst of 'Coded'. -/
structure CI (w wr : World) (p mb bf : Nat) (M : Mdl) (k : Nat) (G : List Pk) (q1 : Option Addr) (c1 : Nat) : Prop where
  D : D10 wr p mb M k
  eb : ∃ g n cap sz, Blk wr bf (eArr g n cap sz) 56 ∧ EN wr (.agg (eArr g n cap sz)) k
  A : Pks wr q1 c1 G
  gA : ∀ b, sblk q1 b → w.heap.size ≤ b
  S : Same w wr
  gp : w.heap.size ≤ p
  gm : w.heap.size ≤ mb
  gb : w.heap.size ≤ bf

section
variable {w wr W w2 : World} {p mb bf k k' c1 : Nat} {M M' : Mdl} {G : List Pk} {q1 : Option Addr}

theorem CI.same (h : CI w wr p mb bf M k G q1 c1) (hs : Same wr W) : CI w W p mb bf M k G q1 c1 := by
  obtain ⟨g, n, cap, sz, e1, e2⟩ := h.eb
  exact ⟨h.D.keeps hs (fun h => h) (fun h => h), ⟨g, n, cap, sz, e1.keeps hs (fun h => h), e2.same hs⟩, h.A.keeps hs (fun _ _ h => h), h.gA, h.S.trans hs, h.gp, h.gm, h.gb⟩

theorem CI.mono (h : CI w wr p mb bf M k G q1 c1) (hk : k ≤ k') : CI w wr p mb bf M k' G q1 c1 := by
  obtain ⟨g, n, cap, sz, e1, e2⟩ := h.eb
  exact ⟨h.D.mono hk, ⟨g, n, cap, sz, e1, e2.mono hk⟩, h.A, h.gA, h.S, h.gp, h.gm, h.gb⟩

theorem blk_type {w : World} {b : Nat} {cs cs' : Array Value} {t t' : TypeId} (h : Blk w b cs t) (h' : Blk w b cs' t') : t = t' := by
  unfold Blk at h h'
  rw [h] at h'
  injection h' with h'
  injection h' with _ e

theorem blk_map {w : World} {b : Nat} {cs : Array Value} {t k : TypeId} {m : Nat} {R : Value → Option (DataW Unit × List MemPlace)} {D : DataW Unit} (h : Blk w b cs t) (hb : w.ownsMap Tryz.prog k R b m D) : False := by
  obtain ⟨es, clock, h1, _⟩ := hb
  unfold Blk at h
  rw [h1] at h
  simp at h

theorem CI.bf_ne (h : CI w wr p mb bf M k G q1 c1) : bf ≠ p ∧ bf ≠ mb := by
  obtain ⟨g, n, cap, sz, e1, e2⟩ := h.eb
  refine ⟨fun e => ?_, fun e => ?_⟩
  · subst e
    exact absurd (blk_type e1 h.D.blk) (by decide)
  · subst e
    obtain ⟨D, _, d2⟩ := h.D.map
    exact blk_map e1 d2

theorem CI.q_ne (h : CI w wr p mb bf M k G q1 c1) : ¬ sblk q1 p ∧ ¬ sblk q1 mb ∧ ¬ sblk q1 bf := by
  obtain ⟨g, n, cap, sz, e1, e2⟩ := h.eb
  obtain ⟨D, _, d2⟩ := h.D.map
  have hA : Sl 39 4 wr q1 c1 G.length (cellsP G) := ⟨h.A.own⟩
  exact ⟨sl_blk hA h.D.blk (by decide), sl_map hA d2, sl_blk hA e1 (by decide)⟩

/-- A packet has been put, and the encoder is laid into its box. -/
theorem CI.put {v : Value} (h : CI w wr p mb bf M k G q1 c1) (hE : EN w2 v k') (hD : D10 w2 p mb M' k') (hK : Keeps (fun b => b = p ∨ b = mb) wr w2) :
    ∃ g n cap sz, v = .agg (eArr g n cap sz) ∧ (∃ a0 a1, w2.cell? ⟨bf, 0, none⟩ = some a0 ∧ w2.cell? ⟨bf, 1, none⟩ = some a1) ∧ w2.frozen? ⟨bf, 0, none⟩ = false ∧ w2.frozen? ⟨bf, 1, none⟩ = false ∧
      CI w ((w2.setCell ⟨bf, 0, none⟩ (.slice (some ⟨g, 0, none⟩) n cap)).setCell ⟨bf, 1, none⟩ (v64 sz)) p mb bf M' k' G q1 c1 := by
  have hE' := hE
  obtain ⟨n, sz, ⟨g, cap, bs, rfl, h1, h2, h3⟩, h4⟩ := hE'
  obtain ⟨g0, n0, cap0, sz0, e1, e2⟩ := h.eb
  obtain ⟨b1, b2⟩ := h.bf_ne
  obtain ⟨q1', q2', q3'⟩ := h.q_ne
  have f1 := e1.keeps hK (by omega)
  have hb' := (f1.set 0 (.slice (some ⟨g, 0, none⟩) n cap)).set 1 (v64 sz)
  simp only [List.setIfInBounds_toArray, List.set_cons_zero, List.set_cons_succ] at hb'
  have hK' : Keeps (fun b => b = bf) w2 ((w2.setCell ⟨bf, 0, none⟩ (.slice (some ⟨g, 0, none⟩) n cap)).setCell ⟨bf, 1, none⟩ (v64 sz)) := Keeps.setCell (p := ⟨bf, 1, none⟩) (Keeps.setCell (p := ⟨bf, 0, none⟩) (Keeps.refl (fun b => b = bf) _) (fun _ => rfl) _) (fun _ => rfl) _
  have hg : g ≠ bf := bys_ne h2 f1 (by decide)
  have gp := h.gp
  have gm := h.gm
  have gb := h.gb
  refine ⟨g, n, cap, sz, rfl, ⟨_, _, f1.cell 0, f1.cell 1⟩, f1.frozen 0, f1.frozen 1, hD.keeps hK' (by omega) (by omega), ⟨g, n, cap, sz, hb', n, sz, ⟨g, cap, bs, rfl, h1, h2.keeps hK' (fun b hb e => by simp [sblk] at hb; omega), h3⟩, h4⟩,
    (h.A.keeps hK (fun b hb e => by rcases e with rfl | rfl; exact q1' hb; exact q2' hb)).keeps hK' (fun b hb e => by subst e; exact q3' hb), h.gA,
    (h.S.trans' hK (fun b hb e => by omega)).trans' hK' (fun b hb e => by omega), gp, gm, gb⟩

/-- A packet has been appended. -/
theorem CI.push {X : Obj} {q2 : Option Addr} {c2 : Nat} {pk_ : Pk} {w6 : World} (h : CI w wr p mb bf M k G q1 c1)
    (hown : w6.ownsRow 0 39 4 (.slice q2 (G.length + 1) c2) (G.length + 1) (cellsP G ++ pk_.cells)) (hk : Keeps (sblk q1) (wr.alloc X) w6) (hat : ∀ k, sblk q2 k → sblk q1 k ∨ k = (wr.alloc X).heap.size) :
    CI w w6 p mb bf M k (G ++ [pk_]) q2 c2 := by
  obtain ⟨n1, n2, n3⟩ := h.q_ne
  have hA : Sl 39 4 wr q1 c1 G.length (cellsP G) := ⟨h.A.own⟩
  obtain ⟨g, n, cap, sz, e1, e2⟩ := h.eb
  have hK : Keeps (sblk q1) wr w6 := ((Keeps.refl (sblk q1) wr).alloc X).trans hk
  have l4 : (wr.alloc X).heap.size = wr.heap.size + 1 := by simp
  have l5 := h.S.size
  refine ⟨h.D.keeps hK n1 n2, ⟨g, n, cap, sz, e1.keeps hK n3, ?_⟩, ⟨?_⟩, ?_, h.S.trans' hK (fun b hb e => by have := h.gA b e; omega), h.gp, h.gm, h.gb⟩
  · obtain ⟨n', sz', h1, h2⟩ := e2
    refine ⟨n', sz', h1.keeps hK (fun g' x y e hg => ?_), h2⟩
    obtain ⟨g3, cap3, bs, e', _, hB, _⟩ := h1
    rw [e'] at e
    simp at e
    obtain ⟨⟨rfl, _⟩, _⟩ := e
    exact sl_sl hA hB (by decide) hg (by simp [sblk])
  · rw [cellsP_snoc, List.length_append]; exact hown
  · intro b e
    rcases hat _ e with e | e
    · exact h.gA b e
    · omega
end
end Go.Proofs.YtalopgbkjgjppaaGreatDoor
