/- Part of a proof: Gy, Lz, Tl. -/
import Derived.Test.YtalopgbkjgjppaaGreatDoorGRrp
import Derived.Test.YtalopgbkjgjppaaGreatDoorGRf
/- The walk of the statement GreedyParses. -/
namespace Go.Proofs.YtalopgbkjgjppaaGreatDoor
open Go.RowKit Go.Cas

theorem parseGo_length (s : List UInt8) (W C : Int) : ∀ f i, (parseGo s W C f i).length ≤ f
  | 0, _ => Nat.le_refl _
  | f + 1, i => by
    unfold parseGo
    split
    · split
      · have := parseGo_length s W C f (i + (lastF (foundL s i W C)).1); simp; omega
      · have := parseGo_length s W C f (i + 1); simp; omega
    · simp

theorem repeatL_length (l : List Pk) : (repeatL l).length = l.length := repeatGo_length l _ _

theorem sp13_list : repeatL (parseL [97, 98, 99, 97, 98, 99, 100] 99 9) = [⟨1, 0, 0, 97⟩, ⟨1, 0, 0, 98⟩, ⟨1, 0, 0, 99⟩, ⟨2, 3, 3, 0⟩, ⟨1, 0, 0, 100⟩] := by decide +kernel

end Go.Proofs.YtalopgbkjgjppaaGreatDoor

/- The lazy parser's plain law; its state. -/
namespace Go.Proofs.YtalopgbkjgjppaaGreatDoor
open Go.RowKit Go.Cas

/-- What is found at a place; nothing at the text's end. -/
def fnd (s : List UInt8) (i : Nat) (W C : Int) : List (Nat × Nat) := if i < s.length then foundL s i W C else []

theorem fnd_lt (s : List UInt8) (i : Nat) (W C : Int) (h : i < s.length) : fnd s i W C = foundL s i W C := if_pos h
theorem fnd_end (s : List UInt8) (i : Nat) (W C : Int) (h : s.length ≤ i) : fnd s i W C = [] := if_neg (by omega)

theorem foundGo_cand (s : List UInt8) (i : Nat) (W C : Int) : ∀ f d best seen, ∀ p ∈ foundGo s i W C f d best seen, i + 3 ≤ s.length ∧ k3 s (i - p.2) = k3 s i
  | 0, _, _, _, p, h => by simp [foundGo] at h
  | f + 1, d, best, seen, p, h => by
    unfold foundGo at h
    split at h
    · split at h
      · rename_i hc
        split at h
        · rcases List.mem_cons.1 h with rfl | h
          · exact hc
          · exact foundGo_cand s i W C f (d + 1) _ _ p h
        · exact foundGo_cand s i W C f (d + 1) _ _ p h
      · exact foundGo_cand s i W C f (d + 1) _ _ p h
    · simp at h

theorem ali_three (s : List UInt8) (a b : Nat) (ha : a ≤ b) (hb : b + 3 ≤ s.length) (hk : k3 s a = k3 s b) : 3 ≤ aliN s a b := by
  unfold k3 at hk
  simp only [Prod.mk.injEq] at hk
  have e : ∀ j, a + j < s.length → b + j < s.length → s[a + j]?.getD 0 = s[b + j]?.getD 0 → s[a + j]? = s[b + j]? := by
    intro j h1 h2 h
    rw [List.getElem?_eq_getElem h1, List.getElem?_eq_getElem h2] at h ⊢
    simpa using h
  have e0 := e 0 (by omega) (by omega) hk.1
  have e1 := e 1 (by omega) (by omega) hk.2.1
  have e2 := e 2 (by omega) (by omega) hk.2.2
  obtain ⟨f, hf⟩ : ∃ f, min (s.length - b) 273 = f + 3 := ⟨min (s.length - b) 273 - 3, by omega⟩
  unfold aliN
  rw [hf, runL, if_pos e0, runL, if_pos e1, runL, if_pos e2]
  exact (runL_le s a b f 3).1

theorem lastF_three (s : List UInt8) (i : Nat) (W C : Int) (h : 0 < (foundL s i W C).length) : 3 ≤ (lastF (foundL s i W C)).1 := by
  obtain ⟨h1, h2, h3, h4⟩ := foundL_bound s i W C _ (lastF_mem _ h)
  obtain ⟨c1, c2⟩ := foundGo_cand s i W C i 1 0 0 _ (lastF_mem _ h)
  rw [h4]
  exact ali_three s _ _ (by omega) c1 c2

/-- Is it better to wait? -/
def waits (s : List UInt8) (W C : Int) (i : Nat) : Prop := (foundL s i W C).length = 0 ∨ (lastF (foundL s i W C)).1 < (lastF (fnd s (i + 1) W C)).1

instance (s : List UInt8) (W C : Int) (i : Nat) : Decidable (waits s W C i) := by unfold waits; infer_instance

def lazyGo (s : List UInt8) (W C : Int) : Nat → Nat → List Pk
  | 0, _ => []
  | f + 1, i =>
    if i < s.length then
      if waits s W C i then ⟨1, 0, 0, s[i]?.getD 0⟩ :: lazyGo s W C f (i + 1)
      else ⟨2, (lastF (foundL s i W C)).2, (lastF (foundL s i W C)).1, 0⟩ :: lazyGo s W C f (i + (lastF (foundL s i W C)).1)
    else []

def lazyL (s : List UInt8) (W C : Int) : List Pk := lazyGo s W C s.length 0

theorem lazyGo_end (s : List UInt8) (W C : Int) (f i : Nat) (h : s.length ≤ i) : lazyGo s W C f i = [] := by
  cases f with
  | zero => rfl
  | succ f => unfold lazyGo; rw [if_neg (by omega)]

theorem not_waits (s : List UInt8) (W C : Int) (i : Nat) (h : ¬ waits s W C i) : 0 < (foundL s i W C).length := by
  unfold waits at h; omega

theorem lazyGo_fuel (s : List UInt8) (W C : Int) : ∀ f i, s.length - i ≤ f → lazyGo s W C f i = lazyGo s W C (s.length - i) i
  | 0, i, h => by rw [Nat.le_zero.1 h]
  | f + 1, i, h => by
    by_cases hi : i < s.length
    · obtain ⟨g, hg⟩ : ∃ g, s.length - i = g + 1 := ⟨s.length - i - 1, by omega⟩
      rw [hg, lazyGo, lazyGo, if_pos hi, if_pos hi]
      by_cases h0 : waits s W C i
      · rw [if_pos h0, if_pos h0, lazyGo_fuel s W C f _ (by omega), lazyGo_fuel s W C g _ (by omega)]
      · have hb := lastF_bound s i W C (not_waits s W C i h0)
        rw [if_neg h0, if_neg h0, lazyGo_fuel s W C f _ (by omega), lazyGo_fuel s W C g _ (by omega)]
    · rw [lazyGo_end _ _ _ _ _ (by omega), lazyGo_end _ _ _ _ _ (by omega)]
  termination_by f => f

def leftZ (s : List UInt8) (W C : Int) (i : Nat) : List Pk := lazyGo s W C (s.length - i) i

theorem leftZ_start (s : List UInt8) (W C : Int) : leftZ s W C 0 = lazyL s W C := rfl
theorem leftZ_end (s : List UInt8) (W C : Int) (i : Nat) (h : s.length ≤ i) : leftZ s W C i = [] := lazyGo_end _ _ _ _ _ h
theorem leftZ_lit (s : List UInt8) (W C : Int) (i : Nat) (h : i < s.length) (h0 : waits s W C i) : leftZ s W C i = ⟨1, 0, 0, s[i]?.getD 0⟩ :: leftZ s W C (i + 1) := by
  unfold leftZ
  obtain ⟨g, hg⟩ : ∃ g, s.length - i = g + 1 := ⟨s.length - i - 1, by omega⟩
  rw [hg, lazyGo, if_pos h, if_pos h0, lazyGo_fuel s W C g (i + 1) (by omega)]
theorem leftZ_match (s : List UInt8) (W C : Int) (i : Nat) (h : i < s.length) (h0 : ¬ waits s W C i) :
    leftZ s W C i = ⟨2, (lastF (foundL s i W C)).2, (lastF (foundL s i W C)).1, 0⟩ :: leftZ s W C (i + (lastF (foundL s i W C)).1) := by
  have hb := lastF_bound s i W C (not_waits s W C i h0)
  unfold leftZ
  obtain ⟨g, hg⟩ : ∃ g, s.length - i = g + 1 := ⟨s.length - i - 1, by omega⟩
  rw [hg, lazyGo, if_pos h, if_neg h0, lazyGo_fuel s W C g _ (by omega)]

theorem lazyGo_length (s : List UInt8) (W C : Int) : ∀ f i, (lazyGo s W C f i).length ≤ f
  | 0, _ => Nat.le_refl _
  | f + 1, i => by
    unfold lazyGo
    split
    · split
      · have := lazyGo_length s W C f (i + 1); simp; omega
      · have := lazyGo_length s W C f (i + (lastF (foundL s i W C)).1); simp; omega
    · simp

theorem fnd_length (s : List UInt8) (i : Nat) (W C : Int) (hs : s.length ≤ 1000000) : (fnd s i W C).length ≤ 1000000 := by
  unfold fnd
  split
  · have := foundGo_length s i W C i 1 0 0; have e : (foundL s i W C).length = (foundGo s i W C i 1 0 0).length := rfl; omega
  · simp

theorem fnd_bound (s : List UInt8) (i : Nat) (W C : Int) (hs : s.length ≤ 1000000) : ∀ p ∈ fnd s i W C, p.2 ≤ 1048576 := by
  unfold fnd
  split
  · intro p hp; have := foundL_bound s i W C p hp; omega
  · intro p hp; simp at hp

/-- The lazy parser's state: the finder at the place pl, the pieces till now, the block of the match at hand. -/
structure LS (w wx : World) (p : Nat) (s : List UInt8) (W C : Int) (pl mb : Nat) (q : Option Addr) (c : Nat) (q1 : Option Addr) (c1 : Nat) (ol : List Pk) (B : Nat) (x : Nat × Nat) : Prop where
  gs : GS w wx p s W C pl mb q c q1 c1 ol
  blk : Blk wx B #[i6 x.1, i6 x.2] 98
  n1 : ¬ finF p mb q B
  n2 : ¬ sblk q1 B
  n3 : w.heap.size ≤ B

theorem LS.same {w wx w' : World} {p : Nat} {s : List UInt8} {W C : Int} {pl mb : Nat} {q : Option Addr} {c : Nat} {q1 : Option Addr} {c1 : Nat} {ol : List Pk} {B : Nat} {x : Nat × Nat} (h : LS w wx p s W C pl mb q c q1 c1 ol B x) (k : Same wx w') : LS w w' p s W C pl mb q c q1 c1 ol B x :=
  ⟨h.gs.same k, h.blk.keeps k (fun h => h), h.n1, h.n2, h.n3⟩

theorem GS.next1 {w wx w' : World} {p : Nat} {s : List UInt8} {W C : Int} {i mb : Nat} {q : Option Addr} {c : Nat} {q1 : Option Addr} {c1 : Nat} {ol : List Pk} (h : GS w wx p s W C i mb q c q1 c1 ol) {q' : Option Addr} {c' : Nat} (hF : Fin w' p s W C (i + 1) (i + 1) mb q' c') (hk : Keeps (finF p mb q) wx w') (hq : ∀ k, sblk q' k → sblk q k ∨ wx.heap.size ≤ k) :
    GS w w' p s W C (i + 1) mb q' c' q1 c1 ol := by
  have hz := h.sm.size
  refine ⟨hF, h.pks.keeps hk h.dis, h.ge, ?_, ?_, h.sm.trans' hk fun b hb e => by have := h.fge b e; omega⟩
  · rintro b (rfl | rfl | e)
    · exact h.fge _ (.inl rfl)
    · exact h.fge _ (.inr (.inl rfl))
    · rcases hq b e with e | e
      · exact h.fge _ (.inr (.inr e))
      · omega
  · intro b e
    have hb := h.pks.lt b e
    rintro (rfl | rfl | f)
    · exact h.dis _ e (.inl rfl)
    · exact h.dis _ e (.inr (.inl rfl))
    · rcases hq b f with f | f
      · exact h.dis _ e (.inr (.inr f))
      · omega

theorem LS.next {w wx w' : World} {p : Nat} {s : List UInt8} {W C : Int} {pl mb : Nat} {q : Option Addr} {c : Nat} {q1 : Option Addr} {c1 : Nat} {ol : List Pk} {B : Nat} {x : Nat × Nat} (h : LS w wx p s W C pl mb q c q1 c1 ol B x) (k : NextLeft p s W C pl mb q wx w') :
    ∃ q' c', LS w w' p s W C (pl + 1) mb q' c' q1 c1 ol B x := by
  obtain ⟨q2, c2, hF, hk, hq⟩ := k
  have hb := h.blk.lt
  refine ⟨q2, c2, h.gs.next1 hF hk hq, h.blk.keeps hk h.n1, ?_, h.n2, h.n3⟩
  rintro (rfl | rfl | f)
  · exact h.n1 (.inl rfl)
  · exact h.n1 (.inr (.inl rfl))
  · rcases hq B f with f | f
    · exact h.n1 (.inr (.inr f))
    · omega

theorem LS.push {w W w6 : World} {X : Obj} {p : Nat} {s : List UInt8} {Wd C : Int} {pl mb : Nat} {q : Option Addr} {c : Nat} {q1 q2 : Option Addr} {c1 c2 : Nat} {ol : List Pk} {B : Nat} {x : Nat × Nat} {pk : Pk} (h : LS w W p s Wd C pl mb q c q1 c1 ol B x)
    (hown : w6.ownsRow 0 39 4 (.slice q2 (ol.length + 1) c2) (ol.length + 1) (cellsP ol ++ pk.cells)) (hk : Keeps (sblk q1) (W.alloc X) w6) (hat : ∀ k, sblk q2 k → sblk q1 k ∨ k = (W.alloc X).heap.size) :
    LS w w6 p s Wd C pl mb q c q2 c2 (ol ++ [pk]) B x := by
  obtain ⟨t1, t2, t3, t4, t5⟩ := Sl.push h.gs.sm h.gs.ge hown hk hat
  exact ⟨h.gs.push hown hk hat, h.blk.keeps t4 h.n2, h.n1, t5 B h.blk.lt h.n2, h.n3⟩
end Go.Proofs.YtalopgbkjgjppaaGreatDoor

/- The plain law: the greedy parser's pieces, and the lazy one's, tell the text. -/
namespace Go.Proofs.YtalopgbkjgjppaaGreatDoor
open Go.RowKit Go.Cas

theorem runS_same (s : List UInt8) (a b : Nat) : ∀ f n j, n ≤ j → j < runL s a b f n → s[a + j]? = s[b + j]?
  | 0, n, j, h1, h2 => by unfold runL at h2; omega
  | f + 1, n, j, h1, h2 => by
    unfold runL at h2
    by_cases he : s[a + n]? = s[b + n]?
    · rw [if_pos he] at h2
      by_cases hj : j = n
      · subst hj; exact he
      · exact runS_same s a b f (n + 1) j (by omega) h2
    · rw [if_neg he] at h2; omega
theorem copyS_take {s : List UInt8} {i d : Nat} (h1 : 1 ≤ d) (h2 : d ≤ i) (hi : i ≤ s.length) : ∀ n, n ≤ aliN s (i - d) i → i + n ≤ s.length → copyL (s.take i) d n = s.take (i + n)
  | 0, _, _ => rfl
  | n + 1, h3, h4 => by
    have ih := copyS_take h1 h2 hi n (by omega) (by omega)
    show copyL (s.take i) d n ++ [(copyL (s.take i) d n)[(copyL (s.take i) d n).length - d]?.getD 0] = _
    rw [ih]
    have e1 : (s.take (i + n)).length = i + n := by rw [List.length_take]; omega
    have hn : i + n < s.length := by omega
    have e2 : (s.take (i + n))[i + n - d]? = s[i + n]? := by
      rw [List.getElem?_take_of_lt (by omega), show i + n - d = (i - d) + n from by omega]
      exact runS_same s (i - d) i (min (s.length - i) 273) 0 n (Nat.zero_le _) (by unfold aliN at h3; omega)
    rw [e1, e2, List.getElem?_eq_getElem hn, ← Nat.add_assoc, List.take_add_one, List.getElem?_eq_getElem hn]
    rfl

theorem apply_lit (M : Nat) (y : UInt8) (ps : List Pk) (bs : List UInt8) (r : Int × Int × Int × Int) (h : bs.length < M) : applyGo M (⟨1, 0, 0, y⟩ :: ps) bs r = applyGo M ps (bs ++ [y]) r := by
  simp only [applyGo, and_self, if_true]
  rw [if_pos h]
theorem apply_match (M d n : Nat) (ps : List Pk) (bs : List UInt8) (r : Int × Int × Int × Int) (h1 : 1 ≤ d) (h2 : d ≤ bs.length) (h3 : d ≤ 1048576) (h4 : 2 ≤ n) (h5 : n ≤ 273) (h6 : bs.length + n ≤ M) :
    applyGo M (⟨2, d, n, 0⟩ :: ps) bs r = applyGo M ps (copyL bs d n) ((d : Int), r.1, r.2.1, r.2.2.1) := by
  have hc : copiesL 2 d n ((0 : UInt8).toNat : Int) bs.length r.1 r.2.1 r.2.2.1 r.2.2.2 = ((d : Int), (n : Int), ((d : Int), r.1, r.2.1, r.2.2.1), true) := by
    unfold copiesL
    rw [if_pos ⟨rfl, rfl⟩]
    have e1 : decide (1 ≤ (d : Int)) = true := by simp; omega
    have e2 : decide ((d : Int) ≤ min (bs.length : Int) 1048576) = true := by simp; omega
    have e3 : longB n = true := by unfold longB; simp; omega
    rw [e1, e2, e3]; rfl
  have hf : fitsL 2 d n ((0 : UInt8).toNat : Int) bs.length r.1 r.2.1 r.2.2.1 r.2.2.2 = ((d : Int), (n : Int), ((d : Int), r.1, r.2.1, r.2.2.1), true) := by
    unfold fitsL
    rw [if_neg (by omega), hc]; rfl
  rw [applyGo, if_neg (by dsimp only; omega)]
  dsimp only
  rw [hf, if_pos rfl, if_pos (by dsimp only; omega)]
  rfl

theorem match_goes (s : List UInt8) (W C : Int) (i : Nat) (h : i < s.length) (h0 : 0 < (foundL s i W C).length) (hs : s.length ≤ 1000000) (ps : List Pk) (r : Int × Int × Int × Int) :
    ∃ r', applyGo s.length (⟨2, (lastF (foundL s i W C)).2, (lastF (foundL s i W C)).1, 0⟩ :: ps) (s.take i) r = applyGo s.length ps (s.take (i + (lastF (foundL s i W C)).1)) r' := by
  obtain ⟨h1, h2, h3, h4⟩ := foundL_bound s i W C _ (lastF_mem _ h0)
  have h3' := lastF_three s i W C h0
  have hb := lastF_bound s i W C h0
  have hl : (s.take i).length = i := by rw [List.length_take]; omega
  generalize lastF (foundL s i W C) = p at *
  refine ⟨((p.2 : Int), r.1, r.2.1, r.2.2.1), ?_⟩
  rw [apply_match s.length p.2 p.1 ps (s.take i) r (by omega) (by omega) (by omega) (by omega) (by omega) (by omega)]
  rw [copyS_take h2 h1 (by omega) p.1 (by omega) (by omega)]
theorem lit_goes (s : List UInt8) (i : Nat) (h : i < s.length) (ps : List Pk) (r : Int × Int × Int × Int) : applyGo s.length (⟨1, 0, 0, s[i]?.getD 0⟩ :: ps) (s.take i) r = applyGo s.length ps (s.take (i + 1)) r := by
  rw [apply_lit _ _ _ _ _ (by rw [List.length_take]; omega), List.take_add_one, List.getElem?_eq_getElem h]
  rfl

theorem left_tells (s : List UInt8) (W C : Int) (hs : s.length ≤ 1000000) : ∀ f i r, s.length - i ≤ f → i ≤ s.length → applyGo s.length (leftP s W C i) (s.take i) r = (s, 0)
  | 0, i, r, h, hi => by
    rw [left_end s W C i (by omega), List.take_of_length_le (by omega)]; rfl
  | f + 1, i, r, h, hi => by
    by_cases he : i < s.length
    · by_cases h0 : 0 < (foundL s i W C).length
      · have hb := lastF_bound s i W C h0
        obtain ⟨r', e⟩ := match_goes s W C i he h0 hs (leftP s W C (i + (lastF (foundL s i W C)).1)) r
        rw [left_match s W C i he h0, e]
        exact left_tells s W C hs f _ r' (by omega) (by omega)
      · rw [left_lit s W C i he (by omega), lit_goes s i he]
        exact left_tells s W C hs f _ r (by omega) (by omega)
    · rw [left_end s W C i (by omega), List.take_of_length_le (by omega)]; rfl
theorem leftZ_tells (s : List UInt8) (W C : Int) (hs : s.length ≤ 1000000) : ∀ f i r, s.length - i ≤ f → i ≤ s.length → applyGo s.length (leftZ s W C i) (s.take i) r = (s, 0)
  | 0, i, r, h, hi => by
    rw [leftZ_end s W C i (by omega), List.take_of_length_le (by omega)]; rfl
  | f + 1, i, r, h, hi => by
    by_cases he : i < s.length
    · by_cases h0 : waits s W C i
      · rw [leftZ_lit s W C i he h0, lit_goes s i he]
        exact leftZ_tells s W C hs f _ r (by omega) (by omega)
      · have h1 := not_waits s W C i h0
        have hb := lastF_bound s i W C h1
        obtain ⟨r', e⟩ := match_goes s W C i he h1 hs (leftZ s W C (i + (lastF (foundL s i W C)).1)) r
        rw [leftZ_match s W C i he h0, e]
        exact leftZ_tells s W C hs f _ r' (by omega) (by omega)
    · rw [leftZ_end s W C i (by omega), List.take_of_length_le (by omega)]; rfl

theorem parse_tells (s : List UInt8) (W C : Int) (hs : s.length ≤ 1000000) : applyL (repeatL (parseL s W C)) s.length = (s, 0) := by
  have h : applyL (parseL s W C) s.length = (s, 0) := by
    show applyGo ((s.length : Nat) : Int).toNat (leftP s W C 0) (s.take 0) (1, 1, 1, 1) = _
    rw [Int.toNat_natCast]
    exact left_tells s W C hs _ 0 _ (Nat.le_refl _) (Nat.zero_le _)
  rw [repeatL_tells _ _ (by rw [h]), h]
theorem lazy_tells (s : List UInt8) (W C : Int) (hs : s.length ≤ 1000000) : applyL (repeatL (lazyL s W C)) s.length = (s, 0) := by
  have h : applyL (lazyL s W C) s.length = (s, 0) := by
    show applyGo ((s.length : Nat) : Int).toNat (leftZ s W C 0) (s.take 0) (1, 1, 1, 1) = _
    rw [Int.toNat_natCast]
    exact leftZ_tells s W C hs _ 0 _ (Nat.le_refl _) (Nat.zero_le _)
  rw [repeatL_tells _ _ (by rw [h]), h]
end Go.Proofs.YtalopgbkjgjppaaGreatDoor
