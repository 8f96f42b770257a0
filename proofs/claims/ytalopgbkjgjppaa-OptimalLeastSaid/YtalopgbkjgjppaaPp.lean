/- optimal.Plain's rows as lists: the cheapest ways, place by place. -/
import Derived.Test.YtalopgbkjgjppaaBb
namespace Go.Proofs.Ytalopgbkjgjppaa
open Go.RowKit Go.Cas

def zeroO : Opt := (0, ⟨0, 0, 0, 0⟩)
def oat (O : List Opt) (j : Nat) : Opt := (O[j]?).getD zeroO
def upd (O : List Opt) (j : Nat) (c : Int) (p : Pk) : List Opt := O.set j (betterO (oat O j) c p)
def litPk (y : UInt8) : Pk := ⟨1, 0, 0, y⟩
def matPk (d n : Nat) : Pk := ⟨2, d, n, 0⟩
def litStep (t : Tab) (s : List UInt8) (i : Nat) (O : List Opt) : List Opt := upd O (i + 1) ((oat O i).1 + t.lit) (litPk (byte s i))
def edgeStep (t : Tab) (i : Nat) (C : Int) (O : List Opt) (e : Nat × Nat) : List Opt := upd O (i + e.1) (C + t.edge e.1 e.2) (matPk e.2 e.1)

def edgesTo (n len d : Nat) : List (Nat × Nat) := (List.range' n (len + 1 - n)).map fun m => (m, d)
def edgesGo : Nat → List (Nat × Nat) → List (Nat × Nat)
  | _, [] => []
  | n, (len, d) :: l => edgesTo n len d ++ edgesGo (max n (len + 1)) l

theorem edgesTo_cons {n len : Nat} (d : Nat) (h : n ≤ len) : edgesTo n len d = (n, d) :: edgesTo (n + 1) len d := by
  unfold edgesTo
  rw [show len + 1 - n = (len + 1 - (n + 1)) + 1 from by omega, List.range'_succ]
  rfl
theorem edgesTo_nil {n len : Nat} (d : Nat) (h : len < n) : edgesTo n len d = [] := by
  unfold edgesTo
  rw [show len + 1 - n = 0 from by omega]
  rfl
theorem mem_edgesTo {n len d m e : Nat} : (m, e) ∈ edgesTo n len d ↔ n ≤ m ∧ m ≤ len ∧ e = d := by
  unfold edgesTo
  rw [List.mem_map]
  constructor
  · rintro ⟨x, hx, h⟩
    rw [List.mem_range'] at hx
    obtain ⟨y, hy, rfl⟩ := hx
    simp only [Prod.mk.injEq] at h
    omega
  · rintro ⟨h1, h2, rfl⟩
    exact ⟨m, by rw [List.mem_range']; exact ⟨m - n, by omega, by omega⟩, rfl⟩

def placeStep (t : Tab) (s : List UInt8) (i : Nat) (L : List (Nat × Nat)) (O : List Opt) : List Opt := (edgesGo 2 L).foldl (edgeStep t i (oat O i).1) (litStep t s i O)

/-- What stands in the rows behind so many places. -/
inductive PlainTo (t : Tab) (s : List UInt8) (W : Int) : Nat → List Opt → Prop
  | zero : PlainTo t s W 0 (List.replicate (s.length + 1) zeroO)
  | step {i : Nat} {O : List Opt} {L : List (Nat × Nat)} : PlainTo t s W i O → i < s.length → Finds s W i L → PlainTo t s W (i + 1) (placeStep t s i L O)

theorem upd_length (O : List Opt) (j : Nat) (c : Int) (p : Pk) : (upd O j c p).length = O.length := by simp [upd]
theorem edges_length (t : Tab) (i : Nat) (C : Int) : ∀ (E : List (Nat × Nat)) (O : List Opt), (E.foldl (edgeStep t i C) O).length = O.length
  | [], _ => rfl
  | e :: E, O => by rw [List.foldl_cons, edges_length t i C E]; exact upd_length _ _ _ _

theorem PlainTo.length {t : Tab} {s : List UInt8} {W : Int} {i : Nat} {O : List Opt} (h : PlainTo t s W i O) : O.length = s.length + 1 := by
  induction h with
  | zero => simp
  | step _ _ _ ih => unfold placeStep; rw [edges_length]; unfold litStep; rw [upd_length]; exact ih

theorem PlainTo.le {t : Tab} {s : List UInt8} {W : Int} {i : Nat} {O : List Opt} (h : PlainTo t s W i O) : i ≤ s.length := by
  cases h with
  | zero => omega
  | step _ h _ => omega

theorem oat_upd (O : List Opt) (j k : Nat) (c : Int) (p : Pk) : oat (upd O j c p) k = if j = k ∧ j < O.length then betterO (oat O j) c p else oat O k := by
  unfold upd
  by_cases h : j = k
  · subst h
    by_cases hl : j < O.length
    · rw [if_pos ⟨rfl, hl⟩]
      show ((O.set j (betterO (oat O j) c p))[j]?).getD zeroO = _
      rw [List.getElem?_set, if_pos rfl, if_pos hl]
      rfl
    · rw [if_neg (fun h => hl h.2)]
      show ((O.set j (betterO (oat O j) c p))[j]?).getD zeroO = (O[j]?).getD zeroO
      rw [List.getElem?_set, if_pos rfl, if_neg hl, List.getElem?_eq_none (by omega)]
  · rw [if_neg (fun e => h e.1)]
    show ((O.set j (betterO (oat O j) c p))[k]?).getD zeroO = (O[k]?).getD zeroO
    rw [List.getElem?_set, if_neg h]

def Small (O : List Opt) (B : Int) : Prop := ∀ j, 0 ≤ (oat O j).1 ∧ (oat O j).1 ≤ B

theorem Small.upd {O : List Opt} {B : Int} (h : Small O B) (j : Nat) (c : Int) (p : Pk) (hc : 0 ≤ c ∧ c ≤ B) : Small (upd O j c p) B := by
  intro k
  rw [oat_upd]
  split
  · unfold betterO
    split
    · exact hc
    · exact h j
  · exact h k

theorem Small.edges {t : Tab} (ht : t.good) (i : Nat) {C B : Int} (hC : 0 ≤ C ∧ C + 660000 ≤ B) : ∀ (E : List (Nat × Nat)) (O : List Opt), Small O B → Small (E.foldl (edgeStep t i C) O) B
  | [], _, h => h
  | e :: E, O, h => by
    rw [List.foldl_cons]
    refine Small.edges ht i hC E _ (h.upd _ _ _ ?_)
    have := t.edge_ok ht e.1 e.2
    omega

theorem PlainTo.small {t : Tab} (ht : t.good) {s : List UInt8} {W : Int} {i : Nat} {O : List Opt} (h : PlainTo t s W i O) : Small O (i * 660000) := by
  induction h with
  | zero =>
    intro j
    have : oat (List.replicate (s.length + 1) zeroO) j = zeroO := by
      unfold oat
      rw [List.getElem?_replicate]
      split <;> rfl
    rw [this]
    exact ⟨Int.le_refl _, by simp [zeroO]⟩
  | @step i O L hp hi hf ih =>
    have hC := ih i
    have hl := ht.1
    unfold okP at hl
    refine Small.edges ht i ⟨hC.1, by push_cast; omega⟩ _ _ (Small.upd (fun j => ?_) _ _ _ ⟨by omega, by push_cast; omega⟩)
    have := ih j
    exact ⟨this.1, by push_cast; omega⟩

/-- What Next tells: each from a place before, as long as it is. -/
theorem pick_mem (i : Nat) : ∀ (l : List (Nat × Nat)) (best n d : Nat), (n, d) ∈ pick i best l → best < n ∧ ∃ k, (k, n) ∈ l ∧ d = i - k
  | [], _, _, _, h => by simp [pick] at h
  | (k, m) :: l, best, n, d, h => by
    unfold pick at h
    split at h
    · rename_i hb
      rcases List.mem_cons.1 h with e | h
      · simp only [Prod.mk.injEq] at e
        obtain ⟨rfl, rfl⟩ := e
        exact ⟨hb, k, List.mem_cons_self .., rfl⟩
      · obtain ⟨h1, k', h2, h3⟩ := pick_mem i l m n d h
        exact ⟨by omega, k', List.mem_cons_of_mem _ h2, h3⟩
    · obtain ⟨h1, k', h2, h3⟩ := pick_mem i l best n d h
      exact ⟨h1, k', List.mem_cons_of_mem _ h2, h3⟩

theorem finds_mem {s : List UInt8} {W : Int} {i : Nat} {L : List (Nat × Nat)} (h : Finds s W i L) {n d : Nat} (hm : (n, d) ∈ L) : 2 ≤ n ∧ 1 ≤ d ∧ d ≤ i ∧ (d : Int) ≤ W ∧ n = aliN s (i - d) i := by
  obtain ⟨t, ht, rfl⟩ := h
  obtain ⟨h1, k, h2, rfl⟩ := pick_mem i _ _ _ _ hm
  have hx := (met_is s i W t i ht.1 ht.2.1 ht.2.1).1 (k, n) h2
  dsimp only at hx
  have e : i - (i - k) = k := by omega
  rw [e]
  refine ⟨by omega, by omega, by omega, ?_, hx.2.2.2⟩
  have := hx.2.2.1
  omega

theorem made_opts (N : Nat) : madeCells #[.int .i64 0, .int .i64 0, .int .i64 0, .int .i64 0, .int .u8 0] (N * 5) = (cellsO (List.replicate N zeroO)).toArray := by
  apply Array.ext_getElem?
  intro x
  rw [show (cellsO (List.replicate N zeroO)).toArray[x]? = (cellsO (List.replicate N zeroO))[x]? from by simp]
  by_cases hx : x < N * 5
  · obtain ⟨a, b, hb, rfl⟩ : ∃ a b, b < 5 ∧ x = a * 5 + b := ⟨x / 5, x % 5, Nat.mod_lt _ (by decide), by omega⟩
    rw [cellsO_get (List.replicate N zeroO) a b zeroO (by rw [List.getElem?_replicate, if_pos (by omega)]) hb]
    have e : (madeCells #[.int .i64 0, .int .i64 0, .int .i64 0, .int .i64 0, .int .u8 0] (N * 5))[a * 5 + b]? = some (#[Value.int .i64 0, .int .i64 0, .int .i64 0, .int .i64 0, .int .u8 0][(a * 5 + b) % 5]!) := by
      simp [madeCells, hx]
    rw [e, show (a * 5 + b) % 5 = b from by omega]
    have : b = 0 ∨ b = 1 ∨ b = 2 ∨ b = 3 ∨ b = 4 := by omega
    rcases this with rfl | rfl | rfl | rfl | rfl <;> rfl
  · rw [List.getElem?_eq_none (by rw [cellsO_length, List.length_replicate]; omega), Array.getElem?_eq_none (by rw [size_madeCells]; omega)]
end Go.Proofs.Ytalopgbkjgjppaa
