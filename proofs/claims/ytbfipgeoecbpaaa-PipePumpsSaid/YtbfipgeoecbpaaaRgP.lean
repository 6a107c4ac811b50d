/- A ring by its frames, in plain words: what lies in it, what is drained, what is lost. No program in sight. No condition. -/
import Derived.Test.YtbfipgeoecbpaaaRg
namespace Go.Proofs.Ytbfipgeoecbpaaa
open Go.RowKit
set_option linter.unusedVariables false
set_option linter.unusedSimpArgs false
/-- Sizes behind n bytes that are gone; is the first one begun? -/
def fin : List Nat → Nat → Bool → List Nat × Bool
  | l, 0, bg => (l, bg)
  | [], _ + 1, bg => ([], bg)
  | x :: l, n + 1, _ => if n + 1 < x then ((x - (n + 1)) :: l, true) else fin l (n + 1 - x) false
theorem fin_zero (l : List Nat) (bg : Bool) : fin l 0 bg = (l, bg) := by cases l <;> rfl
theorem fin_lt {x n : Nat} (l : List Nat) (bg : Bool) (h0 : 1 ≤ n) (h : n < x) : fin (x :: l) n bg = ((x - n) :: l, true) := by
  obtain ⟨m, rfl⟩ : ∃ m, n = m + 1 := ⟨n - 1, by omega⟩
  show (if m + 1 < x then _ else _) = _
  rw [if_pos h]
theorem fin_ge {x n : Nat} (l : List Nat) (bg : Bool) (h0 : 1 ≤ n) (h : x ≤ n) : fin (x :: l) n bg = fin l (n - x) false := by
  obtain ⟨m, rfl⟩ : ∃ m, n = m + 1 := ⟨n - 1, by omega⟩
  show (if m + 1 < x then _ else _) = _
  rw [if_neg (by omega)]
/-- The same of frames. -/
def drn : List (List UInt8) → Nat → Bool → List (List UInt8) × Bool
  | l, 0, bg => (l, bg)
  | [], _ + 1, bg => ([], bg)
  | x :: l, n + 1, _ => if n + 1 < x.length then (x.drop (n + 1) :: l, true) else drn l (n + 1 - x.length) false
theorem drn_zero (l : List (List UInt8)) (bg : Bool) : drn l 0 bg = (l, bg) := by cases l <;> rfl
theorem drn_lt {x : List UInt8} {n : Nat} (l : List (List UInt8)) (bg : Bool) (h0 : 1 ≤ n) (h : n < x.length) : drn (x :: l) n bg = (x.drop n :: l, true) := by
  obtain ⟨m, rfl⟩ : ∃ m, n = m + 1 := ⟨n - 1, by omega⟩
  show (if m + 1 < x.length then _ else _) = _
  rw [if_pos h]
theorem drn_ge {x : List UInt8} {n : Nat} (l : List (List UInt8)) (bg : Bool) (h0 : 1 ≤ n) (h : x.length ≤ n) : drn (x :: l) n bg = drn l (n - x.length) false := by
  obtain ⟨m, rfl⟩ : ∃ m, n = m + 1 := ⟨n - 1, by omega⟩
  show (if m + 1 < x.length then _ else _) = _
  rw [if_neg (by omega)]
theorem drn_fin : ∀ (L : List (List UInt8)) (n : Nat) (bg : Bool), fin (L.map List.length) n bg = ((drn L n bg).1.map List.length, (drn L n bg).2)
  | L, 0, bg => by rw [fin_zero, drn_zero]
  | [], n + 1, bg => rfl
  | x :: l, n + 1, bg => by
    rw [List.map_cons]
    by_cases h : n + 1 < x.length
    · rw [fin_lt _ _ (by omega) h, drn_lt _ _ (by omega) h]
      simp
    · rw [fin_ge _ _ (by omega) (by omega), drn_ge _ _ (by omega) (by omega)]
      exact drn_fin l _ false
theorem drn_flat : ∀ (L : List (List UInt8)) (n : Nat) (bg : Bool), (drn L n bg).1.flatten = L.flatten.drop n
  | L, 0, bg => by rw [drn_zero]; rfl
  | [], n + 1, bg => by simp [drn]
  | x :: l, n + 1, bg => by
    by_cases h : n + 1 < x.length
    · rw [drn_lt _ _ (by omega) h, List.flatten_cons, List.flatten_cons, List.drop_append_of_le_length (by omega)]
    · rw [drn_ge _ _ (by omega) (by omega), drn_flat l _ false, List.flatten_cons, List.drop_append, List.drop_of_length_le (l := x) (by omega), List.nil_append]
theorem flat_len (L : List (List UInt8)) : (L.map List.length).sum = L.flatten.length := by
  induction L with
  | nil => rfl
  | cons x l ih => rw [List.map_cons, List.sum_cons, List.flatten_cons, List.length_append, ih]
theorem drn_all (L : List (List UInt8)) (hp : ∀ x ∈ L, x ≠ []) : ∀ bg, (drn L L.flatten.length bg).1 = [] := by
  induction L with
  | nil => intro bg; rfl
  | cons x l ih =>
    intro bg
    have hx : 1 ≤ x.length := List.length_pos_iff.2 (hp x (by simp))
    rw [List.flatten_cons, List.length_append, drn_ge _ _ (by omega) (by omega), Nat.add_sub_cancel_left]
    exact ih (fun y hy => hp y (by simp [hy])) false
theorem drn_pos : ∀ (L : List (List UInt8)) (n : Nat) (bg : Bool), (∀ x ∈ L, x ≠ []) → ∀ x ∈ (drn L n bg).1, x ≠ []
  | L, 0, bg, h => by rw [drn_zero]; exact h
  | [], n + 1, bg, h => h
  | x :: l, n + 1, bg, h => by
    by_cases h1 : n + 1 < x.length
    · rw [drn_lt _ _ (by omega) h1]
      intro y hy
      rcases List.mem_cons.1 hy with rfl | hy
      · intro e
        have := congrArg List.length e
        simp at this
        omega
      · exact h y (by simp [hy])
    · rw [drn_ge _ _ (by omega) (by omega)]
      exact drn_pos l _ false fun y hy => h y (by simp [hy])
/-- A ring by its frames. -/
structure RingL (w : World) (b cap : Nat) (pol : Int) (L : List (List UInt8)) (bg : Bool) (lo : Nat) (F : Nat → Prop) : Prop where
  st : ∃ X R, RgSt w b X R (L.map List.length) ∧ X.cap = cap ∧ X.pol = pol ∧ X.bg = bg ∧ X.lo = lo ∧ cont R X.cap X.hd X.used = L.flatten ∧ (∀ k, rgS b X k → F k)
  foot : ∀ k, F k → k < w.heap.size
  bgn : L = [] → bg = false
/-- What a call may make of some blocks. -/
def grow (F : Nat → Prop) (w w' : World) (k : Nat) : Prop := F k ∨ (w.heap.size ≤ k ∧ k < w'.heap.size)
theorem RingL.pos {w : World} {b cap : Nat} {pol : Int} {L : List (List UInt8)} {bg : Bool} {lo : Nat} {F : Nat → Prop} (h : RingL w b cap pol L bg lo F) : ∀ x ∈ L, x ≠ [] := by
  obtain ⟨X, R, st, _⟩ := h.st
  intro x hx e
  have := st.pos x.length (List.mem_map.2 ⟨x, hx, rfl⟩)
  rw [e] at this
  simp at this
theorem RingL.only {w w' : World} {b cap : Nat} {pol : Int} {L : List (List UInt8)} {bg : Bool} {lo : Nat} {F S : Nat → Prop} (h : RingL w b cap pol L bg lo F) (o : Only S w w') (hn : ∀ k, F k → ¬ S k) : RingL w' b cap pol L bg lo F := by
  obtain ⟨X, R, st, h1, h2, h3, h4, h5, h6⟩ := h.st
  exact ⟨⟨X, R, st.only o fun k hk => hn k (h6 k hk), h1, h2, h3, h4, h5, h6⟩, fun k hk => Nat.lt_of_lt_of_le (h.foot k hk) o.size, h.bgn⟩
theorem RingL.below {w w' : World} {b cap : Nat} {pol : Int} {L : List (List UInt8)} {bg : Bool} {lo : Nat} {F : Nat → Prop} (h : RingL w b cap pol L bg lo F) (k : Below w.heap.size w w') : RingL w' b cap pol L bg lo F := h.only (Only.of_below k (fun _ => False)) fun _ _ x => x
theorem RingL.mono {w : World} {b cap : Nat} {pol : Int} {L : List (List UInt8)} {bg : Bool} {lo : Nat} {F G : Nat → Prop} (h : RingL w b cap pol L bg lo F) (hs : ∀ k, F k → G k) (hf : ∀ k, G k → k < w.heap.size) : RingL w b cap pol L bg lo G := by
  obtain ⟨X, R, st, h1, h2, h3, h4, h5, h6⟩ := h.st
  exact ⟨⟨X, R, st, h1, h2, h3, h4, h5, fun k hk => hs k (h6 k hk)⟩, hf, h.bgn⟩
end Go.Proofs.Ytbfipgeoecbpaaa
