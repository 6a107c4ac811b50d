/- A bundle of: Mkr FrL7. -/
import Derived.Test.YthdenjokedmcfaaBF
import Derived.Test.YthdenjokedmcfaaBW
/- Markers in plain words: two frames behind a burst have the marker nowhere but where it stood. No program in sight. No condition. -/
namespace Go.Proofs.Ythdenjokedmcfaa
open Go.RowKit
set_option maxRecDepth 20000
theorem rn5 {y : Nat} {l : List UInt8} (h5 : 5 ≤ l.length) (h : ∀ t, t < 5 → l.getD t 0 = 255) : rn y l = none := by
  match l, h5 with
  | a :: b :: c :: d :: e :: l, _ =>
    have ha : a = 255 := h 0 (by decide)
    have hb : b = 255 := h 1 (by decide)
    have hc : c = 255 := h 2 (by decide)
    have hd : d = 255 := h 3 (by decide)
    have he : e = 255 := h 4 (by decide)
    subst ha hb hc hd he
    have h255 : (255 : UInt8).toNat = 255 := rfl
    rw [rn, h255, if_pos rfl]
    split
    · rfl
    · rw [rn, h255, if_pos rfl]
      split
      · rfl
      · rw [rn, h255, if_pos rfl]
        split
        · rfl
        · rw [rn, h255, if_pos rfl]
          split
          · rfl
          · rw [rn, h255, if_pos rfl, if_pos (by omega)]
theorem rn_run {l : List UInt8} {x : Nat} (h : rn 0 l = some x) {q : Nat} (hq : q + 5 ≤ l.length) : ∃ t, t < 5 ∧ l.getD (q + t) 0 ≠ 255 := by
  refine Classical.byContradiction fun hn => ?_
  have hall : ∀ t, t < 5 → (l.drop q).getD t 0 = 255 := fun t ht => by
    rw [List.getD_eq_getElem?_getD, List.getElem?_drop, ← List.getD_eq_getElem?_getD]
    exact Classical.byContradiction fun hc => hn ⟨t, ht, hc⟩
  rw [← List.take_append_drop q l, rn_append] at h
  cases hr : rn 0 (l.take q) with
  | none => rw [hr] at h; cases h
  | some y =>
    rw [hr] at h
    rw [Option.bind_some, rn5 (by rw [List.length_drop]; omega) hall] at h
    cases h
/-- What a frame's bytes are, as far as runs of 255 go. -/
structure FrF (a : List UInt8) (n : Nat) : Prop where
  len : a.length = 59 + n
  run : ∀ p, p < 16 → a.getD p 0 = 255
  hd : ∀ p, 16 ≤ p → p < 54 → a.getD p 0 ≠ 255
  l21 : a.getD 21 0 = 76
  pay : ∀ q, 54 ≤ q → q + 5 ≤ 54 + n → ∃ t, t < 5 ∧ a.getD (q + t) 0 ≠ 255
  tl : ∀ p, 54 + n ≤ p → p < 59 + n → a.getD p 0 ≠ 255
theorem gd_app1 {l m : List UInt8} {p : Nat} (h : p < l.length) : (l ++ m).getD p 0 = l.getD p 0 := by
  rw [List.getD_eq_getElem?_getD, List.getElem?_append_left h, ← List.getD_eq_getElem?_getD]
theorem gd_app2 {l m : List UInt8} {p : Nat} (h : l.length ≤ p) : (l ++ m).getD p 0 = m.getD (p - l.length) 0 := by
  rw [List.getD_eq_getElem?_getD, List.getElem?_append_right h, ← List.getD_eq_getElem?_getD]
theorem sep_lo : ∀ (c n p : Nat), (sep c n).getD p 0 ≠ 255
  | 0, _, p => by simp [sep]
  | c + 1, n, 0 => by
    rw [sep, List.getD_cons_zero]
    intro h
    have := congrArg UInt8.toNat h
    simp at this
    omega
  | c + 1, n, p + 1 => by rw [sep, List.getD_cons_succ]; exact sep_lo c _ p
theorem app_lo {l m : List UInt8} (hl : ∀ p, l.getD p 0 ≠ 255) (hm : ∀ p, m.getD p 0 ≠ 255) (p : Nat) : (l ++ m).getD p 0 ≠ 255 := by
  rcases Nat.lt_or_ge p l.length with h | h
  · rw [gd_app1 h]; exact hl p
  · rw [gd_app2 h]; exact hm _
theorem tafril_lo (p : Nat) : tafril.getD p 0 ≠ 255 := by
  rcases Nat.lt_or_ge p 6 with h | h
  · have : ∀ p : Fin 6, tafril.getD p.1 0 ≠ 255 := by decide
    exact this ⟨p, h⟩
  · rw [List.getD_eq_getElem?_getD, List.getElem?_eq_none (by exact h)]
    decide
theorem frH_lo (seq cy ct l p : Nat) : (frH seq cy ct l).getD p 0 ≠ 255 := by
  unfold frH
  exact app_lo (app_lo (app_lo (app_lo tafril_lo (sep_lo _ _)) (sep_lo _ _)) (sep_lo _ _)) (sep_lo _ _) p
theorem frF_of {seq n : Nat} {z : Nat → Ev} (hr : ∃ x, rn 0 (prnC z n) = some x) : FrF (frB seq z n) (prnC z n).length := by
  have hlen := frB_len seq z n
  obtain ⟨x, hx⟩ := hr
  unfold frB at hlen ⊢
  have hH := frH_len seq (z 0).cy (z 0).ct (prnC z n).length
  have hHl := frH_lo seq (z 0).cy (z 0).ct (prnC z n).length
  have h21 : (frH seq (z 0).cy (z 0).ct (prnC z n).length).getD 5 0 = 76 := by
    unfold frH
    simp only [List.append_assoc]
    rw [gd_app1 (by decide)]
    rfl
  generalize frH seq (z 0).cy (z 0).ct (prnC z n).length = Hd at hH hHl h21 hlen ⊢
  generalize prnC z n = P at hx hlen ⊢
  have h16 : six255.length = 16 := rfl
  have e1 : (six255 ++ Hd ++ sep 5 (crcV Hd) ++ P ++ sep 5 (crcV P)) = six255 ++ ((Hd ++ sep 5 (crcV Hd)) ++ (P ++ sep 5 (crcV P))) := by simp only [List.append_assoc]
  rw [e1] at hlen ⊢
  have l38 : (Hd ++ sep 5 (crcV Hd)).length = 38 := by rw [List.length_append, hH, sep_len]
  have lo38 := app_lo hHl (sep_lo 5 (crcV Hd))
  have g21 : (Hd ++ sep 5 (crcV Hd)).getD 5 0 = 76 := by rw [gd_app1 (by omega), h21]
  generalize Hd ++ sep 5 (crcV Hd) = H2 at l38 lo38 g21 hlen ⊢
  refine ⟨hlen, fun p hp => ?_, fun p h1 h2 => ?_, ?_, fun q h1 h2 => ?_, fun p h1 h2 => ?_⟩
  · rw [gd_app1 (by omega)]
    unfold six255
    rw [List.getD_eq_getElem?_getD, List.getElem?_replicate, if_pos hp]
    rfl
  · rw [gd_app2 (by omega), gd_app1 (by omega)]; exact lo38 _
  · rw [gd_app2 (by omega), gd_app1 (by omega)]; exact g21
  · obtain ⟨t, ht, hne⟩ := rn_run hx (q := q - 54) (by omega)
    refine ⟨t, ht, ?_⟩
    rw [gd_app2 (by omega), gd_app2 (by omega), gd_app1 (by omega), h16, l38, show q + t - 16 - 38 = q - 54 + t by omega]
    exact hne
  · rw [gd_app2 (by omega), gd_app2 (by omega), gd_app2 (by omega)]
    exact sep_lo _ _ _
theorem gd_bits {l m : List UInt8} {p : Nat} (h : l.getD p 0 ≠ m.getD p 0) : ∃ j, 8 * p ≤ j ∧ j < 8 * p + 8 ∧ bitL l j ≠ bitL m j := by
  refine Classical.byContradiction fun hn => h ?_
  refine UInt8.toNat_inj.1 (Nat.eq_of_testBit_eq fun i => ?_)
  rcases Nat.lt_or_ge i 8 with hi | hi
  · have := Classical.byContradiction fun hc : bitL l (8 * p + i) ≠ bitL m (8 * p + i) => hn ⟨8 * p + i, by omega, by omega, hc⟩
    unfold bitL at this
    rw [show (8 * p + i) / 8 = p by omega, show (8 * p + i) % 8 = i by omega] at this
    exact this
  · have e : ∀ u : UInt8, u.toNat.testBit i = false := fun u => Nat.testBit_lt_two_pow (Nat.lt_of_lt_of_le u.toNat_lt (show 2 ^ 8 ≤ 2 ^ i from Nat.pow_le_pow_right (by decide) hi))
    rw [e, e]
/-- Bytes that a burst changes lie near each other. -/
theorem near_bytes {l m : List UInt8} {a : Nat} (hn : ∀ j, ¬ (a ≤ j ∧ j < a + 32) → bitL m j = bitL l j) {p q : Nat} (hp : m.getD p 0 ≠ l.getD p 0) (hq : m.getD q 0 ≠ l.getD q 0) : q ≤ p + 4 := by
  obtain ⟨i, i1, i2, i3⟩ := gd_bits hp
  obtain ⟨j, j1, j2, j3⟩ := gd_bits hq
  have a1 : a ≤ i ∧ i < a + 32 := Classical.byContradiction fun h => i3 (hn i h)
  have a2 : a ≤ j ∧ j < a + 32 := Classical.byContradiction fun h => j3 (hn j h)
  omega
/-- Two frames behind a burst: the marker stands nowhere but where it stood. -/
theorem marker_law {x y s : List UInt8} {n k a i : Nat} (hx : FrF x n) (hy : FrF y k) (hn : ∀ j, ¬ (a ≤ j ∧ j < a + 32) → bitL s j = bitL (x ++ y) j)
    (hi : i + 22 ≤ (x ++ y).length) (hm : ∀ t, t < 22 → s.getD (i + t) 0 = mk.getD t 0) : i = 0 ∨ i = x.length := by
  have hlx := hx.len
  have hly := hy.len
  have near := fun p q => near_bytes (l := x ++ y) (m := s) hn (p := p) (q := q)
  have g1 : ∀ p, p < x.length → (x ++ y).getD p 0 = x.getD p 0 := fun p h => gd_app1 h
  have g2 : ∀ p, (x ++ y).getD (x.length + p) 0 = y.getD p 0 := fun p => by rw [gd_app2 (by omega), Nat.add_sub_cancel_left]
  rw [List.length_append] at hi
  generalize x ++ y = l at *
  have m255 : ∀ t, t < 16 → mk.getD t 0 = 255 := fun t ht => by
    have : ∀ t : Fin 16, mk.getD t.1 0 = 255 := by decide
    exact this ⟨t, ht⟩
  have mlet : ∀ t, t < 5 → mk.getD (16 + t) 0 ≠ 76 ∧ mk.getD (16 + t) 0 ≠ 255 := fun t ht => by
    have : ∀ t : Fin 5, mk.getD (16 + t.1) 0 ≠ 76 ∧ mk.getD (16 + t.1) 0 ≠ 255 := by decide
    exact this ⟨t, ht⟩
  -- a run of five
  have R : ∀ q, q + 5 ≤ x.length + y.length → (∀ t, t < 5 → l.getD (q + t) 0 = 255) → q + 5 ≤ 16 ∨ (x.length ≤ q ∧ q + 5 ≤ x.length + 16) := by
    intro q hq h
    have no : ∀ p, q ≤ p → p < q + 5 → l.getD p 0 = 255 := fun p h1 h2 => by
      have := h (p - q) (by omega)
      rw [show q + (p - q) = p by omega] at this
      exact this
    rcases Nat.lt_or_ge q 16 with c | c
    · refine .inl (Classical.byContradiction fun hc => ?_)
      have := no 16 (by omega) (by omega)
      rw [g1 16 (by omega)] at this
      exact hx.hd 16 (by omega) (by omega) this
    · rcases Nat.lt_or_ge q 54 with c2 | c2
      · have := no q (by omega) (by omega)
        rw [g1 q (by omega)] at this
        exact absurd this (hx.hd q c c2)
      · rcases Nat.lt_or_ge (54 + n) (q + 5) with c3 | c3
        · rcases Nat.lt_or_ge q x.length with c4 | c4
          · rcases Nat.lt_or_ge q (54 + n) with c5 | c5
            · have := no (54 + n) (by omega) (by omega)
              rw [g1 _ (by omega)] at this
              exact absurd this (hx.tl _ (by omega) (by omega))
            · have := no q (by omega) (by omega)
              rw [g1 _ (by omega)] at this
              exact absurd this (hx.tl _ (by omega) (by omega))
          · obtain ⟨r, rfl⟩ : ∃ r, q = x.length + r := ⟨q - x.length, by omega⟩
            have no2 : ∀ p, r ≤ p → p < r + 5 → y.getD p 0 = 255 := fun p h1 h2 => by
              rw [← g2 p]
              exact no _ (by omega) (by omega)
            rcases Nat.lt_or_ge r 16 with d | d
            · refine .inr ⟨by omega, Classical.byContradiction fun hc => ?_⟩
              exact hy.hd 16 (by omega) (by omega) (no2 16 (by omega) (by omega))
            · rcases Nat.lt_or_ge r 54 with d2 | d2
              · exact absurd (no2 r (by omega) (by omega)) (hy.hd r d d2)
              · rcases Nat.lt_or_ge (54 + k) (r + 5) with d3 | d3
                · rcases Nat.lt_or_ge r (54 + k) with d5 | d5
                  · exact absurd (no2 (54 + k) (by omega) (by omega)) (hy.tl _ (by omega) (by omega))
                  · exact absurd (no2 r (by omega) (by omega)) (hy.tl _ (by omega) (by omega))
                · obtain ⟨t, ht, hne⟩ := hy.pay r d2 d3
                  exact absurd (no2 (r + t) (by omega) (by omega)) hne
        · obtain ⟨t, ht, hne⟩ := hx.pay q c2 c3
          have := no (q + t) (by omega) (by omega)
          rw [g1 _ (by omega)] at this
          exact absurd this hne
  -- beside a run that begins at b
  have K : ∀ b, (b = 0 ∨ b = x.length) → i ≠ b → (∀ p, p < 16 → l.getD (b + p) 0 = 255) → (∀ p, 16 ≤ p → p < 54 → l.getD (b + p) 0 ≠ 255) → l.getD (b + 21) 0 = 76 → (0 < b → l.getD (b - 1) 0 ≠ 255) →
      (b ≤ i ∧ i + 5 ≤ b + 16) ∨ (b ≤ i + 11 ∧ i + 16 ≤ b + 16) → False := by
    intro b hb hne k255 khd k21 kb hc
    rcases Nat.lt_or_ge b i with c | c
    · have hd : i ≤ b + 11 := by omega
      obtain ⟨d, rfl⟩ : ∃ d, i = b + d := ⟨i - b, by omega⟩
      -- b + 16 and b + 15 + d were changed
      have c1 : s.getD (b + 16) 0 ≠ l.getD (b + 16) 0 := by
        have := hm (16 - d) (by omega)
        rw [show b + d + (16 - d) = b + 16 by omega, m255 _ (by omega)] at this
        rw [this]
        exact fun h => khd 16 (by omega) (by omega) h.symm
      have c2 : s.getD (b + (15 + d)) 0 ≠ l.getD (b + (15 + d)) 0 := by
        have := hm 15 (by omega)
        rw [show b + d + 15 = b + (15 + d) by omega, m255 _ (by omega)] at this
        rw [this]
        exact fun h => khd (15 + d) (by omega) (by omega) h.symm
      have n1 := near _ _ c1 c2
      have c3 : s.getD (b + 21) 0 ≠ l.getD (b + 21) 0 := by
        have := hm (16 + (5 - d)) (by omega)
        rw [show b + d + (16 + (5 - d)) = b + 21 by omega] at this
        rw [this, k21]
        exact (mlet (5 - d) (by omega)).1
      have n2 := near _ _ c1 c3
      omega
    · obtain ⟨e, rfl⟩ : ∃ e, b = i + e := ⟨b - i, by omega⟩
      have he : 1 ≤ e := by omega
      have c1 : s.getD (i + e - 1) 0 ≠ l.getD (i + e - 1) 0 := by
        have := hm (e - 1) (by omega)
        rw [show i + (e - 1) = i + e - 1 by omega, m255 _ (by omega)] at this
        rw [this]
        exact fun h => kb (by omega) h.symm
      have c2 : s.getD (i + e + (16 - e)) 0 ≠ l.getD (i + e + (16 - e)) 0 := by
        have := hm (16 + 0) (by omega)
        rw [show i + (16 + 0) = i + e + (16 - e) by omega] at this
        rw [this, k255 _ (by omega)]
        exact (mlet 0 (by omega)).2
      have n1 := near _ _ c1 c2
      omega
  refine Classical.byContradiction fun hne => ?_
  have hne1 : i ≠ 0 := fun h => hne (.inl h)
  have hne2 : i ≠ x.length := fun h => hne (.inr h)
  have K0 := K 0 (.inl rfl) hne1 (fun p hp => by rw [Nat.zero_add, g1 p (by omega)]; exact hx.run p hp) (fun p h1 h2 => by rw [Nat.zero_add, g1 p (by omega)]; exact hx.hd p h1 h2) (by rw [Nat.zero_add, g1 21 (by omega)]; exact hx.l21) (fun h => absurd h (by omega))
  have K1 := K x.length (.inr rfl) hne2 (fun p hp => by rw [g2]; exact hy.run p hp) (fun p h1 h2 => by rw [g2]; exact hy.hd p h1 h2) (by rw [g2]; exact hy.l21) (fun h => by rw [g1 _ (by omega)]; exact hx.tl _ (by omega) (by omega))
  by_cases u : ∀ t, t < 5 → s.getD (i + t) 0 = l.getD (i + t) 0
  · have := R i (by omega) (fun t ht => by rw [← u t ht, hm t (by omega), m255 t (by omega)])
    rcases this with h | h
    · exact K0 (.inl ⟨by omega, by omega⟩)
    · exact K1 (.inl ⟨by omega, by omega⟩)
  · obtain ⟨t0, ht0, hne0⟩ : ∃ t, t < 5 ∧ s.getD (i + t) 0 ≠ l.getD (i + t) 0 := by
      refine Classical.byContradiction fun hc => u fun t ht => Classical.byContradiction fun h => hc ⟨t, ht, h⟩
    have v : ∀ t, t < 5 → s.getD (i + 11 + t) 0 = l.getD (i + 11 + t) 0 := fun t ht => Classical.byContradiction fun h => by
      have := near _ _ hne0 h
      omega
    have := R (i + 11) (by omega) (fun t ht => by rw [← v t ht, show i + 11 + t = i + (11 + t) by omega, hm _ (by omega), m255 _ (by omega)])
    rcases this with h | h
    · exact K0 (.inr ⟨by omega, by omega⟩)
    · exact K1 (.inr ⟨by omega, by omega⟩)
end Go.Proofs.Ythdenjokedmcfaa
/- The walk of the statement of layer 7: FrameMarkers. (Printed by gen_frl7.py.) -/
namespace Go.Proofs.Ythdenjokedmcfaa
open Go.WideShapes Go.Deep Go.RowKit
set_option maxRecDepth 20000
/-- Two frames and a burst as an argument. -/
structure PrV where
  f : FrV
  g : FrV
  n : Int
  pt : Nat
def PrV.val (q : PrV) : Value := .agg #[.int .u32 q.f.seq, .slice q.f.oa q.f.len q.f.cap, .int .u32 q.g.seq, .slice q.g.oa q.g.len q.g.cap, .int .i64 q.n, .int .u32 q.pt]
structure PrV.Ok (W : World) (q : PrV) : Prop where
  f : q.f.Ok W
  g : q.g.Ok W
  pt : q.pt < 4294967296
theorem arg_struct72 {H : Type} {enc : TypeId × Value → H} {W : World} {base : Nat} {held : Bool} {v : Value} {d : DataW H} {ps : List MemPlace}
    (hv : ∃ cs, v = .agg cs ∧ cs.size = Try.prog.cellsOf 72) (h : DataW.Trod enc Try.prog W base (fun _ => true) held 72 v d ps) : ∃ q : PrV, v = q.val ∧ q.Ok W := by
  obtain ⟨cs, rfl, hsz⟩ := hv
  obtain ⟨fuel, hf⟩ := h
  have h2 : Try.prog.cellsOf 72 = 6 := by kernel_rfl
  rw [h2] at hsz
  obtain ⟨l⟩ := cs
  match l, hsz with
  | [c0, c1, c2, c3, c4, c5], _ =>
    obtain ⟨ys, n', _, _, _, hyl, hfl⟩ := DataW.trod_struct Try.underlying72 hf
    have hyl : ys.length = 4 := hyl
    have k0 : Try.prog.cellsOf 48 = 2 := by kernel_rfl
    have k1 : Try.prog.cellsOf 3 = 1 := by kernel_rfl
    have k2 : Try.prog.cellsOf 41 = 1 := by kernel_rfl
    have g0 : DataW.trod enc Try.prog W base (fun _ => true) held n' 48 (List.take (Try.prog.cellsOf 48) [c0, c1, c2, c3, c4, c5]) = ys[0]? := hfl 0 _ rfl
    have g1 : DataW.trod enc Try.prog W base (fun _ => true) held n' 48 (List.take (Try.prog.cellsOf 48) [c2, c3, c4, c5]) = ys[1]? := hfl 1 _ rfl
    have g2 : DataW.trod enc Try.prog W base (fun _ => true) held n' 3 (List.take (Try.prog.cellsOf 3) [c4, c5]) = ys[2]? := hfl 2 _ rfl
    have g3 : DataW.trod enc Try.prog W base (fun _ => true) held n' 41 (List.take (Try.prog.cellsOf 41) [c5]) = ys[3]? := hfl 3 _ rfl
    rw [k0, List.getElem?_eq_getElem (by omega)] at g0 g1
    rw [k1, List.getElem?_eq_getElem (by omega)] at g2
    rw [k2, List.getElem?_eq_getElem (by omega)] at g3
    obtain ⟨z2, e2, _, w2⟩ := DataW.trod_int Try.underlying3 g2
    obtain ⟨z3, e3, _, w3⟩ := DataW.trod_int Try.underlying41 g3
    simp at e2 e3
    obtain ⟨m3, rfl, u3⟩ := u32_of w3
    subst e2 e3
    have t0 : DataW.Trod enc Try.prog W base (fun _ => true) held 48 (.agg #[c0, c1]) (ys[0]'(by omega)).1 (ys[0]'(by omega)).2 := ⟨n', g0⟩
    have t1 : DataW.Trod enc Try.prog W base (fun _ => true) held 48 (.agg #[c2, c3]) (ys[1]'(by omega)).1 (ys[1]'(by omega)).2 := ⟨n', g1⟩
    obtain ⟨f, hf1, hf2⟩ := arg_struct48 ⟨_, rfl, by rw [k0]; rfl⟩ t0
    obtain ⟨g, hg1, hg2⟩ := arg_struct48 ⟨_, rfl, by rw [k0]; rfl⟩ t1
    unfold FrV.val at hf1 hg1
    simp only [Value.agg.injEq, Array.mk.injEq, List.cons.injEq, and_true] at hf1 hg1
    obtain ⟨rfl, rfl⟩ := hf1
    obtain ⟨rfl, rfl⟩ := hg1
    exact ⟨⟨f, g, z2, m3⟩, rfl, hf2, hg2, u3⟩
/-- The pair boxed. -/
structure MPSt (w : World) (f g : FrV) (n : Int) (pt : Nat) (F : Nat) (wr : World) : Prop where
  bel : Below w.heap.size w wr
  fb : wr.heap[F]? = some (.cells #[.int .u32 f.seq, .slice f.oa f.len f.cap, .int .u32 g.seq, .slice g.oa g.len g.cap, .int .i64 n, .int .u32 pt] 72 (0, 0))
  sf : SlArgN wr f.oa f.len f.cap 6 (fun i j => (f.z i).f j)
  sg : SlArgN wr g.oa g.len g.cap 6 (fun i j => (g.z i).f j)
theorem MPSt.below {w : World} {f g : FrV} {n : Int} {pt F : Nat} {wr w2 : World} (h : MPSt w f g n pt F wr) (k : Below wr.heap.size wr w2) : MPSt w f g n pt F w2 :=
  { bel := h.bel.trans (k.mono h.bel.size), fb := (k.block _ (blk_lt h.fb)).trans h.fb, sf := h.sf.kept k, sg := h.sg.kept k }
theorem MPSt.cells {w : World} {f g : FrV} {n : Int} {pt F : Nat} {wr : World} (h : MPSt w f g n pt F wr) : wr.cell? ⟨F, 0, none⟩ = some (.int .u32 f.seq) ∧ wr.cell? ⟨F, 1, none⟩ = some (.slice f.oa f.len f.cap) ∧ wr.cell? ⟨F, 2, none⟩ = some (.int .u32 g.seq) ∧ wr.cell? ⟨F, 3, none⟩ = some (.slice g.oa g.len g.cap) ∧ wr.cell? ⟨F, 4, none⟩ = some (.int .i64 n) ∧ wr.cell? ⟨F, 5, none⟩ = some (.int .u32 pt) := by
  refine ⟨?_, ?_, ?_, ?_, ?_, ?_⟩ <;> (rw [cell_blk h.fb]; rfl)
theorem MPSt.start {w : World} {f g : FrV} {n : Int} {pt : Nat} (hf : f.Ok w) (hg : g.Ok w) : MPSt w f g n pt w.heap.size (w.alloc (.cells #[.int .u32 f.seq, .slice f.oa f.len f.cap, .int .u32 g.seq, .slice g.oa g.len g.cap, .int .i64 n, .int .u32 pt] 72)) :=
  have hb := (Below.refl w.heap.size w).alloc (Nat.le_refl _) (.cells #[.int .u32 f.seq, .slice f.oa f.len f.cap, .int .u32 g.seq, .slice g.oa g.len g.cap, .int .i64 n, .int .u32 pt] 72)
  { bel := hb, fb := heap_alloc_new w _, sf := hf.sl.kept hb, sg := hg.sl.kept hb }
theorem frS_short (seq : Nat) (z : Nat → Ev) (n : Nat) : (frS seq z n).length ≤ 1000 := by
  unfold frS
  split
  · rename_i h
    rw [frB_len]
    have := (frE_zero h).2.2
    omega
  · simp
theorem frF_ok {seq n : Nat} {z : Nat → Ev} (hE : frE z n = 0) (hw : ∀ i, i < n → (z i).Wf) : FrF (frS seq z n) (prnC z n).length := by
  have hp := (frE_zero hE).2.1
  have := (coil_runs z n hw).1
  unfold prnS at this
  rw [if_pos hp] at this
  unfold frS
  rw [if_pos hE]
  exact frF_of ⟨_, this⟩
theorem ext_mk {s : ByteArray} {i : Nat} (hi : i + 22 ≤ s.size) (h : s.extract i (i + 22) = ⟨mk.toArray⟩) : ∀ t, t < 22 → s.data.toList.getD (i + t) 0 = mk.getD t 0 := by
  intro t ht
  have h2 := congrArg (fun x => x.data.toList) h
  simp only [ext_take] at h2
  rw [show i + 22 - i = 22 by omega] at h2
  have h3 : (s.data.toList.drop i).take 22 = mk := by simpa using h2
  rw [← h3, List.getD_eq_getElem?_getD, List.getD_eq_getElem?_getD, List.getElem?_take, if_pos ht, List.getElem?_drop]
theorem ba_same {a b : ByteArray} (h : a = b) : (a.toList == b.toList) = true := by subst h; simp
theorem ba_diff {a b : ByteArray} (h : ¬ a = b) : (a.toList == b.toList) = false := by
  cases hc : (a.toList == b.toList) with
  | false => rfl
  | true =>
    refine absurd ?_ h
    have h2 := eq_of_beq hc
    rw [ByteArray.toList_eq, ByteArray.toList_eq] at h2
    obtain ⟨x⟩ := a
    obtain ⟨y⟩ := b
    simp only at h2
    rw [Array.toList_inj.1 h2]
set_option maxHeartbeats 4000000 in
theorem frameMarkers_law (q : PrV) (w : World) (ho : q.Ok w) :
    Calls Try.prog 15 #[q.val] w fun e w' => e = .returned (.bool true) ∧ Below w.heap.size w w' := by
  obtain ⟨⟨seq, oa, len, cap, z⟩, ⟨seq2, oa2, len2, cap2, z2⟩, n, pt⟩ := q
  obtain ⟨hof, hog, hpt⟩ := ho
  have HO := Lib.hid hof
  have HG := Lib.hid hog
  have st0 := MPSt.start (n := n) (pt := pt) hof hog
  unfold PrV.val
  simp only at st0 hpt ⊢
  have hcl := hof.sl.1
  have hcg := hog.sl.1
  simp only at hcl hcg
  clear hof hog
  by_cases l1 : (100 : Int) < len
  · have d1 : decide ((100 : Int) < len) = true := by simp; omega
    go_enter Try.func15, Try.ntmps15
    go_wp2_with fail
    generalize w.alloc (.cells #[.int .u32 seq, .slice oa len cap, .int .u32 seq2, .slice oa2 len2 cap2, .int .i64 n, .int .u32 pt] 72) = W0 at st0 ⊢
    generalize w.heap.size = F at st0 ⊢
    refine (awake7 _).mono ?_
    rintro x w1 ⟨rfl, hk⟩
    have st1 := st0.below hk
    clear hk st0
    obtain ⟨y0, y1, y2, y3, y4, y5⟩ := st1.cells
    go_wp2_with (go_at_call 33; (refine (awake7 _).mono ?_); rintro x0 w2 ⟨rfl, hk⟩; have st2 := st1.below hk)
    go_ret
    exact ⟨rfl, st2.bel⟩
  · have d1 : decide ((100 : Int) < len) = false := by simp; omega
    by_cases l2 : (100 : Int) < len2
    · have d2 : decide ((100 : Int) < len2) = true := by simp; omega
      go_enter Try.func15, Try.ntmps15
      go_wp2_with fail
      generalize w.alloc (.cells #[.int .u32 seq, .slice oa len cap, .int .u32 seq2, .slice oa2 len2 cap2, .int .i64 n, .int .u32 pt] 72) = W0 at st0 ⊢
      generalize w.heap.size = F at st0 ⊢
      refine (awake7 _).mono ?_
      rintro x w1 ⟨rfl, hk⟩
      have st1 := st0.below hk
      clear hk st0
      obtain ⟨y0, y1, y2, y3, y4, y5⟩ := st1.cells
      go_wp2_with (go_at_call 33; (refine (awake7 _).mono ?_); rintro x0 w2 ⟨rfl, hk⟩; have st2 := st1.below hk)
      go_ret
      exact ⟨rfl, st2.bel⟩
    · have d2 : decide ((100 : Int) < len2) = false := by simp; omega
      by_cases n0 : n < 0
      · have d3 : decide (n < 0) = true := by simp; omega
        go_enter Try.func15, Try.ntmps15
        go_wp2_with fail
        generalize w.alloc (.cells #[.int .u32 seq, .slice oa len cap, .int .u32 seq2, .slice oa2 len2 cap2, .int .i64 n, .int .u32 pt] 72) = W0 at st0 ⊢
        generalize w.heap.size = F at st0 ⊢
        refine (awake7 _).mono ?_
        rintro x w1 ⟨rfl, hk⟩
        have st1 := st0.below hk
        clear hk st0
        obtain ⟨y0, y1, y2, y3, y4, y5⟩ := st1.cells
        go_wp2_with (go_at_call 33; (refine (awake7 _).mono ?_); rintro x0 w2 ⟨rfl, hk⟩; have st2 := st1.below hk)
        go_ret
        exact ⟨rfl, st2.bel⟩
      · have d3 : decide (n < 0) = false := by simp; omega
        by_cases n1 : 4000 < n
        · have d4 : decide (4000 < n) = true := by simp; omega
          go_enter Try.func15, Try.ntmps15
          go_wp2_with fail
          generalize w.alloc (.cells #[.int .u32 seq, .slice oa len cap, .int .u32 seq2, .slice oa2 len2 cap2, .int .i64 n, .int .u32 pt] 72) = W0 at st0 ⊢
          generalize w.heap.size = F at st0 ⊢
          refine (awake7 _).mono ?_
          rintro x w1 ⟨rfl, hk⟩
          have st1 := st0.below hk
          clear hk st0
          obtain ⟨y0, y1, y2, y3, y4, y5⟩ := st1.cells
          go_wp2_with (go_at_call 33; (refine (awake7 _).mono ?_); rintro x0 w2 ⟨rfl, hk⟩; have st2 := st1.below hk)
          go_ret
          exact ⟨rfl, st2.bel⟩
        · have d4 : decide (4000 < n) = false := by simp; omega
          obtain ⟨a, rfl⟩ : ∃ a : Nat, n = a := ⟨n.toNat, by omega⟩
          go_enter Try.func15, Try.ntmps15
          go_wp2_with fail
          generalize w.alloc (.cells #[.int .u32 seq, .slice oa len cap, .int .u32 seq2, .slice oa2 len2 cap2, (.int .i64 (a : Int)), .int .u32 pt] 72) = W0 at st0 ⊢
          generalize w.heap.size = F at st0 ⊢
          refine (awake7 _).mono ?_
          rintro x w1 ⟨rfl, hk⟩
          have st1 := st0.below hk
          clear hk st0
          obtain ⟨y0, y1, y2, y3, y4, y5⟩ := st1.cells
          go_wp2_with fail
          refine (make_any _).mono ?_
          rintro x w2 ⟨rfl, hT, hk⟩
          have st2 := st1.below hk
          clear hk st1 y0 y1 y2 y3 y4 y5
          generalize w1.heap.size = tb at hT ⊢
          obtain ⟨y0, y1, y2, y3, y4, y5⟩ := st2.cells
          go_wp2_with fail
          refine (fown_any w2 ⟨seq, oa, len, cap, z⟩ { HO.out with sl := st2.sf } (by show len ≤ 100; omega)).mono ?_
          rintro x w3 ⟨ao, cap3, rfl, hs3, hk⟩
          have st3 := st2.below hk
          have hT3 := hT.kept hk
          clear hk st2 y0 y1 y2 y3 y4 y5 hT
          go_wp2_with fail
          refine (fprint_any w3 tb hT3 seq HO.out.seq ao len cap3 z hs3 HO.out.wf (by omega)).mono ?_
          rintro x w4 ⟨rfl, hk⟩
          have st4 := st3.below hk
          have hT4 := hT3.kept hk
          clear hk st3 hT3 hs3
          obtain ⟨y0, y1, y2, y3, y4, y5⟩ := st4.cells
          go_wp2_with fail
          refine (fown_any w4 ⟨seq2, oa2, len2, cap2, z2⟩ { HG.out with sl := st4.sg } (by show len2 ≤ 100; omega)).mono ?_
          rintro x w5 ⟨ao5, cap5, rfl, hs5, hk⟩
          have st5 := st4.below hk
          have hT5 := hT4.kept hk
          clear hk st4 y0 y1 y2 y3 y4 y5 hT4
          go_wp2_with fail
          refine (fprint_any w5 tb hT5 seq2 HG.out.seq ao5 len2 cap5 z2 hs5 HG.out.wf (by omega)).mono ?_
          rintro x w6 ⟨rfl, hk⟩
          have st6 := st5.below hk
          clear hk st5 hT5 hs5
          have hA : (⟨(frS seq z len).toArray⟩ : ByteArray).size = (frS seq z len).length := by show (List.toArray _).size = _; simp
          have hA2 : (⟨(frS seq2 z2 len2).toArray⟩ : ByteArray).size = (frS seq2 z2 len2).length := by show (List.toArray _).size = _; simp
          have hl1 := frS_short seq z len
          have hl2 := frS_short seq2 z2 len2
          have HF := Lib.hid (fun h => frF_ok (seq := seq) h HO.out.wf)
          have HF2 := Lib.hid (fun h => frF_ok (seq := seq2) h HG.out.wf)
          have hd1 : (⟨(frS seq z len).toArray⟩ : ByteArray).data.toList = frS seq z len := rfl
          have hd2 : (⟨(frS seq2 z2 len2).toArray⟩ : ByteArray).data.toList = frS seq2 z2 len2 := rfl
          have HD := Lib.hid (And.intro hd1 hd2)
          clear hd1 hd2
          generalize (frS seq z len) = L at hA hl1 HF HD ⊢
          generalize (frS seq2 z2 len2) = L2 at hA2 hl2 HF2 HD ⊢
          generalize frE z len = E at HF ⊢
          generalize frE z2 len2 = E2 at HF2 ⊢
          generalize (⟨L.toArray⟩ : ByteArray) = S at hA HD ⊢
          generalize (⟨L2.toArray⟩ : ByteArray) = S2 at hA2 HD ⊢
          by_cases q : E = 0
          · have q0 : (E != 0) = false := by simp [q]
            have HF := Lib.hid (HF.out q)
            clear q
            by_cases q : E2 = 0
            · have q02 : (E2 != 0) = false := by simp [q]
              have HF2 := Lib.hid (HF2.out q)
              clear q
              obtain ⟨y0, y1, y2, y3, y4, y5⟩ := st6.cells
              have hsp := fun W => spoil_any (S ++ S2) a pt (by omega) hpt (by rw [ByteArray.size_append]; omega) W
              have hln := spo_len 32 (S ++ S2).data.toList a pt false
              have hnr := spo_near 32 (S ++ S2).data.toList a pt false
              generalize spo 32 (S ++ S2).data.toList a pt false = r at hsp hln hnr
              obtain ⟨l, an⟩ := r
              simp only at hsp hln hnr
              rw [ByteArray.data_append, Array.toList_append, HD.out.1, HD.out.2] at hln hnr
              have hml := fun i hi h => marker_law (i := i) HF.out HF2.out hnr hi h
              have hz : (⟨l.toArray⟩ : ByteArray).size = L.length + L2.length := by
                show (List.toArray l).size = _
                rw [List.size_toArray, hln, List.length_append]
              have hld : (⟨l.toArray⟩ : ByteArray).data.toList = l := rfl
              have hml2 : ∀ i : Nat, i + 22 ≤ S.size + S2.size → (⟨l.toArray⟩ : ByteArray).extract i (i + 22) = ⟨mk.toArray⟩ → i = 0 ∨ i = S.size := by
                intro i hi h
                rw [hA]
                refine hml i (by rw [List.length_append]; omega) ?_
                have := ext_mk (by omega) h
                rw [hld] at this
                exact this
              rw [← hA, ← hA2] at hz
              have HM := Lib.hid hml2
              clear hml hml2 hln hnr hld
              generalize (⟨l.toArray⟩ : ByteArray) = X at hsp hz HM
              have hS1 : S.size ≤ 1000 := by omega
              have hS2 : S2.size ≤ 1000 := by omega
              clear hA hA2 HD HF HF2 hl1 hl2
              go_wp2_with fail
              refine (hsp _).mono ?_
              rintro x w7 ⟨rfl, hk⟩
              have st7 := st6.below hk
              clear hk hsp st6 y0 y1 y2 y3 y4 y5
              go_wp2_with fail
              refine (mk_any _).mono ?_
              rintro x w8 ⟨rfl, hk⟩
              have hB8 := (st7.below hk).bel
              clear hk st7
              have hmz : (⟨mk.toArray⟩ : ByteArray).size = 22 := rfl
              generalize (⟨mk.toArray⟩ : ByteArray) = M at hmz HM ⊢
              have hX : X.size ≤ 2000 := by omega
              have HZ := Lib.hid hz
              clear hz
              go_wp2_with fail
              go_loopw [11] (fun x wr => ∃ i : Nat, x = .int .i64 i ∧ i ≤ 3000 ∧ Below w.heap.size w wr) (fun x _ => 3000 - (intOf x).toNat)
              case atStart => exact ⟨0, rfl, by omega, hB8⟩
              case round =>
                clear hB8
                obtain ⟨i, rfl, hi, hB⟩ := hrel
                by_cases hlt : i + 22 ≤ X.size
                · have hlt' : (i : Int) + 22 ≤ X.size := by omega
                  by_cases hm : X.extract i (i + 22) = M
                  · have h3 := HM.out i (by have := HZ.out; omega) hm
                    have HH := Lib.hid hm
                    have hq := ba_same hm
                    have hmi : i + 22 ≤ X.size := hlt
                    clear hm
                    by_cases i0 : i = 0
                    · have b0 : ((i : Int) != 0) = false := by simp [i0]
                      clear i0 h3
                      go_wp2_with fail
                      go_roundw
                      case rel => exact ⟨i + 1, by go_num, by omega, hB⟩
                      case measure => simp [intOf]; omega
                    · have b0 : ((i : Int) != 0) = true := by simp [i0]
                      have b1 : ((i : Int) != (S.size : Int)) = false := by
                        have := h3.resolve_left i0
                        simp [this]
                      clear i0 h3
                      go_wp2_with fail
                      go_roundw
                      case rel => exact ⟨i + 1, by go_num, by omega, hB⟩
                      case measure => simp [intOf]; omega
                  · have hq := ba_diff hm
                    have hmi : i + 22 ≤ X.size := hlt
                    clear hm
                    go_wp2_with fail
                    go_roundw
                    case rel => exact ⟨i + 1, by go_num, by omega, hB⟩
                    case measure => simp [intOf]; omega
                · have hlt' : ¬ (i : Int) + 22 ≤ X.size := by omega
                  go_wp2_with fail
                  go_ret
                  exact ⟨rfl, hB⟩
            · have q02 : (E2 != 0) = true := by simp [q]
              clear q
              go_wp2_with fail
              go_ret
              exact ⟨rfl, st6.bel⟩
          · have q0 : (E != 0) = true := by simp [q]
            clear q
            go_wp2_with fail
            go_ret
            exact ⟨rfl, st6.bel⟩
end Go.Proofs.Ythdenjokedmcfaa
