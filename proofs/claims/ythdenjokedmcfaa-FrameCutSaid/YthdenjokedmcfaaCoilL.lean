/- Plain laws of events' bytes: what is printed is read, what is read is printed, the lengths, the runs. No program in sight. No condition. -/
import Derived.Test.YthdenjokedmcfaaRd
import Derived.Test.YthdenjokedmcfaaNumB
namespace Go.Proofs.Ythdenjokedmcfaa
open Go.RowKit
set_option maxRecDepth 20000

theorem lget_at {s : ByteArray} {p n : Nat} {post : List UInt8} (hn : n < U64) (hd : s.data.toList.drop p = leb 10 n ++ post) : lget s p = (n, 0, p + (leb 10 n).length) := by
  have := lgo_back s p 9 n 0 0 post rfl (u64_pow n hn) (by simpa using hn) (fun h => absurd h (by omega)) (by simpa using hd)
  simpa [lget] using this
theorem lmost_at {s : ByteArray} {p n : Nat} {post : List UInt8} (hn : n ≤ M32) (hd : s.data.toList.drop p = leb 10 n ++ post) : lmost s p M32 = (n, 0, p + (leb 10 n).length) := by
  unfold lmost
  rw [lget_at (by unfold M32 at hn; unfold U64; omega) hd, if_neg (by simp only; omega)]
theorem opt_at {h : Bool} {s : ByteArray} {p n : Nat} {post : List UInt8} (hn : n ≤ M32) (h0 : h = false → n = 0) (hd : s.data.toList.drop p = (if h = true then leb 10 n else []) ++ post) :
    opt h s p = (n, 0, p + (if h = true then leb 10 n else []).length) := by
  unfold opt
  cases h
  · rw [h0 rfl]; rfl
  · simp only [if_true] at hd ⊢
    exact lmost_at hn hd
theorem drop_more {l a b : List UInt8} {p : Nat} (h : l.drop p = a ++ b) : l.drop (p + a.length) = b := by
  rw [← List.drop_drop, h]; simp
theorem chk_zero {e : Ev} (h : e.chk = 0) : (hasA e.k = false → e.a = 0) ∧ (hasB e.k = false → e.b = 0) ∧ (hasV e.k = false → e.v = 0) := by
  have h1 := (chk_ok h).2
  unfold Ev.okB at h1
  simp only [Bool.and_eq_true] at h1
  obtain ⟨ha, hb, hv, _⟩ := h1
  unfold hasA hasB hasV
  refine ⟨fun q => ?_, fun q => ?_, fun q => ?_⟩
  · have : (sh e.k).1 = 0 := by simpa using q
    rw [this] at ha
    simpa [wth] using ha
  · have : (sh e.k).2.1 = 0 := by simpa using q
    rw [this] at hb
    simpa [wth] using hb
  · have : (sh e.k).2.2 = 0 := by simpa using q
    rw [this] at hv
    simpa [wth] using hv
theorem isK_range {k : Int} (h : isK k = true) : 1 ≤ k ∧ k ≤ 24 := by simpa [isK] using h
/-- What was printed is read. -/
theorem next_back {b e : Ev} (he : e.Wf) (hs : (Stp b e).2.2 = true) (hc : e.chk = 0) {s : ByteArray} {p : Nat} {post : List UInt8} (hd : s.data.toList.drop p = evBytes b e ++ post) :
    nxT b.cy b.ct s p = 0 ∧ nxEv b.cy b.ct s p = e ∧ (nV s p).2.2 = p + (evBytes b e).length := by
  obtain ⟨h1, h2, h3, h4, h5, h6, h7⟩ := stp_yes hs
  have hk := (chk_ok hc).1
  have hkr := isK_range hk
  obtain ⟨zA, zB, zV⟩ := chk_zero hc
  unfold evBytes at hd ⊢
  generalize (Stp b e).1 = st at *
  generalize (Stp b e).2.1 = d at *
  unfold one at hd ⊢
  simp only [List.append_assoc] at hd
  obtain ⟨hlt, hb0⟩ := at_drop hd
  have hbt : ((bt s p : Nat) : Int) = e.k := by
    rw [bt_of hlt, hb0]
    simp; omega
  have d1 := drop_more hd
  simp only [List.length_singleton] at d1
  have e1 : n1 s p = (st, 0, p + 1 + (leb 10 st).length) := lmost_at (by unfold M32; omega) d1
  have d2 := drop_more d1
  have hf : foldV d ≤ M32 := by unfold foldV M32; split <;> omega
  have e2 : n2 s p = (foldV d, 0, p + 1 + (leb 10 st).length + (leb 10 (foldV d)).length) := by
    unfold n2; rw [e1]; exact lmost_at hf d2
  have d3 := drop_more d2
  have ea : nA s p = (e.a, 0, p + 1 + (leb 10 st).length + (leb 10 (foldV d)).length + (if hasA e.k = true then leb 10 e.a else []).length) := by
    unfold nA; rw [e2, hbt]; exact opt_at (by have := he.a; unfold M32; omega) zA d3
  have d4 := drop_more d3
  have eb : nB s p = (e.b, 0, p + 1 + (leb 10 st).length + (leb 10 (foldV d)).length + (if hasA e.k = true then leb 10 e.a else []).length + (if hasB e.k = true then leb 10 e.b else []).length) := by
    unfold nB; rw [ea, hbt]; exact opt_at (by have := he.b; unfold M32; omega) zB d4
  have d5 := drop_more d4
  have ev : nV s p = (e.v, 0, p + 1 + (leb 10 st).length + (leb 10 (foldV d)).length + (if hasA e.k = true then leb 10 e.a else []).length + (if hasB e.k = true then leb 10 e.b else []).length + (if hasV e.k = true then leb 10 e.v else []).length) := by
    unfold nV; rw [eb, hbt]; exact opt_at (by have := he.v; unfold M32; omega) zV d5
  have hE : nxE s p = 0 := by
    unfold nxE; rw [hbt, e1, e2, ea, eb, ev, hk]; rfl
  have hG : nxG s p = ((e.cy - b.cy : Nat) : Int) := by
    unfold nxG; rw [e1, e2, unfold_fold]; simp only; omega
  have hEv : nxEv b.cy b.ct s p = e := by
    unfold nxEv
    rw [hbt, hG, e1, ea, eb, ev]
    obtain ⟨k, cy, ct, a, bb, v⟩ := e
    simp only [Ev.mk.injEq, true_and, and_true] at *
    refine ⟨?_, ?_⟩ <;> omega
  have hOk : nxOk b.cy b.ct s p = true := by
    unfold nxOk
    rw [hEv, hG, e1, hc]
    have := he.cy
    have := he.ct
    simp only [Bool.and_eq_true, decide_eq_true_eq, Int.toNat_natCast, and_true]
    exact ⟨by omega, by omega, by omega⟩
  refine ⟨by unfold nxT; rw [if_pos hE, if_pos hOk], hEv, ?_⟩
  rw [ev]
  simp only [List.length_append, List.length_singleton]
  omega

/-- What is got was spelled so. -/
theorem lgo_spell (s : ByteArray) (p : Nat) : ∀ (f k acc n q : Nat), f + k = 9 → lgo s p (f + 1) k acc = (n, 0, q) →
    ∃ m post, n = acc + m * 128 ^ k ∧ (0 < k → 0 < m) ∧ m < 128 ^ (f + 1) ∧ q = p + k + (leb (f + 1) m).length ∧ s.data.toList.drop (p + k) = leb (f + 1) m ++ post := by
  intro f
  induction f with
  | zero =>
    intro k acc n q hfk h
    rw [lgo] at h
    split at h
    · rename_i hlt
      split at h
      · cases h
      · rename_i hbad
        split at h
        · rename_i hl
          simp only [Prod.mk.injEq, true_and] at h
          obtain ⟨rfl, rfl⟩ := h
          refine ⟨s[p + k].toNat, s.data.toList.drop (p + k + 1), rfl, by omega, by simpa using hl, by rw [leb_last 0 _ hl]; rfl, ?_⟩
          rw [leb_last 0 _ hl, List.drop_eq_getElem_cons (by simpa using hlt)]
          simp
          rfl
        · omega
    · cases h
  | succ f ih =>
    intro k acc n q hfk h
    rw [lgo] at h
    split at h
    · rename_i hlt
      split at h
      · cases h
      · rename_i hbad
        have hc256 := s[p + k].toNat_lt
        split at h
        · rename_i hl
          simp only [Prod.mk.injEq, true_and] at h
          obtain ⟨rfl, rfl⟩ := h
          refine ⟨s[p + k].toNat, s.data.toList.drop (p + k + 1), rfl, by omega, ?_, by rw [leb_last _ _ hl]; rfl, ?_⟩
          · have : 128 ^ 1 ≤ 128 ^ (f + 1 + 1) := Nat.pow_le_pow_right (by omega) (by omega)
            omega
          · rw [leb_last _ _ hl, List.drop_eq_getElem_cons (by simpa using hlt)]
            simp
            rfl
        · rename_i hl
          obtain ⟨m, post, h1, h2, h3, h4, h5⟩ := ih (k + 1) _ n q (by omega) h
          have hm := h2 (by omega)
          refine ⟨m * 128 + s[p + k].toNat % 128, post, ?_, by omega, by rw [Nat.pow_succ]; omega, ?_, ?_⟩
          · rw [h1, Nat.pow_succ, Nat.add_mul, Nat.mul_assoc m 128, Nat.mul_comm 128 (128 ^ k)]
            omega
          · rw [leb_more _ _ (by omega), List.length_cons, show (m * 128 + s[p + k].toNat % 128) / 128 = m from by omega, h4]
            omega
          · rw [leb_more _ _ (by omega), show (m * 128 + s[p + k].toNat % 128) / 128 = m from by omega, show (m * 128 + s[p + k].toNat % 128) % 128 + 128 = s[p + k].toNat from by omega, List.cons_append, ← h5,
              List.drop_eq_getElem_cons (by simpa using hlt)]
            simp
            exact ⟨rfl, rfl⟩
    · cases h
theorem lget_spell {s : ByteArray} {p n q : Nat} (h : lget s p = (n, 0, q)) : q = p + (leb 10 n).length ∧ ∃ post, s.data.toList.drop p = leb 10 n ++ post := by
  obtain ⟨m, post, h1, _, _, h4, h5⟩ := lgo_spell s p 9 0 0 n q rfl h
  obtain rfl : m = n := by omega
  exact ⟨by simpa using h4, post, by simpa using h5⟩
theorem lmost_spell {s : ByteArray} {p : Nat} (h : (lmost s p M32).2.1 = 0) : (lmost s p M32).2.2 = p + (leb 10 (lmost s p M32).1).length ∧ ∃ post, s.data.toList.drop p = leb 10 (lmost s p M32).1 ++ post := by
  unfold lmost at *
  split at h
  · cases h
  · rename_i hn
    rw [if_neg hn]
    generalize hg : lget s p = g at *
    obtain ⟨n, er, q⟩ := g
    simp only at h
    subst h
    exact lget_spell hg
theorem opt_spell {h : Bool} {s : ByteArray} {p : Nat} (e : (opt h s p).2.1 = 0) : (opt h s p).2.2 = p + (if h = true then leb 10 (opt h s p).1 else []).length ∧ ∃ post, s.data.toList.drop p = (if h = true then leb 10 (opt h s p).1 else []) ++ post := by
  unfold opt at *
  cases h
  · exact ⟨rfl, _, rfl⟩
  · simp only [if_true] at e ⊢
    exact lmost_spell e
theorem nxT_zero {cy ct : Nat} {s : ByteArray} {p : Nat} (h : nxT cy ct s p = 0) : isK (bt s p) = true ∧ (n1 s p).2.1 = 0 ∧ (n2 s p).2.1 = 0 ∧ (nA s p).2.1 = 0 ∧ (nB s p).2.1 = 0 ∧ (nV s p).2.1 = 0 ∧ nxOk cy ct s p = true := by
  have hE : nxE s p = 0 := by
    unfold nxT at h
    split at h
    · assumption
    · omega
  have hO : nxOk cy ct s p = true := by
    unfold nxT at h
    rw [if_pos hE] at h
    split at h
    · assumption
    · cases h
  unfold nxE at hE
  split at hE
  · rename_i hk
    by_cases a1 : (n1 s p).2.1 = 0
    · by_cases a2 : (n2 s p).2.1 = 0
      · by_cases a3 : (nA s p).2.1 = 0
        · by_cases a4 : (nB s p).2.1 = 0
          · rw [if_neg (by omega), if_neg (by omega), if_neg (by omega), if_neg (by omega)] at hE
            exact ⟨hk, a1, a2, a3, a4, hE, hO⟩
          · rw [if_neg (by omega), if_neg (by omega), if_neg (by omega), if_pos a4] at hE
            exact absurd hE a4
        · rw [if_neg (by omega), if_neg (by omega), if_pos a3] at hE
          exact absurd hE a3
      · rw [if_neg (by omega), if_pos a2] at hE
        exact absurd hE a2
    · rw [if_pos a1] at hE
      exact absurd hE a1
  · cases hE
theorem drop_join {l a b c : List UInt8} {p : Nat} (h : l.drop p = a ++ b) (h2 : l.drop (p + a.length) = c) : l.drop p = a ++ c := by
  rw [← h2, drop_more h, h]
theorem drop_join' {l a b c : List UInt8} {p q : Nat} (h : l.drop p = a ++ b) (hq : q = p + a.length) (h2 : l.drop q = c) : l.drop p = a ++ c := drop_join h (hq ▸ h2)
/-- What was read is printed. -/
theorem next_spell {b : Ev} {s : ByteArray} {p : Nat} (hp : p < s.size) (h : nxT b.cy b.ct s p = 0) :
    (nxEv b.cy b.ct s p).chk = 0 ∧ (nxEv b.cy b.ct s p).Wf ∧ (Stp b (nxEv b.cy b.ct s p)).2.2 = true ∧ (nV s p).2.2 = p + (evBytes b (nxEv b.cy b.ct s p)).length ∧ ∃ post, s.data.toList.drop p = evBytes b (nxEv b.cy b.ct s p) ++ post := by
  obtain ⟨hk, a1, a2, a3, a4, a5, hO⟩ := nxT_zero h
  have hkr := isK_range hk
  have l1 : (n1 s p).1 ≤ M32 := lmost_le a1
  have l2 : (n2 s p).1 ≤ M32 := lmost_le a2
  have la : (nA s p).1 ≤ M32 := opt_le a3
  have lb : (nB s p).1 ≤ M32 := opt_le a4
  have lv : (nV s p).1 ≤ M32 := opt_le a5
  unfold M32 at l1 l2 la lb lv
  unfold nxOk at hO
  simp only [Bool.and_eq_true, decide_eq_true_eq] at hO
  obtain ⟨o1, o2, o3, o4⟩ := hO
  have hS : Stp b (nxEv b.cy b.ct s p) = ((n1 s p).1, unfoldV (n2 s p).1, true) := by
    unfold Stp nxEv
    simp only
    have hu : unfoldV (n2 s p).1 ≤ 2147483647 ∧ -2147483648 ≤ unfoldV (n2 s p).1 := by unfold unfoldV; split <;> omega
    have hG : nxG s p = ((n1 s p).1 : Int) + unfoldV (n2 s p).1 := rfl
    generalize unfoldV (n2 s p).1 = u at hu hG ⊢
    generalize nxG s p = g at o1 o3 hG ⊢
    generalize (n1 s p).1 = n at l1 o2 hG ⊢
    rw [if_neg (by omega), show b.ct + n - b.ct = n from by omega, show b.cy + g.toNat - b.cy = g.toNat from by omega, if_neg (by omega)]
    simp only [Prod.mk.injEq, true_and, and_true]
    omega
  have hW : (nxEv b.cy b.ct s p).Wf := by
    constructor
    · show -9223372036854775808 ≤ ((bt s p : Nat) : Int); omega
    · show ((bt s p : Nat) : Int) ≤ 9223372036854775807; omega
    · exact o3
    · exact o2
    · show (nA s p).1 < 4294967296; omega
    · show (nB s p).1 < 4294967296; omega
    · show (nV s p).1 < 4294967296; omega
  obtain ⟨q1, r1, t1⟩ := lmost_spell (s := s) (p := p + 1) a1
  obtain ⟨q2, r2, t2⟩ := lmost_spell (s := s) (p := (n1 s p).2.2) a2
  obtain ⟨q3, r3, t3⟩ := opt_spell (h := hasA (bt s p)) (s := s) (p := (n2 s p).2.2) a3
  obtain ⟨q4, r4, t4⟩ := opt_spell (h := hasB (bt s p)) (s := s) (p := (nA s p).2.2) a4
  obtain ⟨q5, r5, t5⟩ := opt_spell (h := hasV (bt s p)) (s := s) (p := (nB s p).2.2) a5
  have t0 : s.data.toList.drop p = [UInt8.ofNat (bt s p)] ++ s.data.toList.drop (p + 1) := by
    rw [List.drop_eq_getElem_cons (by simpa using hp), bt_of hp]
    simp
    rfl
  have e5 := t5
  have e4 := drop_join' t4 q4 e5
  have e3 := drop_join' t3 q3 e4
  have e2 := drop_join' t2 q2 e3
  have e1 := drop_join' t1 q1 e2
  rw [e1] at t0
  refine ⟨o4, hW, by rw [hS], ?_, r5, ?_⟩
  · unfold evBytes
    rw [hS]
    unfold one
    simp only [fold_unfold, List.length_append, List.length_singleton]
    show (opt (hasV (bt s p)) s (nB s p).2.2).2.2 = _
    rw [q5]
    show (opt (hasB (bt s p)) s (nA s p).2.2).2.2 + _ = _
    rw [q4]
    show (opt (hasA (bt s p)) s (n2 s p).2.2).2.2 + _ + _ = _
    rw [q3]
    show (lmost s (n1 s p).2.2 M32).2.2 + _ + _ + _ = _
    rw [q2]
    show (lmost s (p + 1) M32).2.2 + _ + _ + _ + _ = _
    rw [q1]
    show p + 1 + (leb 10 (n1 s p).1).length + (leb 10 (n2 s p).1).length + (if hasA (bt s p) = true then leb 10 (nA s p).1 else []).length + (if hasB (bt s p) = true then leb 10 (nB s p).1 else []).length + (if hasV (bt s p) = true then leb 10 (nV s p).1 else []).length = p + (1 + (leb 10 (n1 s p).1).length + (leb 10 (n2 s p).1).length + (if hasA (bt s p) = true then leb 10 (nA s p).1 else []).length + (if hasB (bt s p) = true then leb 10 (nB s p).1 else []).length + (if hasV (bt s p) = true then leb 10 (nV s p).1 else []).length)
    omega
  · unfold evBytes
    rw [hS]
    unfold one
    simp only [fold_unfold, List.append_assoc]
    exact t0

/-- Events one behind the other, from a base. -/
def chB (b : Ev) : List Ev → List UInt8
  | [] => []
  | e :: l => evBytes b e ++ chB e l
def chOk (b : Ev) : List Ev → Prop
  | [] => True
  | e :: l => evErr b e = 0 ∧ e.Wf ∧ chOk e l
theorem evErr_ok {b e : Ev} : evErr b e = 0 ↔ e.chk = 0 ∧ (Stp b e).2.2 = true := by
  unfold evErr
  constructor
  · intro h
    split at h
    · split at h
      · exact ⟨by assumption, by assumption⟩
      · cases h
    · cases h
  · rintro ⟨h1, h2⟩
    rw [if_pos h1, if_pos h2]
theorem evb_pos (b e : Ev) : 3 ≤ (evBytes b e).length := (one_len e _ _).1
theorem rdL_back (s : ByteArray) : ∀ (l : List Ev) (b : Ev) (p f : Nat), chOk b l → s.data.toList.drop p = chB b l → p ≤ s.size → s.size - p ≤ f → rdL s f b.cy b.ct p = (l, 0)
  | [], b, p, f, _, hd, hp, hf => by
    have h0 : s.size ≤ p := by
      have := congrArg List.length hd
      simp [chB] at this
      have h2 : s.data.toList.length = s.size := by simp
      have h3 : s.data.size = s.size := rfl
      omega
    cases f with
    | zero => rfl
    | succ f => rw [rdL, if_neg (by omega)]
  | e :: l, b, p, f, ho, hd, hp, hf => by
    obtain ⟨h1, hw, h2⟩ := ho
    obtain ⟨hc, hs⟩ := evErr_ok.1 h1
    obtain ⟨t1, t2, t3⟩ := next_back hw hs hc hd
    have hl := evb_pos b e
    have hlen : (chB b (e :: l)).length = s.size - p := by
      rw [← hd]
      simp
    have hlen2 : (chB b (e :: l)).length = (evBytes b e).length + (chB e l).length := by rw [chB, List.length_append]
    cases f with
    | zero => omega
    | succ f =>
      rw [rdL, if_pos (by omega), if_pos t1, t2, t3]
      have := rdL_back s l e (p + (evBytes b e).length) f h2 (drop_more hd) (by omega) (by omega)
      rw [this]
theorem rdL_spell (s : ByteArray) : ∀ (f : Nat) (b : Ev) (p : Nat) (l : List Ev), p ≤ s.size → s.size - p ≤ f → rdL s f b.cy b.ct p = (l, 0) → s.data.toList.drop p = chB b l ∧ chOk b l
  | 0, b, p, l, hp, hf, h => by
    rw [rdL] at h
    obtain rfl : [] = l := (Prod.mk.inj h).1
    exact ⟨by simp [chB]; have : s.data.size = s.size := rfl; omega, trivial⟩
  | f + 1, b, p, l, hp, hf, h => by
    rw [rdL] at h
    split at h
    · rename_i hlt
      split at h
      · rename_i ht
        obtain ⟨a1, a2, a3, a4, post, a5⟩ := next_spell (b := b) hlt ht
        have hl := evb_pos b (nxEv b.cy b.ct s p)
        have hnx := nV_next hlt
        obtain ⟨b1, b2⟩ := rdL_spell s f (nxEv b.cy b.ct s p) (nV s p).2.2 _ hnx (by omega) (Prod.ext rfl (Prod.mk.inj h).2)
        obtain rfl := (Prod.mk.inj h).1
        refine ⟨?_, evErr_ok.2 ⟨a1, a3⟩, a2, b2⟩
        rw [chB, ← b1, a4, drop_more a5, a5]
      · rename_i ht
        exact absurd (Prod.mk.inj h).2 ht
    · obtain rfl : [] = l := (Prod.mk.inj h).1
      exact ⟨by simp [chB]; have : s.data.size = s.size := rfl; omega, trivial⟩
/-- Events by an index function, as a list. -/
theorem chB_snoc : ∀ (l : List Ev) (b e : Ev), chB b (l ++ [e]) = chB b l ++ evBytes (l.getLastD b) e
  | [], b, e => by simp [chB]
  | x :: l, b, e => by
    rw [List.cons_append, chB, chB, chB_snoc l x e, List.append_assoc, List.getLastD_cons]
theorem chOk_snoc : ∀ (l : List Ev) (b e : Ev), chOk b (l ++ [e]) ↔ chOk b l ∧ evErr (l.getLastD b) e = 0 ∧ e.Wf
  | [], b, e => by simp [chOk]
  | x :: l, b, e => by
    rw [List.cons_append, chOk, chOk, chOk_snoc l x e, List.getLastD_cons]
    constructor
    · rintro ⟨h1, h2, h3, h4⟩; exact ⟨⟨h1, h2, h3⟩, h4⟩
    · rintro ⟨⟨h1, h2, h3⟩, h4⟩; exact ⟨h1, h2, h3, h4⟩
theorem range_last (z : Nat → Ev) (n : Nat) : ((List.range n).map z).getLastD (z 0) = z (n - 1) := by
  cases n with
  | zero => rfl
  | succ n => rw [List.range_succ, List.map_append]; simp
theorem prnC_ch (z : Nat → Ev) : ∀ n, prnC z n = chB (z 0) ((List.range n).map z)
  | 0 => rfl
  | n + 1 => by
    rw [prnC, prnC_ch z n, List.range_succ, List.map_append, List.map_singleton, chB_snoc, range_last]
theorem prnE_ch (z : Nat → Ev) : ∀ n, (∀ i, i < n → (z i).Wf) → (prnE z n = 0 ↔ chOk (z 0) ((List.range n).map z))
  | 0, _ => ⟨fun _ => trivial, fun _ => rfl⟩
  | n + 1, hw => by
    rw [prnE, List.range_succ, List.map_append, List.map_singleton, chOk_snoc, range_last, ← prnE_ch z n (fun i hi => hw i (by omega))]
    constructor
    · intro h
      split at h
      · exact ⟨by assumption, h, hw n (by omega)⟩
      · exact absurd h (by assumption)
    · rintro ⟨h1, h2, _⟩
      rw [if_pos h1]; exact h2
theorem chOk_wf : ∀ (l : List Ev) (b : Ev), chOk b l → ∀ e ∈ l, e.Wf
  | [], _, _, _, h => by cases h
  | x :: l, b, ho, e, h => by
    rcases List.mem_cons.1 h with rfl | h
    · exact ho.2.1
    · exact chOk_wf l x ho.2.2 e h
theorem ch_base {b b' : Ev} (h1 : b.cy = b'.cy) (h2 : b.ct = b'.ct) : ∀ l : List Ev, chB b l = chB b' l ∧ (chOk b l ↔ chOk b' l)
  | [] => ⟨rfl, Iff.rfl⟩
  | e :: l => by
    have hs : Stp b e = Stp b' e := by unfold Stp; rw [h1, h2]
    unfold chB chOk evBytes evErr
    rw [hs]
    exact ⟨rfl, Iff.rfl⟩
theorem range_getD (l : List Ev) : (List.range l.length).map (fun i => l.getD i default) = l := by
  apply List.ext_getElem
  · simp
  · intro i h1 h2
    simp [List.getElem?_eq_getElem (by simpa using h1)]
/-- CoilBack, in plain words. -/
theorem coil_back (z : Nat → Ev) (n : Nat) (hw : ∀ i, i < n → (z i).Wf) (h : prnE z n = 0) (f : Nat) (hf : (prnC z n).length ≤ f) : rdL ⟨(prnC z n).toArray⟩ f (z 0).cy (z 0).ct 0 = ((List.range n).map z, 0) := by
  have hsz : (⟨(prnC z n).toArray⟩ : ByteArray).size = (prnC z n).length := by show (List.toArray _).size = _; simp
  refine rdL_back _ _ _ _ _ ((prnE_ch z n hw).1 h) ?_ (Nat.zero_le _) (by omega)
  simp [prnC_ch]
/-- CoilOne, in plain words. -/
theorem coil_one (s : ByteArray) (cy ct f : Nat) (l : List Ev) (hf : s.size ≤ f) (h : rdL s f cy ct 0 = (l, 0)) (h0 : 0 < l.length → (l.getD 0 default).cy = cy ∧ (l.getD 0 default).ct = ct) :
    (∀ i, i < l.length → (l.getD i default).Wf) ∧ prnE (fun i => l.getD i default) l.length = 0 ∧ prnC (fun i => l.getD i default) l.length = s.data.toList := by
  obtain ⟨h1, h2⟩ := rdL_spell s f ⟨0, cy, ct, 0, 0, 0⟩ 0 l (Nat.zero_le _) (by omega) h
  have hw : ∀ i, i < l.length → (l.getD i default).Wf := fun i hi => by
    have : l.getD i default = l[i] := by simp [List.getElem?_eq_getElem hi]
    rw [this]
    exact chOk_wf l _ h2 _ (List.getElem_mem hi)
  refine ⟨hw, ?_, ?_⟩
  · rw [prnE_ch _ _ hw, range_getD]
    cases l with
    | nil => trivial
    | cons e l =>
      obtain ⟨c1, c2⟩ := h0 (by simp)
      exact ((ch_base (b := ⟨0, cy, ct, 0, 0, 0⟩) c1.symm c2.symm _).2).1 h2
  · rw [prnC_ch, range_getD]
    simp only [List.drop_zero] at h1
    rw [h1]
    cases l with
    | nil => rfl
    | cons e l =>
      obtain ⟨c1, c2⟩ := h0 (by simp)
      exact ((ch_base (b := ⟨0, cy, ct, 0, 0, 0⟩) c1.symm c2.symm _).1).symm
/-- Lengths. -/
theorem leb_short : ∀ (j f n : Nat), n < 128 ^ (j + 1) → (leb f n).length ≤ j + 1
  | _, 0, _, _ => Nat.zero_le _
  | 0, f + 1, n, h => by rw [leb_last f n (by simpa using h)]; simp
  | j + 1, f + 1, n, h => by
    by_cases h1 : n < 128
    · rw [leb_last f n h1]; simp
    · rw [leb_more f n (by omega), List.length_cons]
      have := leb_short j f (n / 128) (pow_succ128 _ _ h)
      omega
def capO (o : Nat) : Nat := if o = 0 then 0 else if o = 1 then 5 else if o = 8 ∨ o = 9 ∨ o = 11 ∨ o = 12 then 2 else 1
theorem cap_le {o n : Nat} (ho : o ≤ 14) (hn : n < 4294967296) (h : wth n o = true) : (if (o != 0) = true then leb 10 n else []).length ≤ capO o := by
  have l5 := leb_short 4 10 n (by omega)
  have l2 := fun (q : n < 16384) => leb_short 1 10 n (by omega)
  have l1 := fun (q : n < 128) => leb_short 0 10 n (by omega)
  rcases o_cases ho with rfl | rfl | rfl | rfl | rfl | rfl | rfl | rfl | rfl | rfl | rfl | rfl | rfl | rfl | rfl
  all_goals simp only [wth, decide_eq_true_eq] at h
  all_goals simp [capO]
  · exact l5
  · exact l1 (by omega)
  · exact l1 (by omega)
  · exact l1 (by omega)
  · exact l1 (by omega)
  · exact l1 (by omega)
  · exact l1 (by omega)
  · exact l2 (by omega)
  · exact l2 (by omega)
  · exact l1 (by omega)
  · exact l2 (by omega)
  · exact l2 (by omega)
  · exact l1 (by omega)
  · exact l1 (by omega)
theorem cap_sum {k : Int} (h : isK k = true) : capO (sh k).1 + capO (sh k).2.1 + capO (sh k).2.2 ≤ 9 := by
  have hkr := isK_range h
  rcases k_cases hkr.1 hkr.2 with rfl | rfl | rfl | rfl | rfl | rfl | rfl | rfl | rfl | rfl | rfl | rfl | rfl | rfl | rfl | rfl | rfl | rfl | rfl | rfl | rfl | rfl | rfl | rfl <;> decide
theorem evb_le {b e : Ev} (he : e.Wf) (hs : (Stp b e).2.2 = true) (hc : e.chk = 0) : (evBytes b e).length ≤ 20 := by
  obtain ⟨h1, h2, h3, h4, h5, h6, h7⟩ := stp_yes hs
  obtain ⟨hk, ho⟩ := chk_ok hc
  have hf : foldV (Stp b e).2.1 < 4294967296 := by unfold foldV; split <;> omega
  have s1 := leb_short 4 10 (Stp b e).1 (by omega)
  have s2 := leb_short 4 10 (foldV (Stp b e).2.1) (by omega)
  have hsum := cap_sum hk
  unfold Ev.okB at ho
  simp only [Bool.and_eq_true] at ho
  obtain ⟨ha, hb, hv, _⟩ := ho
  obtain ⟨r1, r2, r3⟩ := sh_le e.k
  have ca := cap_le r1 he.a ha
  have cb := cap_le r2 he.b hb
  have cv := cap_le r3 he.v hv
  unfold evBytes one
  simp only [List.length_append, List.length_singleton]
  unfold hasA hasB hasV
  omega
theorem stp_self (a : Ev) : Stp a a = (0, 0, true) := by
  unfold Stp
  rw [if_neg (by omega), Nat.sub_self, Nat.sub_self, if_neg (by omega)]
  rfl
/-- Runs of 255. -/
def rn : Nat → List UInt8 → Option Nat
  | r, [] => some r
  | r, b :: l => if b.toNat = 255 then (if 4 < r + 1 then none else rn (r + 1) l) else rn 0 l
theorem rn_append : ∀ (l m : List UInt8) (r : Nat), rn r (l ++ m) = (rn r l).bind fun q => rn q m
  | [], m, r => rfl
  | b :: l, m, r => by
    rw [List.cons_append, rn, rn]
    split
    · split
      · rfl
      · exact rn_append l m _
    · exact rn_append l m _
theorem rn_seg {l m : List UInt8} (h1 : rn 0 l = some 0) (h2 : rn 0 m = some 0) : rn 0 (l ++ m) = some 0 := by
  rw [rn_append, h1]; exact h2
theorem rn_leb : ∀ (f n r : Nat), n < 128 ^ (f + 1) → r + f ≤ 4 → rn r (leb (f + 1) n) = some 0 := by
  intro f
  induction f with
  | zero =>
    intro n r hn hr
    have h1 : n < 128 := by simpa using hn
    rw [leb_last 0 n h1, rn, byte_lo n h1, if_neg (by omega)]
    rfl
  | succ f ih =>
    intro n r hn hr
    by_cases h1 : n < 128
    · rw [leb_last _ n h1, rn, byte_lo n h1, if_neg (by omega)]
      rfl
    · rw [leb_more _ n (by omega), rn, byte_hi]
      split
      · rw [if_neg (by omega)]
        exact ih _ _ (pow_succ128 _ _ hn) (by omega)
      · exact ih _ _ (pow_succ128 _ _ hn) (by omega)
theorem leb_fuel : ∀ (f n j : Nat), n < 128 ^ (f + 1) → leb (f + 1 + j) n = leb (f + 1) n := by
  intro f
  induction f with
  | zero =>
    intro n j hn
    have h1 : n < 128 := by simpa using hn
    rw [show 0 + 1 + j = j + 1 from by omega, leb_last _ n h1, leb_last _ n h1]
  | succ f ih =>
    intro n j hn
    by_cases h1 : n < 128
    · rw [show f + 1 + 1 + j = (f + 1 + j) + 1 from by omega, leb_last _ n h1, leb_last _ n h1]
    · rw [show f + 1 + 1 + j = (f + 1 + j) + 1 from by omega, leb_more _ n (by omega), leb_more _ n (by omega), ih _ _ (pow_succ128 _ _ hn)]
theorem rn_leb10 {n : Nat} (h : n < 4294967296) : rn 0 (leb 10 n) = some 0 := by
  rw [show (10 : Nat) = 4 + 1 + 5 from rfl, leb_fuel 4 n 5 (by omega)]
  exact rn_leb 4 n 0 (by omega) (by omega)
theorem rn_opt {h : Bool} {n : Nat} (hn : n < 4294967296) : rn 0 (if h = true then leb 10 n else []) = some 0 := by
  split
  · exact rn_leb10 hn
  · rfl
theorem rn_one {k : Int} (h : isK k = true) : rn 0 [UInt8.ofNat k.toNat] = some 0 := by
  have := isK_range h
  have h2 : (UInt8.ofNat k.toNat).toNat = k.toNat := by simp; omega
  rw [rn, h2, if_neg (by omega)]; rfl
theorem rn_evb {b e : Ev} (he : e.Wf) (hs : (Stp b e).2.2 = true) (hc : e.chk = 0) : rn 0 (evBytes b e) = some 0 := by
  obtain ⟨h1, h2, h3, h4, h5, h6, h7⟩ := stp_yes hs
  have hf : foldV (Stp b e).2.1 < 4294967296 := by unfold foldV; split <;> omega
  exact rn_seg (rn_seg (rn_seg (rn_seg (rn_seg (rn_one (chk_ok hc).1) (rn_leb10 (by omega))) (rn_leb10 hf)) (rn_opt he.a)) (rn_opt he.b)) (rn_opt he.v)
def loEnd (l : List UInt8) : Prop := ∀ c, l.getLast? = some c → c.toNat < 128
theorem lo_app {l m : List UInt8} (h1 : loEnd l) (h2 : loEnd m) : loEnd (l ++ m) := by
  intro c hc
  rw [List.getLast?_append] at hc
  cases hm : m.getLast? with
  | none => rw [hm] at hc; exact h1 c (by simpa using hc)
  | some d => rw [hm] at hc; exact h2 c (by rw [hm]; simpa using hc)
theorem lo_nil : loEnd [] := fun _ h => by cases h
theorem lo_leb : ∀ (f n : Nat), n < 128 ^ (f + 1) → loEnd (leb (f + 1) n) := by
  intro f
  induction f with
  | zero =>
    intro n hn c hc
    have h1 : n < 128 := by simpa using hn
    rw [leb_last 0 n h1] at hc
    obtain rfl : UInt8.ofNat n = c := by simpa using hc
    rw [byte_lo n h1]; exact h1
  | succ f ih =>
    intro n hn
    by_cases h1 : n < 128
    · intro c hc
      rw [leb_last _ n h1] at hc
      obtain rfl : UInt8.ofNat n = c := by simpa using hc
      rw [byte_lo n h1]; exact h1
    · rw [leb_more _ n (by omega)]
      intro c hc
      have hne : leb (f + 1) (n / 128) ≠ [] := fun h => by have := leb_pos f (n / 128); rw [h] at this; simp at this
      rw [List.getLast?_cons] at hc
      refine ih (n / 128) (pow_succ128 _ _ hn) c ?_
      rw [List.getLast?_eq_some_getLast hne] at hc ⊢
      simpa using hc
theorem lo_leb10 {n : Nat} (h : n < U64) : loEnd (leb 10 n) := lo_leb 9 n (u64_pow n h)
theorem lo_opt {h : Bool} {n : Nat} (hn : n < 4294967296) : loEnd (if h = true then leb 10 n else []) := by
  split
  · exact lo_leb10 (by unfold U64; omega)
  · exact lo_nil
theorem lo_evb {b e : Ev} (he : e.Wf) (hs : (Stp b e).2.2 = true) (hc : e.chk = 0) : loEnd (evBytes b e) := by
  obtain ⟨h1, h2, h3, h4, h5, h6, h7⟩ := stp_yes hs
  have hk := isK_range (chk_ok hc).1
  have hf : foldV (Stp b e).2.1 < 4294967296 := by unfold foldV; split <;> omega
  have h0 : loEnd [UInt8.ofNat e.k.toNat] := by
    intro c hc
    obtain rfl : UInt8.ofNat e.k.toNat = c := by simpa using hc
    have h2 : (UInt8.ofNat e.k.toNat).toNat = e.k.toNat := by simp; omega
    omega
  exact lo_app (lo_app (lo_app (lo_app (lo_app h0 (lo_leb10 (by unfold U64; omega))) (lo_leb10 (by unfold U64; omega))) (lo_opt he.a)) (lo_opt he.b)) (lo_opt he.v)
theorem ch_runs : ∀ (l : List Ev) (b : Ev), chOk b l → rn 0 (chB b l) = some 0 ∧ loEnd (chB b l)
  | [], _, _ => ⟨rfl, lo_nil⟩
  | e :: l, b, h => by
    obtain ⟨hc, hs⟩ := evErr_ok.1 h.1
    have := ch_runs l e h.2.2
    exact ⟨rn_seg (rn_evb h.2.1 hs hc) this.1, lo_app (lo_evb h.2.1 hs hc) this.2⟩
/-- CoilRuns, in plain words. -/
theorem coil_runs (z : Nat → Ev) (n : Nat) (hw : ∀ i, i < n → (z i).Wf) : rn 0 (prnS z n) = some 0 ∧ (prnE z n = 0 → loEnd (prnS z n)) := by
  unfold prnS
  split
  · rename_i h
    rw [prnC_ch]
    have := ch_runs _ _ ((prnE_ch z n hw).1 h)
    exact ⟨this.1, fun _ => this.2⟩
  · exact ⟨rfl, fun h => absurd h (by assumption)⟩
end Go.Proofs.Ythdenjokedmcfaa
