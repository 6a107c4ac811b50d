/- An event as a line, in plain words: its text, and the event that a line is; each leads back to the other. No program in sight. No condition but those that each names. -/
import Derived.Test.YtokjkfbbejalhaaDoorEv
import Derived.Test.YtokjkfbbejalhaaDoorEvN
import Derived.Test.YtokjkfbbejalhaaDoorTx
namespace Go.Proofs.YtokjkfbbejalhaaDoor
open Go Go.RowKit
set_option linter.unusedVariables false
set_option linter.unusedSimpArgs false
/-- The first kind of that name, from k on; 0: none. -/
def kdF (s : ByteArray) : Nat → Nat → Nat
  | 0, _ => 0
  | f + 1, k => if nm k = s then k else kdF s f (k + 1)
def kd (s : ByteArray) : Nat := kdF s 24 1
/-- The last kind of that name, up to k. -/
def rkF (s : ByteArray) : Nat → Nat
  | 0 => 0
  | k + 1 => if nm ((k + 1 : Nat) : Int) = s then k + 1 else rkF s k
theorem kdF_hit {s : ByteArray} : ∀ (f k : Nat), kdF s f k = 0 ∨ (k ≤ kdF s f k ∧ kdF s f k < k + f ∧ nm (kdF s f k) = s)
  | 0, k => Or.inl rfl
  | f + 1, k => by
    unfold kdF
    split
    · exact Or.inr ⟨Nat.le_refl _, by omega, by assumption⟩
    · rcases kdF_hit f (k + 1) with h | h
      · exact Or.inl h
      · exact Or.inr ⟨by omega, by omega, h.2.2⟩
theorem kdF_none {s : ByteArray} : ∀ (f k : Nat), 1 ≤ k → kdF s f k = 0 → ∀ j, k ≤ j → j < k + f → nm j ≠ s
  | 0, k, _, _, j, h1, h2 => by omega
  | f + 1, k, h0, h, j, h1, h2 => by
    unfold kdF at h
    split at h
    · omega
    · by_cases e : j = k
      · subst e; assumption
      · exact kdF_none f (k + 1) (by omega) h j (by omega) (by omega)
theorem rkF_none {s : ByteArray} : ∀ k : Nat, (∀ j : Nat, 1 ≤ j → j ≤ k → nm j ≠ s) → rkF s k = 0
  | 0, _ => rfl
  | k + 1, h => by
    unfold rkF
    rw [if_neg (h (k + 1) (by omega) (Nat.le_refl _))]
    exact rkF_none k fun j a b => h j a (by omega)
theorem kd_le (s : ByteArray) : kd s ≤ 24 := by
  rcases kdF_hit (s := s) 24 1 with h | h
  · show kdF s 24 1 ≤ 24; omega
  · show kdF s 24 1 ≤ 24; omega
theorem kd_nm : ∀ k : Nat, 1 ≤ k → k ≤ 24 → kd (nm k) = k ∧ rkF (nm k) 24 = k := by
  intro k h1 h2
  obtain rfl | rfl | rfl | rfl | rfl | rfl | rfl | rfl | rfl | rfl | rfl | rfl | rfl | rfl | rfl | rfl | rfl | rfl | rfl | rfl | rfl | rfl | rfl | rfl : k = 1 ∨ k = 2 ∨ k = 3 ∨ k = 4 ∨ k = 5 ∨ k = 6 ∨ k = 7 ∨ k = 8 ∨ k = 9 ∨ k = 10 ∨ k = 11 ∨ k = 12 ∨ k = 13 ∨ k = 14 ∨ k = 15 ∨ k = 16 ∨ k = 17 ∨ k = 18 ∨ k = 19 ∨ k = 20 ∨ k = 21 ∨ k = 22 ∨ k = 23 ∨ k = 24 := by omega
  all_goals decide +kernel
theorem kd_some {s : ByteArray} (h : kd s ≠ 0) : 1 ≤ kd s ∧ kd s ≤ 24 ∧ nm (kd s) = s := by
  rcases kdF_hit (s := s) 24 1 with h1 | h1
  · exact absurd h1 h
  · exact ⟨h1.1, by show kdF s 24 1 ≤ 24; omega, h1.2.2⟩
theorem rk_kd (s : ByteArray) : rkF s 24 = kd s := by
  by_cases h : kd s = 0
  · rw [h]
    exact rkF_none 24 fun j a b => kdF_none 24 1 (by omega) h j a (by omega)
  · obtain ⟨h1, h2, h3⟩ := kd_some h
    have := (kd_nm (kd s) h1 h2).2
    rw [h3] at this
    exact this
/-- Has a kind its number i? -/
def hasN (k : Int) : Nat → Bool
  | 0 => hasA k
  | 1 => hasB k
  | _ => hasV k
/-- A number of the rest, if the kind has it. -/
def tk (h : Bool) (r : List (List UInt8)) : Option (Nat × List (List UInt8)) :=
  if h then (match r with | [] => none | x :: t => (numP 32 x).map fun n => (n, t)) else some (0, r)
/-- The first i numbers of the rest. -/
def tkN (k : Int) (r : List (List UInt8)) : Nat → Option ((Nat → Nat) × List (List UInt8))
  | 0 => some (fun _ => 0, r)
  | i + 1 => (tkN k r i).bind fun f => (tk (hasN k i) f.2).map fun n => (fun j => if j = i then n.1 else f.1 j, n.2)
def prsE (W : List (List UInt8)) : Option Ev :=
  if W.length < 3 then none else
  match numP 64 (W.getD 0 []), numP 64 (W.getD 1 []), tkN (kd ⟨(W.getD 2 []).toArray⟩) (W.drop 3) 3 with
  | some ct, some cy, some f => if kd ⟨(W.getD 2 []).toArray⟩ = 0 ∨ f.2 ≠ [] then none else some ⟨kd ⟨(W.getD 2 []).toArray⟩, cy, ct, f.1 0, f.1 1, f.1 2⟩
  | _, _, _ => none
def fin (e : Ev) : Ev × Int := if e.chk = 0 then (e, 0) else (default, e.chk)
/-- What a line is. -/
def prs (l : List UInt8) : Ev × Int := match prsE (wds l) with | none => (default, 3) | some e => fin e
def ap (h : Bool) (n : Nat) : List UInt8 := if h then 32 :: Lib.decDigits n else []
/-- An event's line. -/
def txt (e : Ev) : List UInt8 := Lib.decDigits e.ct ++ 32 :: (Lib.decDigits e.cy ++ 32 :: ((nm e.k).data.toList ++ (ap (hasA e.k) e.a ++ (ap (hasB e.k) e.b ++ ap (hasV e.k) e.v))))
def aw (h : Bool) (n : Nat) : List (List UInt8) := if h then [Lib.decDigits n] else []
def txtW (e : Ev) : List (List UInt8) := Lib.decDigits e.ct :: Lib.decDigits e.cy :: (nm e.k).data.toList :: (aw (hasA e.k) e.a ++ (aw (hasB e.k) e.b ++ aw (hasV e.k) e.v))
theorem nm_nb : ∀ k : Nat, k ≤ 24 → ∀ c ∈ (nm k).data.toList, c ≠ 32 := by decide +kernel
theorem wds_ap {x : List UInt8} (hx : ∀ c ∈ x, c ≠ 32) (p q r : Bool) (a b v : Nat) : wds (x ++ (ap p a ++ (ap q b ++ ap r v))) = x :: (aw p a ++ (aw q b ++ aw r v)) := by
  have e1 := fun n => wds_word (dec_nb n)
  have e2 := fun n t => wds_sep (dec_nb n) t
  have e3 := fun t => wds_sep hx t
  cases p <;> cases q <;> cases r <;> simp [ap, aw, e1, e2, e3, wds_word hx]
theorem wds_txt {e : Ev} (h : 1 ≤ e.k ∧ e.k ≤ 24) : wds (txt e) = txtW e := by
  unfold txt txtW
  rw [wds_sep (dec_nb _), wds_sep (dec_nb _), wds_ap]
  have := nm_nb e.k.toNat (by omega)
  rw [show ((e.k.toNat : Nat) : Int) = e.k by omega] at this
  exact this
theorem tk_aw (h : Bool) (n : Nat) (hn : n < 4294967296) (h0 : h = false → n = 0) (r : List (List UInt8)) : tk h (aw h n ++ r) = some (n, r) := by
  cases h
  · rw [h0 rfl]; rfl
  · show (numP 32 (Lib.decDigits n)).map _ = _
    rw [numP_dec (by decide) (by omega)]
    rfl
theorem tk_back {h : Bool} {r t : List (List UInt8)} {n : Nat} (e : tk h r = some (n, t)) : r = aw h n ++ t ∧ (h = false → n = 0) ∧ n < 4294967296 := by
  cases h
  · have e : some (0, r) = some (n, t) := e
    cases e
    exact ⟨rfl, fun _ => rfl, by decide⟩
  · cases r with
    | nil => cases e
    | cons x u =>
      have e : (numP 32 x).map (fun n => (n, u)) = some (n, t) := e
      obtain ⟨m, hm, he⟩ := Option.map_eq_some_iff.1 e
      cases he
      have h1 := numP_lt (by decide) hm
      have h2 := (numP_some.1 hm).2
      exact ⟨by rw [aw, if_pos rfl, h2]; rfl, (fun h => by cases h), by simpa using h1⟩
theorem tkN3 (k : Int) (r : List (List UInt8)) : tkN k r 3 = (tk (hasA k) r).bind fun a => (tk (hasB k) a.2).bind fun b => (tk (hasV k) b.2).map fun v => (fun j => if j = 2 then v.1 else if j = 1 then b.1 else if j = 0 then a.1 else 0, v.2) := by
  unfold tkN tkN tkN tkN hasN
  simp only [Option.bind_some]
  cases h1 : tk (hasA k) r with
  | none => rfl
  | some a =>
    simp only [Option.map_some, Option.bind_some]
    cases h2 : tk (hasB k) a.2 with
    | none => rfl
    | some b => rfl
/-- A number that a kind hasn't is 0 in an event that can be. -/
theorem chk_no {e : Ev} (h : e.chk = 0) : (hasA e.k = false → e.a = 0) ∧ (hasB e.k = false → e.b = 0) ∧ (hasV e.k = false → e.v = 0) := by
  obtain ⟨h1, h2⟩ := chk_ok h
  unfold Ev.okB at h2
  simp only [Bool.and_eq_true] at h2
  obtain ⟨a, b, c, _⟩ := h2
  unfold hasA hasB hasV
  refine ⟨fun hz => ?_, fun hz => ?_, fun hz => ?_⟩
  · rw [show (sh e.k).1 = 0 by simpa using hz] at a; simpa [wth] using a
  · rw [show (sh e.k).2.1 = 0 by simpa using hz] at b; simpa [wth] using b
  · rw [show (sh e.k).2.2 = 0 by simpa using hz] at c; simpa [wth] using c
theorem prs_txt {e : Ev} (w : e.Wf) (h : e.chk = 0) : prs (txt e) = (e, 0) := by
  obtain ⟨h1, h2⟩ := chk_ok h
  have h1 : 1 ≤ e.k ∧ e.k ≤ 24 := by simpa [isK] using h1
  obtain ⟨n1, n2, n3⟩ := chk_no h
  obtain ⟨kk, hk⟩ : ∃ kk : Nat, e.k = kk := ⟨e.k.toNat, by omega⟩
  have hE : prsE (txtW e) = some e := by
    unfold prsE
    rw [if_neg (by unfold txtW; simp)]
    have e0 : (txtW e).getD 0 [] = Lib.decDigits e.ct := rfl
    have e1 : (txtW e).getD 1 [] = Lib.decDigits e.cy := rfl
    have e2 : (txtW e).getD 2 [] = (nm e.k).data.toList := rfl
    have e3 : (txtW e).drop 3 = aw (hasA e.k) e.a ++ (aw (hasB e.k) e.b ++ (aw (hasV e.k) e.v ++ [])) := by rw [List.append_nil]; rfl
    have ek : kd ⟨((txtW e).getD 2 []).toArray⟩ = kk := by rw [e2, hk]; exact (kd_nm kk (by omega) (by omega)).1
    rw [ek, e0, e1, e3, numP_dec (by decide) w.ct, numP_dec (by decide) w.cy, ← hk, tkN3, tk_aw _ _ w.a n1]
    simp only [Option.bind_some]
    rw [tk_aw _ _ w.b n2]
    simp only [Option.bind_some]
    rw [tk_aw _ _ w.v n3]
    simp only [Option.map_some]
    rw [if_neg (by simp; omega)]
    rfl
  unfold prs
  rw [wds_txt h1, hE]
  show fin e = _
  unfold fin
  rw [if_pos h]
theorem three_of {W : List (List UInt8)} (h : ¬ W.length < 3) : ∃ x y z r, W = x :: y :: z :: r :=
  match W, h with
  | [], h => absurd (by decide) h
  | [_], h => absurd (show 1 < 3 by decide) h
  | [_, _], h => absurd (show 2 < 3 by decide) h
  | x :: y :: z :: r, _ => ⟨x, y, z, r, rfl⟩
theorem prs_back {l : List UInt8} {e : Ev} (h : prs l = (e, 0)) : e.Wf ∧ e.chk = 0 ∧ txt e = l := by
  unfold prs at h
  cases hp : prsE (wds l) with
  | none => rw [hp] at h; cases h
  | some x =>
    rw [hp] at h
    have h : fin x = (e, 0) := h
    unfold fin at h
    split at h
    case isFalse hc => exact absurd (congrArg Prod.snd h) hc
    case isTrue hc =>
      cases h
      unfold prsE at hp
      split at hp
      · cases hp
      · rename_i hl
        split at hp
        · rename_i ct cy f q0 q1 q2
          split at hp
          · cases hp
          · rename_i hn
            cases hp
            have hk : kd ⟨((wds l).getD 2 []).toArray⟩ ≠ 0 := fun q => hn (Or.inl q)
            have hr : f.2 = [] := by
              by_cases q : f.2 = []
              · exact q
              · exact absurd (Or.inr q) hn
            obtain ⟨k1, k2, k3⟩ := kd_some hk
            generalize hkk : kd ⟨((wds l).getD 2 []).toArray⟩ = kk at *
            rw [tkN3] at q2
            cases ha : tk (hasA kk) ((wds l).drop 3) with
            | none => rw [ha] at q2; cases q2
            | some A =>
              rw [ha] at q2
              simp only [Option.bind_some] at q2
              cases hb : tk (hasB kk) A.2 with
              | none => rw [hb] at q2; cases q2
              | some B =>
                rw [hb] at q2
                simp only [Option.bind_some] at q2
                cases hv : tk (hasV kk) B.2 with
                | none => rw [hv] at q2; cases q2
                | some V =>
                  rw [hv] at q2
                  cases q2
                  obtain ⟨a1, a2, a3⟩ := tk_back (n := A.1) (t := A.2) ha
                  obtain ⟨b1, b2, b3⟩ := tk_back (n := B.1) (t := B.2) hb
                  obtain ⟨v1, v2, v3⟩ := tk_back (n := V.1) (t := V.2) hv
                  have hr : V.2 = [] := hr
                  refine ⟨⟨by show _ ≤ (kk : Int); omega, by show (kk : Int) ≤ _; omega, numP_lt (by decide) q1, numP_lt (by decide) q0, a3, b3, v3⟩, hc, ?_⟩
                  have hW : wds l = txtW ⟨kk, cy, ct, A.1, B.1, V.1⟩ := by
                    have hd : (wds l).drop 3 = aw (hasA kk) A.1 ++ (aw (hasB kk) B.1 ++ aw (hasV kk) V.1) := by rw [a1, b1, v1, hr, List.append_nil]
                    have d0 := (numP_some.1 q0).2
                    have d1 := (numP_some.1 q1).2
                    generalize wds l = W at hl hd d0 d1 k3
                    obtain ⟨x, y, z, r, rfl⟩ := three_of hl
                    have d0 : Lib.decDigits ct = x := d0
                    have d1 : Lib.decDigits cy = y := d1
                    have k3 : nm kk = ⟨z.toArray⟩ := k3
                    have hd : r = _ := hd
                    show x :: y :: z :: r = Lib.decDigits ct :: Lib.decDigits cy :: (nm kk).data.toList :: (aw (hasA kk) A.1 ++ (aw (hasB kk) B.1 ++ aw (hasV kk) V.1))
                    rw [d0, d1, k3, hd]
                  have e1 := joinW_wds l
                  have e2 := joinW_wds (txt ⟨kk, cy, ct, A.1, B.1, V.1⟩)
                  rw [wds_txt ⟨by show (1 : Int) ≤ kk; omega, by show (kk : Int) ≤ 24; omega⟩, ← hW, e1] at e2
                  exact e2.symm
        · cases hp
end Go.Proofs.YtokjkfbbejalhaaDoor
