/- A bundle of: Fr FrX FrY Bur. -/
import Derived.Test.YtbfipgeoecbpaaaBP
import Derived.Test.YtbfipgeoecbpaaaBL
/- Frames in plain words: the marker, a frame's bytes, what stands at a place. No program in sight. No condition. -/
namespace Go.Proofs.Ytbfipgeoecbpaaa
open Go.RowKit
def six255 : List UInt8 := List.replicate 16 255
def tafril : List UInt8 := [84, 65, 70, 82, 73, 76]
def mk : List UInt8 := six255 ++ tafril
theorem mk_len : mk.length = 22 := rfl
/-- A frame's head behind the run, its bytes. -/
def frH (seq cy ct len : Nat) : List UInt8 := tafril ++ sep 5 seq ++ sep 10 cy ++ sep 10 ct ++ sep 2 len
def frB (seq : Nat) (z : Nat → Ev) (n : Nat) : List UInt8 :=
  six255 ++ frH seq (z 0).cy (z 0).ct (prnC z n).length ++ sep 5 (crcV (frH seq (z 0).cy (z 0).ct (prnC z n).length)) ++ prnC z n ++ sep 5 (crcV (prnC z n))
def frE (z : Nat → Ev) (n : Nat) : Int := if n = 0 then 8 else if prnE z n ≠ 0 then prnE z n else if 120 < (prnC z n).length then 4 else 0
def frS (seq : Nat) (z : Nat → Ev) (n : Nat) : List UInt8 := if frE z n = 0 then frB seq z n else []
theorem frH_len (seq cy ct len : Nat) : (frH seq cy ct len).length = 33 := by
  unfold frH tafril
  simp [sep_len]
theorem sput_ok {n c : Nat} (h1 : 1 ≤ c) (h2 : c ≤ 10) (h : n < 128 ^ c) : sput n (c : Int) = (0, sep c n) := by
  unfold sput
  rw [if_neg (by omega)]
  simp only [Int.toNat_natCast]
  rw [if_pos h]
theorem sput5 {n : Nat} (h : n < 4294967296) : sput n 5 = (0, sep 5 n) := sput_ok (c := 5) (by decide) (by decide) (by omega)
theorem sput10 {n : Nat} (h : n < 18446744073709551616) : sput n 10 = (0, sep 10 n) := sput_ok (c := 10) (by decide) (by decide) (by omega)
theorem sput2 {n : Nat} (h : n ≤ 120) : sput n 2 = (0, sep 2 n) := sput_ok (c := 2) (by decide) (by decide) (by omega)
/-- A number of 32 bits at a place; an error; the place behind. -/
def wrd (s : ByteArray) (p : Nat) : Nat × Nat × Nat := if (sget s p 5).2.1 = 0 ∧ 4294967295 < (sget s p 5).1 then (0, 5, (sget s p 5).2.2) else sget s p 5
theorem wrd_le (s : ByteArray) (p : Nat) (hp : p ≤ s.size) : (wrd s p).1 ≤ 4294967295 := by
  unfold wrd
  split
  · exact Nat.zero_le _
  · rename_i h
    by_cases e : (sget s p 5).2.1 = 0
    · exact Nat.le_of_not_lt fun x => h ⟨e, x⟩
    · rw [((sget_next s p 5 hp).2 e).1]; exact Nat.zero_le _
theorem wrd_next (s : ByteArray) (p : Nat) (hp : p ≤ s.size) : (wrd s p).2.2 ≤ s.size := by
  unfold wrd
  split
  · exact (sget_next s p 5 hp).1
  · exact (sget_next s p 5 hp).1
/-- Is the sum at a place that of some bytes? The place behind. -/
def smE (s : ByteArray) (p : Nat) (l : List UInt8) : Nat := if (wrd s p).2.1 = 0 ∧ (wrd s p).1 ≠ crcV l then 6 else (wrd s p).2.1
/-- What stands ahead of a payload. -/
def fh1 (s : ByteArray) (p : Nat) : Nat × Nat × Nat := wrd s (p + 22)
def fh2 (s : ByteArray) (p : Nat) : Nat × Nat × Nat := sget s (fh1 s p).2.2 10
def fh3 (s : ByteArray) (p : Nat) : Nat × Nat × Nat := sget s (fh2 s p).2.2 10
def fh4 (s : ByteArray) (p : Nat) : Nat × Nat × Nat := sget s (fh3 s p).2.2 2
def fhB (s : ByteArray) (p : Nat) : List UInt8 := (s.extract (p + 16) (fh4 s p).2.2).data.toList
def fhE (s : ByteArray) (p : Nat) : Nat :=
  if agree s p ⟨mk.toArray⟩ < 22 then (if agree s p ⟨mk.toArray⟩ = s.size - p then 2 else 3)
  else if (fh1 s p).2.1 ≠ 0 then (fh1 s p).2.1 else if (fh2 s p).2.1 ≠ 0 then (fh2 s p).2.1 else if (fh3 s p).2.1 ≠ 0 then (fh3 s p).2.1 else if (fh4 s p).2.1 ≠ 0 then (fh4 s p).2.1
  else if (fh4 s p).1 < 1 ∨ 120 < (fh4 s p).1 then 4 else smE s (fh4 s p).2.2 (fhB s p)
def fhQ (s : ByteArray) (p : Nat) : Nat := (wrd s (fh4 s p).2.2).2.2
def fhP (s : ByteArray) (p : Nat) : ByteArray := s.extract (fhQ s p) (fhQ s p + (fh4 s p).1)
/-- The frame at a place: the error, the number, the events, the place behind. -/
def fRd (s : ByteArray) (p : Nat) : Int × Nat × List Ev × Nat :=
  if fhE s p ≠ 0 then ((fhE s p : Int), 0, [], 0)
  else if s.size - fhQ s p < (fh4 s p).1 then (2, 0, [], 0)
  else if smE s (fhQ s p + (fh4 s p).1) (fhP s p).data.toList ≠ 0 then ((smE s (fhQ s p + (fh4 s p).1) (fhP s p).data.toList : Int), 0, [], 0)
  else if (rdL (fhP s p) (fhP s p).size (fh2 s p).1 (fh3 s p).1 0).2 ≠ 0 then ((rdL (fhP s p) (fhP s p).size (fh2 s p).1 (fh3 s p).1 0).2, 0, [], 0)
  else if ((rdL (fhP s p) (fhP s p).size (fh2 s p).1 (fh3 s p).1 0).1.getD 0 default).cy ≠ (fh2 s p).1 ∨ ((rdL (fhP s p) (fhP s p).size (fh2 s p).1 (fh3 s p).1 0).1.getD 0 default).ct ≠ (fh3 s p).1 then (3, 0, [], 0)
  else (0, (fh1 s p).1, (rdL (fhP s p) (fhP s p).size (fh2 s p).1 (fh3 s p).1 0).1, (wrd s (fhQ s p + (fh4 s p).1)).2.2)
def frR (s : ByteArray) (at_ : Int) : Int × Nat × List Ev × Nat := if at_ < 0 ∨ (s.size : Int) < at_ then (1, 0, [], 0) else fRd s at_.toNat
end Go.Proofs.Ytbfipgeoecbpaaa
/- Plain laws of frames: what is read is printed; what is printed is read. No program in sight. No condition. -/
namespace Go.Proofs.Ytbfipgeoecbpaaa
open Go.RowKit
set_option maxRecDepth 20000
theorem agrL_full : ∀ (t r : List UInt8), agrL t r = t.length → r = t ++ r.drop t.length
  | [], r, _ => by simp
  | a :: t, [], h => by simp [agrL] at h
  | a :: t, b :: r, h => by
    rw [agrL] at h
    split at h
    · rename_i e
      subst e
      have := agrL_full t r (by simpa using h)
      rw [List.cons_append, List.length_cons, List.drop_succ_cons, ← this]
    · simp at h
theorem agrL_app : ∀ (t r : List UInt8), agrL t (t ++ r) = t.length
  | [], r => by simp [agrL]
  | a :: t, r => by rw [List.cons_append, agrL, if_pos rfl, agrL_app t r]; rfl
theorem sget_spell {s : ByteArray} {p c n q : Nat} (hc1 : 1 ≤ c) (hc : c ≤ 10) (hp : p ≤ s.size) (h : sget s p (c : Int) = (n, 0, q)) : q = p + c ∧ p + c ≤ s.size ∧ s.data.toList.drop p = sep c n ++ s.data.toList.drop q := by
  unfold sget at h
  rw [if_neg (by omega)] at h
  simp only [Int.toNat_natCast] at h
  have hn := sgo_next s p c 0 0 hp (by omega)
  rw [h] at hn
  have hq : q = p + c := by have := hn.2.2 rfl; simpa using this
  obtain ⟨_, m, h1, h2⟩ := sgo_one s p c 0 0 n 0 q (by omega) (by decide) h rfl
  obtain rfl : m = n := by omega
  refine ⟨hq, by rw [← hq]; exact hn.1, ?_⟩
  rw [Nat.add_zero] at h2
  rw [hq, h2, ← List.drop_drop]
  exact (List.take_append_drop _ _).symm
theorem sget_at {s : ByteArray} {p c n : Nat} {post : List UInt8} (hc1 : 1 ≤ c) (hc : c ≤ 10) (hn : n < 128 ^ c) (hu : n < U64) (hd : s.data.toList.drop p = sep c n ++ post) : sget s p (c : Int) = (n, 0, p + c) := by
  have := sgo_back s p c n 0 0 post (by omega) hn (by simpa using hu) (by simpa using hu) (by simpa using hd)
  unfold sget
  rw [if_neg (by omega)]
  simpa using this
theorem wrd_spell {s : ByteArray} {p n q : Nat} (hp : p ≤ s.size) (h : wrd s p = (n, 0, q)) : q = p + 5 ∧ p + 5 ≤ s.size ∧ s.data.toList.drop p = sep 5 n ++ s.data.toList.drop q := by
  unfold wrd at h
  split at h
  · cases h
  · exact sget_spell (c := 5) (by decide) (by decide) hp h
theorem wrd_at {s : ByteArray} {p n : Nat} {post : List UInt8} (hn : n < 4294967296) (hd : s.data.toList.drop p = sep 5 n ++ post) : wrd s p = (n, 0, p + 5) := by
  have := sget_at (c := 5) (by decide) (by decide) (show n < 128 ^ 5 by omega) (by unfold U64; omega) hd
  unfold wrd
  rw [show (5 : Int) = ((5 : Nat) : Int) from rfl, this, if_neg (by simp only; omega)]
theorem smE_zero {s : ByteArray} {p : Nat} {l : List UInt8} (h : smE s p l = 0) : wrd s p = (crcV l, 0, (wrd s p).2.2) := by
  unfold smE at h
  split at h
  · cases h
  · rename_i hn
    generalize wrd s p = r at h hn ⊢
    obtain ⟨n, e, q⟩ := r
    simp only at h hn ⊢
    subst h
    by_cases hc : n = crcV l
    · rw [hc]
    · exact absurd ⟨rfl, hc⟩ hn
theorem smE_at {s : ByteArray} {p : Nat} {l post : List UInt8} (hd : s.data.toList.drop p = sep 5 (crcV l) ++ post) : smE s p l = 0 ∧ (wrd s p).2.2 = p + 5 := by
  have := wrd_at (crcV_lt l) hd
  unfold smE
  rw [this]
  exact ⟨if_neg fun x => x.2 rfl, rfl⟩
theorem drop_app' {l a b : List UInt8} {p n : Nat} (h : l.drop p = a ++ b) (hn : a.length = n) : l.drop (p + n) = b := by
  rw [← hn, ← List.drop_drop, h]; simp
theorem ext_take (s : ByteArray) (p q : Nat) : (s.extract p q).data.toList = (s.data.toList.drop p).take (q - p) := by
  rw [ByteArray.data_extract, Array.toList_extract]
theorem fhE_parts {s : ByteArray} {p : Nat} (h : fhE s p = 0) : agree s p ⟨mk.toArray⟩ = 22 ∧ (fh1 s p).2.1 = 0 ∧ (fh2 s p).2.1 = 0 ∧ (fh3 s p).2.1 = 0 ∧ (fh4 s p).2.1 = 0 ∧ 1 ≤ (fh4 s p).1 ∧ (fh4 s p).1 ≤ 120 ∧ smE s (fh4 s p).2.2 (fhB s p) = 0 := by
  have hag := agrL_le mk (s.data.toList.drop p)
  have hag2 : agree s p ⟨mk.toArray⟩ ≤ 22 := hag.1
  unfold fhE at h
  by_cases c0 : agree s p ⟨mk.toArray⟩ < 22
  · rw [if_pos c0] at h
    split at h <;> cases h
  · rw [if_neg c0] at h
    split at h
    · rename_i h1; exact absurd h h1
    · split at h
      · rename_i h1; exact absurd h h1
      · split at h
        · rename_i h1; exact absurd h h1
        · split at h
          · rename_i h1; exact absurd h h1
          · split at h
            · cases h
            · refine ⟨by omega, by omega, by omega, by omega, by omega, by omega, by omega, h⟩
theorem frB_len (seq : Nat) (z : Nat → Ev) (n : Nat) : (frB seq z n).length = 59 + (prnC z n).length := by
  unfold frB six255
  simp only [List.length_append, List.length_replicate, frH_len, sep_len]
  omega
theorem getD_zero {l : List Ev} : (fun i => l.getD i default) 0 = l.getD 0 default := rfl
/-- What is read as a frame is printed again as it was. -/
theorem fRd_spell {s : ByteArray} {p : Nat} (hp : p ≤ s.size) {seq nx : Nat} {l : List Ev} (h : fRd s p = (0, seq, l, nx)) :
    p ≤ nx ∧ nx ≤ s.size ∧ (∀ i, i < l.length → (l.getD i default).Wf) ∧ frE (fun i => l.getD i default) l.length = 0 ∧ frS seq (fun i => l.getD i default) l.length = (s.extract p nx).data.toList := by
  unfold fRd at h
  split at h
  · rename_i hE
    have e := congrArg Prod.fst h
    simp only at e
    exact absurd (show fhE s p = 0 by omega) hE
  · rename_i hE
    have hE : fhE s p = 0 := by simpa using hE
    obtain ⟨hag, a1, a2, a3, a4, b1, b2, b3⟩ := fhE_parts hE
    split at h
    · cases h
    · rename_i hsz
      split at h
      · rename_i hs2
        have e := congrArg Prod.fst h
        simp only at e
        exact absurd (show smE s (fhQ s p + (fh4 s p).1) (fhP s p).data.toList = 0 by omega) hs2
      · rename_i hs2
        have hs2 : smE s (fhQ s p + (fh4 s p).1) (fhP s p).data.toList = 0 := by simpa using hs2
        split at h
        · rename_i hr
          have e := congrArg Prod.fst h
          simp only at e
          exact absurd e hr
        · rename_i hr
          have hr : (rdL (fhP s p) (fhP s p).size (fh2 s p).1 (fh3 s p).1 0).2 = 0 := by simpa using hr
          split at h
          · cases h
          · rename_i hst
            obtain ⟨hst1, hst2⟩ : ((rdL (fhP s p) (fhP s p).size (fh2 s p).1 (fh3 s p).1 0).1.getD 0 default).cy = (fh2 s p).1 ∧ ((rdL (fhP s p) (fhP s p).size (fh2 s p).1 (fh3 s p).1 0).1.getD 0 default).ct = (fh3 s p).1 := by
              constructor
              · exact Classical.byContradiction fun x => hst (.inl x)
              · exact Classical.byContradiction fun x => hst (.inr x)
            have hl : (rdL (fhP s p) (fhP s p).size (fh2 s p).1 (fh3 s p).1 0).1 = l := congrArg (fun x => x.2.2.1) h
            have hseq : (fh1 s p).1 = seq := congrArg (fun x => x.2.1) h
            have hnx : (wrd s (fhQ s p + (fh4 s p).1)).2.2 = nx := congrArg (fun x => x.2.2.2) h
            -- the bytes
            have hagl := agrL_le mk (s.data.toList.drop p)
            have hdl : (s.data.toList.drop p).length = s.size - p := by simp
            have hp22 : p + 22 ≤ s.size := by
              have h1 : agree s p ⟨mk.toArray⟩ ≤ s.size - p := by rw [← hdl]; exact hagl.2
              omega
            have d0 : s.data.toList.drop p = mk ++ s.data.toList.drop (p + 22) := by
              have := agrL_full mk (s.data.toList.drop p) hag
              rw [List.drop_drop] at this
              exact this
            obtain ⟨v1, e1, q1⟩ : ∃ a b, fh1 s p = (a, 0, b) := ⟨(fh1 s p).1, (fh1 s p).2.2, by rw [← a1]⟩
            obtain ⟨v2, q2, e2⟩ : ∃ a b, fh2 s p = (a, 0, b) := ⟨(fh2 s p).1, (fh2 s p).2.2, by rw [← a2]⟩
            obtain ⟨v3, q3, e3⟩ : ∃ a b, fh3 s p = (a, 0, b) := ⟨(fh3 s p).1, (fh3 s p).2.2, by rw [← a3]⟩
            obtain ⟨v4, q4, e4⟩ : ∃ a b, fh4 s p = (a, 0, b) := ⟨(fh4 s p).1, (fh4 s p).2.2, by rw [← a4]⟩
            obtain ⟨r1, t1, d1⟩ := wrd_spell hp22 q1
            have e2' : sget s e1 ((10 : Nat) : Int) = (v2, 0, q2) := by rw [← e2]; unfold fh2; rw [q1]; rfl
            obtain ⟨r2, t2, d2⟩ := sget_spell (by decide) (by decide) (by omega) e2'
            have e3' : sget s q2 ((10 : Nat) : Int) = (v3, 0, q3) := by rw [← e3]; unfold fh3; rw [e2]; rfl
            obtain ⟨r3, t3, d3⟩ := sget_spell (by decide) (by decide) (by omega) e3'
            have e4' : sget s q3 ((2 : Nat) : Int) = (v4, 0, q4) := by rw [← e4]; unfold fh4; rw [e3]; rfl
            obtain ⟨r4, t4, d4⟩ := sget_spell (by decide) (by decide) (by omega) e4'
            have hB : fhB s p = frH v1 v2 v3 v4 := by
              unfold fhB
              rw [e4, ext_take]
              have h16 : s.data.toList.drop (p + 16) = tafril ++ s.data.toList.drop (p + 22) := by
                have := drop_app' (n := 16) (show s.data.toList.drop p = six255 ++ (tafril ++ s.data.toList.drop (p + 22)) by rw [d0]; rfl) rfl
                exact this
              rw [h16, d1, d2, d3, d4]
              have e9 : tafril ++ (sep 5 v1 ++ (sep 10 v2 ++ (sep 10 v3 ++ (sep 2 v4 ++ s.data.toList.drop q4)))) = frH v1 v2 v3 v4 ++ s.data.toList.drop q4 := by unfold frH; simp only [List.append_assoc]
              rw [e9, show q4 - (p + 16) = (frH v1 v2 v3 v4).length by rw [frH_len]; omega, List.take_left]
            rw [e4] at b1 b2 b3 hs2 hsz hnx
            simp only at b1 b2 b3 hs2 hsz hnx
            rw [hB] at b3
            have b3' := smE_zero b3
            obtain ⟨r5, t5, d5⟩ := wrd_spell (by omega) b3'
            have hQ : fhQ s p = q4 + 5 := by unfold fhQ; rw [e4]; exact r5
            rw [hQ] at hsz hs2 hnx
            have hq5 : (wrd s q4).2.2 = q4 + 5 := r5
            rw [hq5] at d5
            have hPd : (fhP s p).data.toList = (s.data.toList.drop (q4 + 5)).take v4 := by
              unfold fhP
              rw [hQ, e4, ext_take]
              simp
            have hPs : (fhP s p).size = v4 := by unfold fhP; rw [hQ, e4, ByteArray.size_extract]; simp only; omega
            have d6 : s.data.toList.drop (q4 + 5) = (fhP s p).data.toList ++ s.data.toList.drop (q4 + 5 + v4) := by
              rw [hPd, ← List.drop_drop (i := v4) (j := q4 + 5), List.take_append_drop]
            have hs2' := smE_zero hs2
            obtain ⟨r7, t7, d7⟩ := wrd_spell (by omega) hs2'
            rw [hnx] at r7 d7
            -- the events
            rw [e2, e3] at hst1 hst2 hr hl
            simp only at hst1 hst2 hr hl
            rw [hl] at hst1 hst2
            have hone := coil_one (fhP s p) v2 v3 (fhP s p).size l (Nat.le_refl _) (Prod.ext hl hr) (fun _ => ⟨hst1, hst2⟩)
            obtain ⟨o1, o2, o3⟩ := hone
            have hPl : (prnC (fun i => l.getD i default) l.length).length = v4 := by rw [o3, ← hPs]; simp
            have hln : l.length ≠ 0 := by
              intro h0
              rw [h0] at hPl
              simp [prnC] at hPl
              omega
            have hFE : frE (fun i => l.getD i default) l.length = 0 := by unfold frE; rw [if_neg hln, if_neg (not_not_intro o2), if_neg (by omega)]
            refine ⟨by omega, by omega, o1, hFE, ?_⟩
            unfold frS
            rw [if_pos hFE, ext_take]
            have hseq1 : v1 = seq := by rw [← hseq, q1]
            have hall : s.data.toList.drop p = frB seq (fun i => l.getD i default) l.length ++ s.data.toList.drop nx := by
              rw [d0, d1, d2, d3, d4, d5, d6, d7]
              unfold frB
              rw [hPl, o3, show (fun i => l.getD i default) 0 = l.getD 0 default from rfl, hst1, hst2, ← hseq1]
              unfold mk frH
              simp only [List.append_assoc]
            rw [hall, show nx - p = (frB seq (fun i => l.getD i default) l.length).length by rw [frB_len, hPl]; omega, List.take_left]
end Go.Proofs.Ytbfipgeoecbpaaa
/- Plain laws of frames: what is printed is read; what is cut off lacks bytes. No program in sight. No condition. -/
namespace Go.Proofs.Ytbfipgeoecbpaaa
open Go.RowKit
set_option maxRecDepth 20000
theorem frE_zero {z : Nat → Ev} {n : Nat} (h : frE z n = 0) : n ≠ 0 ∧ prnE z n = 0 ∧ (prnC z n).length ≤ 120 := by
  unfold frE at h
  split at h
  · cases h
  · split at h
    · rename_i h1; exact absurd h h1
    · split at h
      · cases h
      · rename_i h0 h1 h2
        exact ⟨h0, Classical.byContradiction h1, by omega⟩
theorem ba_eq {a : ByteArray} {l : List UInt8} (h : a.data.toList = l) : a = ⟨l.toArray⟩ := by
  obtain ⟨d⟩ := a
  simp only at h
  subst h
  simp
theorem smE_next {s : ByteArray} {p : Nat} {l post : List UInt8} (hd : s.data.toList.drop p = sep 5 (crcV l) ++ post) : smE s p l = 0 ∧ wrd s p = (crcV l, 0, p + 5) :=
  ⟨(smE_at hd).1, wrd_at (crcV_lt l) hd⟩
theorem lt70 {n : Nat} (h : n < 18446744073709551616) : n < 128 ^ 10 := by omega
/-- The head of a frame that stands at p. -/
theorem head_back {s : ByteArray} {p : Nat} {seq cy ct len : Nat} {post : List UInt8} (hseq : seq < 4294967296) (hcy : cy < 18446744073709551616) (hct : ct < 18446744073709551616) (hlen : len ≤ 120)
    (hd : s.data.toList.drop p = six255 ++ (frH seq cy ct len ++ post)) :
    agree s p ⟨mk.toArray⟩ = 22 ∧ fh1 s p = (seq, 0, p + 27) ∧ fh2 s p = (cy, 0, p + 37) ∧ fh3 s p = (ct, 0, p + 47) ∧ fh4 s p = (len, 0, p + 49) ∧ fhB s p = frH seq cy ct len ∧ s.data.toList.drop (p + 49) = post := by
  have d0 : s.data.toList.drop p = mk ++ (sep 5 seq ++ (sep 10 cy ++ (sep 10 ct ++ (sep 2 len ++ post)))) := by
    rw [hd]; unfold mk frH; simp only [List.append_assoc]
  have hag : agree s p ⟨mk.toArray⟩ = 22 := by
    show agrL mk (s.data.toList.drop p) = 22
    rw [d0, agrL_app]; rfl
  have d1 := drop_app' (n := 22) d0 rfl
  have e1 : fh1 s p = (seq, 0, p + 27) := wrd_at hseq d1
  have d2 := drop_app' (n := 5) d1 (sep_len 5 seq)
  have e2 : fh2 s p = (cy, 0, p + 37) := by
    unfold fh2; rw [e1]
    exact sget_at (c := 10) (by decide) (by decide) (lt70 hcy) (by unfold U64; omega) d2
  have d3 := drop_app' (n := 10) d2 (sep_len 10 cy)
  have e3 : fh3 s p = (ct, 0, p + 47) := by
    unfold fh3; rw [e2]
    exact sget_at (c := 10) (by decide) (by decide) (lt70 hct) (by unfold U64; omega) d3
  have d4 := drop_app' (n := 10) d3 (sep_len 10 ct)
  have e4 : fh4 s p = (len, 0, p + 49) := by
    unfold fh4; rw [e3]
    exact sget_at (c := 2) (by decide) (by decide) (show len < 128 ^ 2 by omega) (by unfold U64; omega) d4
  have d5 := drop_app' (n := 2) d4 (sep_len 2 len)
  refine ⟨hag, e1, e2, e3, e4, ?_, d5⟩
  unfold fhB
  rw [e4, ext_take]
  have h16 := drop_app' (n := 16) hd rfl
  rw [h16, show p + 49 - (p + 16) = (frH seq cy ct len).length by rw [frH_len]; omega, List.take_left]
theorem fhE_of {s : ByteArray} {p a1 a2 a3 a4 q1 q2 q3 q4 : Nat} (h0 : agree s p ⟨mk.toArray⟩ = 22) (h1 : fh1 s p = (a1, 0, q1)) (h2 : fh2 s p = (a2, 0, q2)) (h3 : fh3 s p = (a3, 0, q3)) (h4 : fh4 s p = (a4, 0, q4)) (h5 : 1 ≤ a4) (h6 : a4 ≤ 120) : fhE s p = smE s q4 (fhB s p) := by
  unfold fhE
  rw [h0, h1, h2, h3, h4, if_neg (by decide), if_neg (by simp), if_neg (by simp), if_neg (by simp), if_neg (by simp), if_neg (by simp only; omega)]
/-- What is printed is read. -/
theorem fRd_back {s : ByteArray} {p seq n : Nat} {z : Nat → Ev} {post : List UInt8} (hE : frE z n = 0) (hw : ∀ i, i < n → (z i).Wf) (hseq : seq < 4294967296) (hd : s.data.toList.drop p = frB seq z n ++ post) :
    fRd s p = (0, seq, (List.range n).map z, p + (frB seq z n).length) := by
  obtain ⟨hn, hp, hl⟩ := frE_zero hE
  have hw0 := hw 0 (by omega)
  have hlp : 1 ≤ (prnC z n).length := by
    obtain ⟨m, rfl⟩ : ∃ m, n = m + 1 := ⟨n - 1, by omega⟩
    rw [prnC, List.length_append]
    have := evb_pos (z (m - 1)) (z m)
    omega
  have hdl : s.data.toList.drop p = six255 ++ (frH seq (z 0).cy (z 0).ct (prnC z n).length ++ (sep 5 (crcV (frH seq (z 0).cy (z 0).ct (prnC z n).length)) ++ (prnC z n ++ (sep 5 (crcV (prnC z n)) ++ post)))) := by
    rw [hd]; unfold frB; simp only [List.append_assoc]
  obtain ⟨h0, h1, h2, h3, h4, h5, d5⟩ := head_back hseq hw0.cy hw0.ct hl hdl
  rw [← h5] at d5
  obtain ⟨s1, s2⟩ := smE_next d5
  have hfE : fhE s p = 0 := by rw [fhE_of h0 h1 h2 h3 h4 hlp hl]; exact s1
  have hQ : fhQ s p = p + 54 := by unfold fhQ; rw [h4]; exact congrArg (fun x => x.2.2) s2
  have d6 : s.data.toList.drop (p + 54) = prnC z n ++ (sep 5 (crcV (prnC z n)) ++ post) := drop_app' (n := 5) d5 (sep_len 5 _)
  have hsz : p + 54 + (prnC z n).length ≤ s.size := by
    have := congrArg List.length d6
    simp only [List.length_drop, List.length_append, sep_len] at this
    have h2 : s.data.toList.length = s.size := by simp
    omega
  have hPl : (fhP s p).data.toList = prnC z n := by
    unfold fhP
    rw [hQ, h4, ext_take, d6, show p + 54 + (prnC z n).length - (p + 54) = (prnC z n).length by omega, List.take_left]
  have hPb := ba_eq hPl
  have hPs : (fhP s p).size = (prnC z n).length := by rw [hPb]; show (List.toArray _).size = _; simp
  have d7 : s.data.toList.drop (p + 54 + (prnC z n).length) = sep 5 (crcV (prnC z n)) ++ post := drop_app' d6 rfl
  rw [← hPl] at d7
  obtain ⟨s3, s4⟩ := smE_next d7
  rw [hPl] at s3 s4
  have hr : rdL (fhP s p) (fhP s p).size (fh2 s p).1 (fh3 s p).1 0 = ((List.range n).map z, 0) := by
    rw [hPs, hPb, h2, h3]
    exact coil_back z n hw hp _ (Nat.le_refl _)
  have hg0 : ((List.range n).map z).getD 0 default = z 0 := by
    obtain ⟨m, rfl⟩ : ∃ m, n = m + 1 := ⟨n - 1, by omega⟩
    simp [List.range_succ_eq_map]
  unfold fRd
  rw [hr, hQ, h4, hPl, h1, h2, h3]
  simp only
  rw [if_neg (not_not_intro hfE), if_neg (by omega), s3, if_neg (by simp), if_neg (by simp), hg0, if_neg (by simp), s4, frB_len]
  simp only [Prod.mk.injEq, true_and]
  omega
theorem frR_back {s : ByteArray} {p seq n : Nat} {z : Nat → Ev} {post : List UInt8} (hE : frE z n = 0) (hw : ∀ i, i < n → (z i).Wf) (hseq : seq < 4294967296) (hd : s.data.toList.drop p = frB seq z n ++ post) (hp : p ≤ s.size) :
    frR s (p : Int) = (0, seq, (List.range n).map z, p + (frB seq z n).length) := by
  unfold frR
  rw [if_neg (by omega)]
  exact fRd_back hE hw hseq hd
/-! ### cut off -/
theorem cut_step {l a r : List UInt8} {p k : Nat} (h : l.drop p = (a ++ r).take k) : (k < a.length ∧ l.drop p = a.take k) ∨ (a.length ≤ k ∧ l.drop p = a ++ r.take (k - a.length)) := by
  rw [List.take_append] at h
  rcases Nat.lt_or_ge k a.length with h1 | h1
  · exact .inl ⟨h1, by rw [h, show k - a.length = 0 by omega]; simp⟩
  · exact .inr ⟨h1, by rw [h, List.take_of_length_le h1]⟩
theorem sgo_cut (s : ByteArray) (p : Nat) : ∀ (f n k acc j : Nat), f + k ≤ 10 → n * 128 ^ k < U64 → j < f → s.data.toList.drop (p + k) = (sep f n).take j → sgo s p f k acc = (0, 2, p)
  | 0, _, _, _, _, _, _, h, _ => absurd h (Nat.not_lt_zero _)
  | f + 1, n, k, acc, 0, _, _, _, hd => by
    have hlen : ¬ p + k < s.size := by
      intro h
      have := congrArg List.length hd
      simp at this
      have h2 : s.data.size = s.size := rfl
      omega
    exact sgo_end hlen
  | f + 1, n, k, acc, j + 1, hfk, hu, hj, hd => by
    rw [sep, List.take_succ_cons] at hd
    obtain ⟨h', hb⟩ := at_drop hd
    have hc : s[p + k].toNat = n % 128 := by rw [hb]; simp; omega
    have hk9 : ¬ (127 < n % 128 ∨ (k = 9 ∧ 1 < n % 128)) := by
      rintro (h | ⟨h, h2⟩)
      · omega
      · subst h
        unfold U64 at hu
        omega
    rw [sgo_go h' hc.symm hk9]
    have hd2 := drop_step hd
    refine sgo_cut s p f (n / 128) (k + 1) _ j (by omega) ?_ (by omega) hd2
    refine Nat.lt_of_le_of_lt ?_ hu
    rw [Nat.pow_succ, Nat.mul_comm (128 ^ k) 128, ← Nat.mul_assoc]
    exact Nat.mul_le_mul_right _ (by omega)
theorem sget_cut {s : ByteArray} {p c n j : Nat} (hc1 : 1 ≤ c) (hc : c ≤ 10) (hu : n < U64) (hj : j < c) (hd : s.data.toList.drop p = (sep c n).take j) : sget s p (c : Int) = (0, 2, p) := by
  unfold sget
  rw [if_neg (by omega)]
  exact sgo_cut s p c n 0 0 j (by omega) (by simpa using hu) hj (by simpa using hd)
theorem wrd_cut {s : ByteArray} {p n j : Nat} (hu : n < 4294967296) (hj : j < 5) (hd : s.data.toList.drop p = (sep 5 n).take j) : wrd s p = (0, 2, p) := by
  have := sget_cut (c := 5) (by decide) (by decide) (show n < U64 by unfold U64; omega) hj hd
  unfold wrd
  rw [show (5 : Int) = ((5 : Nat) : Int) from rfl, this, if_neg (by simp)]
theorem smE_cut {s : ByteArray} {p n j : Nat} {l : List UInt8} (hu : n < 4294967296) (hj : j < 5) (hd : s.data.toList.drop p = (sep 5 n).take j) : smE s p l = 2 := by
  unfold smE
  rw [wrd_cut hu hj hd, if_neg (by simp)]
theorem agrL_cut : ∀ (t : List UInt8) (k : Nat), k ≤ t.length → agrL t (t.take k) = k
  | t, 0, _ => by cases t <;> simp [agrL]
  | [], k + 1, h => by simp at h
  | a :: t, k + 1, h => by
    rw [List.take_succ_cons, agrL, if_pos rfl, agrL_cut t k (by simpa using h)]
theorem fr_two {s : ByteArray} (h : fhE s 0 = 2) : frR s 0 = (2, 0, [], 0) := by
  unfold frR
  rw [if_neg (by omega)]
  unfold fRd
  rw [show (0 : Int).toNat = 0 from rfl, h]
  rfl
theorem fr_cut {s : ByteArray} {seq n m : Nat} {z : Nat → Ev} (hE : frE z n = 0) (hw : ∀ i, i < n → (z i).Wf) (hseq : seq < 4294967296) (hm : m < (frB seq z n).length) (hs : s.data.toList = (frB seq z n).take m) : frR s 0 = (2, 0, [], 0) := by
  obtain ⟨hn, hp, hl⟩ := frE_zero hE
  have hw0 := hw 0 (by omega)
  have hcy := hw0.cy
  have hct := hw0.ct
  have hlp : 1 ≤ (prnC z n).length := by
    obtain ⟨k, rfl⟩ : ∃ k, n = k + 1 := ⟨n - 1, by omega⟩
    rw [prnC, List.length_append]
    have := evb_pos (z (k - 1)) (z k)
    omega
  have hsz : s.size = m := by
    have := congrArg List.length hs
    rw [List.length_take] at this
    have h2 : s.data.toList.length = s.size := by simp
    omega
  rw [frB_len] at hm
  unfold frB frH at hs
  generalize hPP : prnC z n = P at hs hl hlp hm
  generalize hcc : crcV (tafril ++ sep 5 seq ++ sep 10 (z 0).cy ++ sep 10 (z 0).ct ++ sep 2 P.length) = ch at hs
  have hch : ch < 4294967296 := by rw [← hcc]; exact crcV_lt _
  have hcp := crcV_lt P
  generalize hcq : crcV P = cp at hs hcp
  generalize (z 0).cy = cy at hs hcy hcc
  generalize (z 0).ct = ct at hs hct hcc
  have d0 : s.data.toList.drop 0 = (mk ++ (sep 5 seq ++ (sep 10 cy ++ (sep 10 ct ++ (sep 2 P.length ++ (sep 5 ch ++ (P ++ sep 5 cp))))))).take m := by
    rw [List.drop_zero, hs]; unfold mk; simp only [List.append_assoc]
  rcases cut_step d0 with ⟨k0, c0⟩ | ⟨k0, c0⟩
  · have hk : m < 22 := k0
    have hag : agree s 0 ⟨mk.toArray⟩ = m := by
      show agrL mk (s.data.toList.drop 0) = m
      rw [c0]; exact agrL_cut mk m (by rw [mk_len]; omega)
    refine fr_two ?_
    unfold fhE
    rw [hag, if_pos hk, if_pos (by omega)]
  · have hag : agree s 0 ⟨mk.toArray⟩ = 22 := by
      show agrL mk (s.data.toList.drop 0) = 22
      rw [c0, agrL_app]; rfl
    have d1 := drop_app' (n := 22) c0 rfl
    rcases cut_step d1 with ⟨k1, c1⟩ | ⟨k1, c1⟩
    · rw [sep_len] at k1
      have e1 : fh1 s 0 = (0, 2, 22) := wrd_cut hseq k1 c1
      refine fr_two ?_
      unfold fhE
      rw [hag, e1]; rfl
    · have e1 : fh1 s 0 = (seq, 0, 27) := wrd_at hseq c1
      have d2 := drop_app' (n := 5) c1 (sep_len 5 seq)
      rcases cut_step d2 with ⟨k2, c2⟩ | ⟨k2, c2⟩
      · rw [sep_len 10] at k2
        have e2 : fh2 s 0 = (0, 2, 27) := by unfold fh2; rw [e1]; exact sget_cut (c := 10) (by decide) (by decide) (by unfold U64; omega) k2 c2
        refine fr_two ?_
        unfold fhE
        rw [hag, e1, e2]; rfl
      · have e2 : fh2 s 0 = (cy, 0, 37) := by unfold fh2; rw [e1]; exact sget_at (c := 10) (by decide) (by decide) (lt70 hcy) (by unfold U64; omega) c2
        have d3 := drop_app' (n := 10) c2 (sep_len 10 cy)
        rcases cut_step d3 with ⟨k3, c3⟩ | ⟨k3, c3⟩
        · rw [sep_len 10 ct] at k3
          have e3 : fh3 s 0 = (0, 2, 37) := by unfold fh3; rw [e2]; exact sget_cut (c := 10) (by decide) (by decide) (by unfold U64; omega) k3 c3
          refine fr_two ?_
          unfold fhE
          rw [hag, e1, e2, e3]; rfl
        · have e3 : fh3 s 0 = (ct, 0, 47) := by unfold fh3; rw [e2]; exact sget_at (c := 10) (by decide) (by decide) (lt70 hct) (by unfold U64; omega) c3
          have d4 := drop_app' (n := 10) c3 (sep_len 10 ct)
          rcases cut_step d4 with ⟨k4, c4⟩ | ⟨k4, c4⟩
          · rw [sep_len 2] at k4
            have e4 : fh4 s 0 = (0, 2, 47) := by unfold fh4; rw [e3]; exact sget_cut (c := 2) (by decide) (by decide) (by unfold U64; omega) k4 c4
            refine fr_two ?_
            unfold fhE
            rw [hag, e1, e2, e3, e4]; rfl
          · have e4 : fh4 s 0 = (P.length, 0, 49) := by unfold fh4; rw [e3]; exact sget_at (c := 2) (by decide) (by decide) (show P.length < 128 ^ 2 by omega) (by unfold U64; omega) c4
            have d5 := drop_app' (n := 2) c4 (sep_len 2 P.length)
            have hf := fhE_of hag e1 e2 e3 e4 hlp hl
            rcases cut_step d5 with ⟨k5, c5⟩ | ⟨k5, c5⟩
            · rw [sep_len 5 ch] at k5
              refine fr_two ?_
              rw [hf]
              exact smE_cut hch k5 c5
            · have hB : fhB s 0 = tafril ++ sep 5 seq ++ sep 10 cy ++ sep 10 ct ++ sep 2 P.length := by
                unfold fhB
                rw [e4, ext_take]
                have h16 : s.data.toList.drop (0 + 16) = (tafril ++ sep 5 seq ++ sep 10 cy ++ sep 10 ct ++ sep 2 P.length) ++ s.data.toList.drop 49 := by
                  have hh : s.data.toList.drop 0 = six255 ++ ((tafril ++ sep 5 seq ++ sep 10 cy ++ sep 10 ct ++ sep 2 P.length) ++ s.data.toList.drop 49) := by
                    rw [c0, ← d1, c1, ← d2, c2, ← d3, c3, ← d4, c4, ← d5]
                    unfold mk
                    simp only [List.append_assoc, Nat.zero_add, Nat.reduceAdd]
                  exact drop_app' (n := 16) hh rfl
                rw [h16, show (49 : Nat) - (0 + 16) = (tafril ++ sep 5 seq ++ sep 10 cy ++ sep 10 ct ++ sep 2 P.length).length by simp [tafril, sep_len], List.take_left]
              rw [← hcc, ← hB] at c5
              obtain ⟨s1, s2⟩ := smE_next c5
              have hfE : fhE s 0 = 0 := by rw [hf]; exact s1
              have hQ : fhQ s 0 = 54 := by unfold fhQ; rw [e4]; exact congrArg (fun x => x.2.2) s2
              have d6 := drop_app' (n := 5) c5 (sep_len 5 _)
              unfold frR
              rw [if_neg (by omega)]
              unfold fRd
              rw [show (0 : Int).toNat = 0 from rfl, if_neg (not_not_intro hfE), hQ, e4]
              simp only
              rcases Nat.lt_or_ge (s.size - 54) P.length with k6 | k6
              · rw [if_pos k6]
              · rw [if_neg (by omega)]
                rcases cut_step d6 with ⟨k7, c7⟩ | ⟨k7, c7⟩
                · simp only [sep_len] at k7
                  have : (mk ++ (sep 5 seq ++ (sep 10 cy ++ (sep 10 ct ++ (sep 2 P.length ++ (sep 5 ch ++ (P ++ sep 5 cp))))))).length = 59 + P.length := by simp [mk_len, sep_len]; omega
                  simp only [mk_len] at k7
                  omega
                · have d7 := drop_app' (n := P.length) c7 rfl
                  have hcut : smE s (54 + P.length) (fhP s 0).data.toList = 2 := by
                    refine smE_cut (n := cp) (j := m - 22 - 5 - 10 - 10 - 2 - 5 - P.length) hcp (by omega) ?_
                    have : s.data.toList.drop (54 + P.length) = _ := d7
                    rw [this]
                    simp only [mk_len, sep_len]
                  rw [hcut]
                  rfl
end Go.Proofs.Ytbfipgeoecbpaaa
/- Bursts in plain words: a burst of at most 32 bits leaves no bytes whose sum stands behind them. No program in sight. No condition. -/
namespace Go.Proofs.Ytbfipgeoecbpaaa
open Go.RowKit
set_option maxRecDepth 20000
/-- A bit of some bytes, the lowest of each first. -/
def bitL (l : List UInt8) (j : Nat) : Bool := (l.getD (j / 8) 0).toNat.testBit (j % 8)
theorem cr_split (b : Nat) : cr b = b / 2 ^^^ cr (b % 2) := by
  have h : b % 2 = 0 ∨ b % 2 = 1 := by omega
  unfold cr
  rcases h with h | h <;> rw [h] <;> simp
theorem cr_zero : cr 0 = 0 := rfl
theorem cr_even {x : Nat} (h : x % 2 = 0) : cr x = x / 2 := by unfold cr; rw [h]; simp
theorem poly_bit : (3988292384 : Nat).testBit 31 = true := by decide
theorem cr_small {x k : Nat} (hx : x < 4294967296) (hk : k ≤ 31) (h : cr x < 2 ^ k) : x % 2 = 0 ∧ x < 2 ^ (k + 1) := by
  have h2 : x % 2 = 0 ∨ x % 2 = 1 := by omega
  have hp : 2 ^ k ≤ 2 ^ 31 := Nat.pow_le_pow_right (by decide) hk
  rcases h2 with h2 | h2
  · rw [cr_even h2] at h
    refine ⟨h2, ?_⟩
    rw [Nat.pow_succ]
    omega
  · exfalso
    unfold cr at h
    rw [h2, if_pos rfl] at h
    have hb : (x / 2 ^^^ 3988292384).testBit 31 = true := by
      rw [Nat.testBit_xor, poly_bit, Nat.testBit_lt_two_pow (show x / 2 < 2 ^ 31 by omega)]
      rfl
    have := Nat.ge_two_pow_of_testBit hb
    omega
/-- The states that differ, bit by bit. -/
def dst (e : Nat → Bool) : Nat → Nat
  | 0 => 0
  | j + 1 => cr (dst e j ^^^ (e j).toNat)
theorem dst_lt (e : Nat → Bool) : ∀ j, dst e j < 4294967296
  | 0 => by unfold dst; decide
  | j + 1 => by
    rw [dst]
    refine cr_lt (Nat.xor_lt_two_pow (n := 32) (dst_lt e j) ?_)
    have := Bool.toNat_le (e j)
    omega
theorem dst_in (e : Nat → Bool) (j : Nat) : dst e j ^^^ (e j).toNat < 4294967296 := Nat.xor_lt_two_pow (n := 32) (dst_lt e j) (by have := Bool.toNat_le (e j); omega)
theorem cr_eq_zero {x : Nat} (hx : x < 4294967296) (h : cr x = 0) : x = 0 := by
  have := cr_small hx (k := 0) (by decide) (by omega)
  omega
theorem dst_zero {e : Nat → Bool} : ∀ {p : Nat}, (∀ j, j < p → e j = false) → dst e p = 0
  | 0, _ => rfl
  | p + 1, h => by rw [dst, dst_zero (fun j hj => h j (by omega)), h p (by omega)]; rfl
theorem dst_back {e : Nat → Bool} {q : Nat} (hz : ∀ j, q ≤ j → e j = false) : ∀ {m : Nat}, dst e (q + m) = 0 → dst e q = 0
  | 0, h => h
  | m + 1, h => by
    rw [← Nat.add_assoc, dst, hz (q + m) (by omega)] at h
    have := cr_eq_zero (by have := dst_lt e (q + m); simpa using this) h
    exact dst_back hz (by simpa using this)
/-- A burst leaves a state that differs. -/
theorem dst_burst {e : Nat → Bool} {p : Nat} (h0 : ∀ j, j < p → e j = false) (h1 : e p = true) (h2 : ∀ j, p + 32 ≤ j → e j = false) (m : Nat) : dst e (p + 32 + m) ≠ 0 := by
  intro h
  have hz := dst_back h2 h
  have key : ∀ k, k ≤ 31 → dst e (p + 32 - k) < 2 ^ k := by
    intro k
    induction k with
    | zero => intro _; rw [Nat.sub_zero, hz]; decide
    | succ k ih =>
      intro hk
      have i := ih (by omega)
      rw [show p + 32 - k = (p + 32 - (k + 1)) + 1 by omega, dst] at i
      have hs := (cr_small (dst_in e _) (by omega) i).2
      have hb : ((e (p + 32 - (k + 1))).toNat) < 2 ^ (k + 1) := by
        have := Bool.toNat_le (e (p + 32 - (k + 1)))
        have h2 : 2 ^ 1 ≤ 2 ^ (k + 1) := Nat.pow_le_pow_right (by decide) (by omega)
        omega
      have := Nat.xor_lt_two_pow hs hb
      rw [Nat.xor_assoc, Nat.xor_self, Nat.xor_zero] at this
      exact this
  have k31 := key 31 (by decide)
  rw [show p + 32 - 31 = p + 1 by omega, dst, dst_zero h0, h1] at k31
  exact absurd k31 (by decide)
/-- Eight bits are a byte. -/
def feedB : Nat → Nat → Nat → Nat
  | 0, x, _ => x
  | n + 1, x, b => feedB n (cr (x ^^^ b % 2)) (b / 2)
theorem feedB_eq : ∀ (n x b : Nat), b < 2 ^ n → feedB n x b = crN n (x ^^^ b)
  | 0, x, b, h => by
    have : b = 0 := by simpa using h
    subst this
    simp [feedB, crN]
  | n + 1, x, b, h => by
    rw [feedB, feedB_eq n _ _ (by rw [Nat.pow_succ] at h; omega), crN, cr_xor, cr_xor, cr_split b, Nat.xor_assoc, Nat.xor_comm (cr (b % 2))]
/-- The state of some bytes, bit by bit. -/
def stt (x : Nat) (f : Nat → Bool) : Nat → Nat
  | 0 => x
  | j + 1 => cr (stt x f j ^^^ (f j).toNat)
theorem stt_feed (x : Nat) (f : Nat → Bool) (j : Nat) : ∀ (n i b : Nat), (∀ t, t < n → f (j + i + t) = b.testBit t) → stt x f (j + i + n) = feedB n (stt x f (j + i)) b
  | 0, _, _, _ => rfl
  | n + 1, i, b, h => by
    have h0 := h 0 (by omega)
    rw [Nat.testBit_zero] at h0
    have := stt_feed x f j n (i + 1) (b / 2) (fun t ht => by
      have := h (t + 1) (by omega)
      rw [Nat.testBit_succ] at this
      rw [← this]
      congr 1
      omega)
    rw [show j + i + (n + 1) = j + (i + 1) + n by omega, this, feedB, ← Nat.add_assoc, stt]
    rw [Nat.add_zero] at h0
    rw [h0]
    congr 2
    have hb : b % 2 = 0 ∨ b % 2 = 1 := by omega
    rcases hb with hb | hb <;> rw [hb] <;> rfl
theorem stt_crc (x : Nat) (l : List UInt8) : ∀ k, k ≤ l.length → stt x (bitL l) (8 * k) = crcL x (l.take k)
  | 0, _ => by simp [stt, crcL]
  | k + 1, h => by
    have hk : k < l.length := by omega
    have hb : (l[k]).toNat < 2 ^ 8 := l[k].toNat_lt
    have := stt_feed x (bitL l) (8 * k) 8 0 (l[k]).toNat (fun t ht => by
      unfold bitL
      rw [show (8 * k + 0 + t) / 8 = k by omega, show (8 * k + 0 + t) % 8 = t by omega, List.getD_eq_getElem?_getD, List.getElem?_eq_getElem hk]
      rfl)
    rw [show 8 * (k + 1) = 8 * k + 0 + 8 by omega, this, Nat.add_zero, stt_crc x l k (by omega), feedB_eq 8 _ _ hb, List.take_succ_eq_append_getElem hk, crcL_snoc]
    rfl
theorem stt_diff {x : Nat} {f g : Nat → Bool} : ∀ j, stt x f j ^^^ stt x g j = dst (fun i => f i != g i) j
  | 0 => by simp [stt, dst]
  | j + 1 => by
    rw [stt, stt, dst, ← stt_diff j, ← cr_xor]
    congr 1
    have : (f j != g j).toNat = (f j).toNat ^^^ (g j).toNat := by cases f j <;> cases g j <;> rfl
    rw [this]
    simp only [Nat.xor_assoc]
    congr 1
    rw [← Nat.xor_assoc, Nat.xor_comm (f j).toNat, Nat.xor_assoc]
theorem dst_congr {e f : Nat → Bool} : ∀ {n : Nat}, (∀ j, j < n → e j = f j) → dst e n = dst f n
  | 0, _ => rfl
  | n + 1, h => by rw [dst, dst, dst_congr (fun j hj => h j (by omega)), h n (by omega)]
theorem dst_stay {e : Nat → Bool} {q : Nat} (h : dst e q = 0) (hz : ∀ j, q ≤ j → e j = false) : ∀ m, dst e (q + m) = 0
  | 0 => h
  | m + 1 => by rw [← Nat.add_assoc, dst, dst_stay h hz m, hz _ (by omega)]; rfl
theorem cr_odd (z : Nat) : cr (z ^^^ (z.testBit 0).toNat) = z / 2 := by
  rw [cr_xor, cr_split z, Nat.testBit_zero]
  have h : z % 2 = 0 ∨ z % 2 = 1 := by omega
  rcases h with h | h <;> rw [h]
  · simp [cr]
  · rw [Nat.xor_assoc]
    simp
/-- Two rows of bytes, and behind them the bits of what their sums differ by. -/
def estr (X Y : List UInt8) (j : Nat) : Bool := if j < 8 * X.length then bitL X j != bitL Y j else (crcV X ^^^ crcV Y).testBit (j - 8 * X.length)
theorem estr_sum {X Y : List UInt8} (hl : X.length = Y.length) : dst (estr X Y) (8 * X.length) = crcV X ^^^ crcV Y := by
  have h1 : dst (estr X Y) (8 * X.length) = dst (fun i => bitL X i != bitL Y i) (8 * X.length) := dst_congr fun j hj => by unfold estr; rw [if_pos hj]
  rw [h1, ← stt_diff (x := 4294967295), stt_crc _ X X.length (Nat.le_refl _), hl, stt_crc _ Y Y.length (Nat.le_refl _), ← hl, List.take_length, hl, List.take_length]
  unfold crcV
  simp only [Nat.xor_assoc]
  congr 1
  rw [Nat.xor_comm (crcL 4294967295 Y), ← Nat.xor_assoc, Nat.xor_self, Nat.zero_xor]
theorem estr_tail {X Y : List UInt8} (hl : X.length = Y.length) : ∀ t, dst (estr X Y) (8 * X.length + t) = (crcV X ^^^ crcV Y) / 2 ^ t
  | 0 => by rw [Nat.add_zero, estr_sum hl]; simp
  | t + 1 => by
    rw [← Nat.add_assoc, dst, estr_tail hl t]
    have : estr X Y (8 * X.length + t) = ((crcV X ^^^ crcV Y) / 2 ^ t).testBit 0 := by
      unfold estr
      rw [if_neg (by omega), Nat.add_sub_cancel_left, Nat.testBit_div_two_pow]
      congr 1
      omega
    rw [this, cr_odd, Nat.div_div_eq_div_mul, ← Nat.pow_succ]
theorem estr_end {X Y : List UInt8} (hl : X.length = Y.length) (m : Nat) : dst (estr X Y) (8 * X.length + 32 + m) = 0 := by
  have hy : crcV X ^^^ crcV Y < 2 ^ 32 := Nat.xor_lt_two_pow (crcV_lt X) (crcV_lt Y)
  refine dst_stay ?_ ?_ m
  · rw [estr_tail hl 32]; exact Nat.div_eq_of_lt hy
  · intro j hj
    unfold estr
    rw [if_neg (by omega)]
    refine Nat.testBit_lt_two_pow (Nat.lt_of_lt_of_le hy (Nat.pow_le_pow_right (by decide) (by omega)))
theorem bits_eq {X Y : List UInt8} (hl : X.length = Y.length) (h : ∀ j, j < 8 * X.length → bitL X j = bitL Y j) : X = Y := by
  refine List.ext_getElem hl fun k h1 h2 => ?_
  refine UInt8.toNat_inj.1 (Nat.eq_of_testBit_eq fun i => ?_)
  rcases Nat.lt_or_ge i 8 with hi | hi
  · have := h (8 * k + i) (by omega)
    unfold bitL at this
    rw [show (8 * k + i) / 8 = k by omega, show (8 * k + i) % 8 = i by omega, List.getD_eq_getElem?_getD, List.getD_eq_getElem?_getD, List.getElem?_eq_getElem h1, List.getElem?_eq_getElem h2] at this
    exact this
  · have e : ∀ u : UInt8, u.toNat.testBit i = false := fun u => Nat.testBit_lt_two_pow (Nat.lt_of_lt_of_le u.toNat_lt (show 2 ^ 8 ≤ 2 ^ i from Nat.pow_le_pow_right (by decide) hi))
    rw [e, e]
/-- Sums don't miss a burst. -/
theorem crc_burst {X Y : List UInt8} (hl : X.length = Y.length) (hw : ∀ i j, estr X Y i = true → estr X Y j = true → j < i + 32) : X = Y := by
  by_cases hx : ∃ p, estr X Y p = true
  · exfalso
    obtain ⟨p, hp, hmin⟩ : ∃ p, estr X Y p = true ∧ ∀ j, j < p → estr X Y j = false := by
      obtain ⟨p, hp⟩ := hx
      induction p using Nat.strongRecOn with
      | _ p ih =>
        by_cases h : ∃ q, q < p ∧ estr X Y q = true
        · obtain ⟨q, hq, hq2⟩ := h
          exact ih q hq hq2
        · exact ⟨p, hp, fun j hj => by
            cases hj2 : estr X Y j with
            | false => rfl
            | true => exact absurd ⟨j, hj, hj2⟩ h⟩
    refine dst_burst hmin hp (fun j hj => ?_) (8 * X.length + 32) ?_
    · cases hj2 : estr X Y j with
      | false => rfl
      | true => have := hw p j hp hj2; omega
    · rw [show p + 32 + (8 * X.length + 32) = 8 * X.length + 32 + (p + 32) by omega]
      exact estr_end hl _
  · refine bits_eq hl fun j hj => ?_
    cases h : estr X Y j with
    | true => exact absurd ⟨j, h⟩ hx
    | false =>
      unfold estr at h
      rw [if_pos hj] at h
      simpa using h
theorem sep_bit : ∀ (c n q r : Nat), q < c → r < 7 → ((sep c n).getD q 0).toNat.testBit r = n.testBit (7 * q + r)
  | c + 1, n, 0, r, _, hr => by
    rw [sep, List.getD_cons_zero]
    have : (UInt8.ofNat (n % 128)).toNat = n % 2 ^ 7 := by simp; omega
    rw [this, Nat.testBit_mod_two_pow, Nat.mul_zero, Nat.zero_add]
    simp [hr]
  | c + 1, n, q + 1, r, hq, hr => by
    rw [sep, List.getD_cons_succ, sep_bit c (n / 128) q r (by omega) hr, show n / 128 = n / 2 ^ 7 from rfl, Nat.testBit_div_two_pow]
    congr 1
    omega
theorem bitL_left {X Y : List UInt8} {j : Nat} (h : j < 8 * X.length) : bitL (X ++ Y) j = bitL X j := by
  unfold bitL
  rw [List.getD_eq_getElem?_getD, List.getElem?_append_left (by omega), ← List.getD_eq_getElem?_getD]
theorem bitL_right {X Y : List UInt8} (j : Nat) : bitL (X ++ Y) (8 * X.length + j) = bitL Y j := by
  unfold bitL
  rw [List.getD_eq_getElem?_getD, List.getElem?_append_right (by omega), ← List.getD_eq_getElem?_getD, show (8 * X.length + j) / 8 - X.length = j / 8 by omega, show (8 * X.length + j) % 8 = j % 8 by omega]
/-- Bytes and their sum, off by a burst: they are the same. -/
theorem burst_eq {X Y : List UInt8} {a off : Nat} (hl : X.length = Y.length)
    (hn : ∀ j, j < 8 * X.length + 40 → ¬ (a ≤ off + j ∧ off + j < a + 32) → bitL (X ++ sep 5 (crcV X)) j = bitL (Y ++ sep 5 (crcV Y)) j) : X = Y := by
  refine crc_burst hl ?_
  have key : ∀ i, estr X Y i = true → ∃ p, a ≤ off + p ∧ off + p < a + 32 ∧ (i < 8 * X.length → p = i) ∧ (8 * X.length ≤ i → p = 8 * X.length + 8 * ((i - 8 * X.length) / 7) + (i - 8 * X.length) % 7) := by
    intro i hi
    rcases Nat.lt_or_ge i (8 * X.length) with h | h
    · refine ⟨i, ?_⟩
      by_cases hw : a ≤ off + i ∧ off + i < a + 32
      · exact ⟨hw.1, hw.2, fun _ => rfl, fun h2 => by omega⟩
      · have := hn i (by omega) hw
        rw [bitL_left h, bitL_left (by omega)] at this
        unfold estr at hi
        rw [if_pos h, this] at hi
        simp at hi
    · obtain ⟨t, rfl⟩ : ∃ t, i = 8 * X.length + t := ⟨i - 8 * X.length, by omega⟩
      have hy : crcV X ^^^ crcV Y < 2 ^ 32 := Nat.xor_lt_two_pow (crcV_lt X) (crcV_lt Y)
      unfold estr at hi
      rw [if_neg (by omega), Nat.add_sub_cancel_left] at hi
      have ht : t < 32 := by
        rcases Nat.lt_or_ge t 32 with h2 | h2
        · exact h2
        · rw [Nat.testBit_lt_two_pow (Nat.lt_of_lt_of_le hy (Nat.pow_le_pow_right (by decide) h2))] at hi
          exact absurd hi (by decide)
      rw [Nat.add_sub_cancel_left]
      refine ⟨8 * X.length + (8 * (t / 7) + t % 7), ?_⟩
      by_cases hw : a ≤ off + (8 * X.length + (8 * (t / 7) + t % 7)) ∧ off + (8 * X.length + (8 * (t / 7) + t % 7)) < a + 32
      · exact ⟨hw.1, hw.2, fun h2 => by omega, fun _ => by omega⟩
      · have := hn _ (by omega) hw
        rw [bitL_right, hl, bitL_right] at this
        unfold bitL at this
        rw [show (8 * (t / 7) + t % 7) / 8 = t / 7 by omega, show (8 * (t / 7) + t % 7) % 8 = t % 7 by omega, sep_bit 5 _ _ _ (by omega) (by omega), sep_bit 5 _ _ _ (by omega) (by omega), show 7 * (t / 7) + t % 7 = t by omega] at this
        rw [Nat.testBit_xor, this] at hi
        simp at hi
  intro i j hi hj
  obtain ⟨p, p1, p2, p3, p4⟩ := key i hi
  obtain ⟨q, q1, q2, q3, q4⟩ := key j hj
  rcases Nat.lt_or_ge i (8 * X.length) with h | h
  · rcases Nat.lt_or_ge j (8 * X.length) with h2 | h2
    · have := p3 h; have := q3 h2; omega
    · have := p3 h; have := q4 h2; omega
  · rcases Nat.lt_or_ge j (8 * X.length) with h2 | h2
    · omega
    · have := p4 h; have := q4 h2; omega
/-! ### a frame behind a burst -/
theorem bitL_drop (l : List UInt8) (k j : Nat) : bitL (l.drop k) j = bitL l (8 * k + j) := by
  unfold bitL
  rw [List.getD_eq_getElem?_getD, List.getElem?_drop, ← List.getD_eq_getElem?_getD, show (8 * k + j) / 8 = k + j / 8 by omega, show (8 * k + j) % 8 = j % 8 by omega]
theorem sep2_inj {a b : Nat} (ha : a ≤ 120) (hb : b ≤ 120) (h : sep 2 a = sep 2 b) : a = b := by
  simp only [sep, List.cons.injEq] at h
  have h1 := congrArg UInt8.toNat h.1
  simp at h1
  omega
theorem fr_burst {s : ByteArray} {seq n a : Nat} {z : Nat → Ev} (hE : frE z n = 0) (hsz : s.size = (frB seq z n).length)
    (hn : ∀ j, ¬ (a ≤ j ∧ j < a + 32) → bitL (frB seq z n) j = bitL s.data.toList j)
    {seq' nx : Nat} {l : List Ev} (h : frR s 0 = (0, seq', l, nx)) : s.data.toList = frB seq z n := by
  obtain ⟨hn0, hp0, hl0⟩ := frE_zero hE
  have hR : fRd s 0 = (0, seq', l, nx) := by
    unfold frR at h
    rw [if_neg (by omega)] at h
    exact h
  obtain ⟨_, hnx, hwf, hE', hS⟩ := fRd_spell (Nat.zero_le _) hR
  obtain ⟨hn1, hp1, hl1⟩ := frE_zero hE'
  unfold frS at hS
  rw [if_pos hE', ext_take, List.drop_zero, Nat.sub_zero] at hS
  have hs : s.data.toList = frB seq' (fun i => l.getD i default) l.length ++ s.data.toList.drop nx := by rw [hS, List.take_append_drop]
  generalize (fun i => l.getD i default) = z' at hs hE' hp1 hl1 hwf
  generalize s.data.toList.drop nx = R at hs
  have hL : s.data.toList.length = s.size := by simp
  rw [hsz] at hL
  generalize s.data.toList = S at hs hL hn
  subst hs
  unfold frB at hn hL ⊢
  have e1 : (crcV (frH seq (z 0).cy (z 0).ct (prnC z n).length)) < 4294967296 := crcV_lt _
  generalize (z 0).cy = cy at *
  generalize (z 0).ct = ct at *
  generalize (z' 0).cy = cy' at *
  generalize (z' 0).ct = ct' at *
  generalize prnC z n = P at *
  generalize prnC z' l.length = P' at *
  have hH1 := frH_len seq cy ct P.length
  have hH2 := frH_len seq' cy' ct' P'.length
  have bits : ∀ k j, ¬ (a ≤ 8 * k + j ∧ 8 * k + j < a + 32) → bitL ((six255 ++ frH seq cy ct P.length ++ sep 5 (crcV (frH seq cy ct P.length)) ++ P ++ sep 5 (crcV P)).drop k) j = bitL ((six255 ++ frH seq' cy' ct' P'.length ++ sep 5 (crcV (frH seq' cy' ct' P'.length)) ++ P' ++ sep 5 (crcV P') ++ R).drop k) j := by
    intro k j hw
    rw [bitL_drop, bitL_drop]
    exact hn _ hw
  have d16a : (six255 ++ frH seq cy ct P.length ++ sep 5 (crcV (frH seq cy ct P.length)) ++ P ++ sep 5 (crcV P)).drop 16 = (frH seq cy ct P.length ++ sep 5 (crcV (frH seq cy ct P.length))) ++ (P ++ sep 5 (crcV P)) := by
    simp only [List.append_assoc]
    exact drop_app' (p := 0) (n := 16) (by simp only [List.drop_zero]; rfl) rfl
  have d16b : (six255 ++ frH seq' cy' ct' P'.length ++ sep 5 (crcV (frH seq' cy' ct' P'.length)) ++ P' ++ sep 5 (crcV P') ++ R).drop 16 = (frH seq' cy' ct' P'.length ++ sep 5 (crcV (frH seq' cy' ct' P'.length))) ++ (P' ++ sep 5 (crcV P') ++ R) := by
    simp only [List.append_assoc]
    exact drop_app' (p := 0) (n := 16) (by simp only [List.drop_zero]; rfl) rfl
  have b16 := bits 16
  rw [d16a, d16b] at b16
  have hlen : ∀ s c (p : List UInt8) l, (frH s c l p.length ++ sep 5 (crcV (frH s c l p.length))).length = 38 := fun s c p l => by rw [List.length_append, frH_len, sep_len]
  have hH : frH seq cy ct P.length = frH seq' cy' ct' P'.length := by
    refine burst_eq (a := a) (off := 128) (by rw [hH1, hH2]) fun j hj hw => ?_
    rw [hH1] at hj
    have := b16 j hw
    rw [bitL_left (X := frH seq cy ct P.length ++ _) (by rw [List.length_append, frH_len, sep_len]; omega), bitL_left (X := frH seq' cy' ct' P'.length ++ _) (by rw [List.length_append, frH_len, sep_len]; omega)] at this
    exact this
  have hPl : P.length = P'.length := by
    refine sep2_inj hl0 hl1 ?_
    have h31 : ∀ s c l p, (frH s c l p).drop 31 = sep 2 p := fun s c l p => by
      unfold frH
      exact drop_app' (p := 0) (n := 31) (by rw [List.drop_zero]) (by simp only [List.length_append, sep_len]; rfl)
    rw [← h31 seq cy ct P.length, ← h31 seq' cy' ct' P'.length, hH]
  have d54a : (six255 ++ frH seq cy ct P.length ++ sep 5 (crcV (frH seq cy ct P.length)) ++ P ++ sep 5 (crcV P)).drop 54 = P ++ sep 5 (crcV P) := by
    rw [show 54 = 16 + 38 from rfl, ← List.drop_drop, d16a]
    exact drop_app' (p := 0) (n := 38) (by rw [List.drop_zero]) (hlen _ _ _ _)
  have d54b : (six255 ++ frH seq' cy' ct' P'.length ++ sep 5 (crcV (frH seq' cy' ct' P'.length)) ++ P' ++ sep 5 (crcV P') ++ R).drop 54 = (P' ++ sep 5 (crcV P')) ++ R := by
    rw [show 54 = 16 + 38 from rfl, ← List.drop_drop, d16b]
    exact drop_app' (p := 0) (n := 38) (by rw [List.drop_zero]) (hlen _ _ _ _)
  have b54 := bits 54
  rw [d54a, d54b] at b54
  have hP : P = P' := by
    refine burst_eq (a := a) (off := 432) hPl fun j hj hw => ?_
    have := b54 j hw
    rw [bitL_left (X := P' ++ _) (by rw [List.length_append, sep_len]; omega)] at this
    exact this
  subst hP
  rw [← hH] at hL ⊢
  have hR0 : R = [] := by
    simp only [List.length_append] at hL
    exact List.length_eq_zero_iff.1 (by omega)
  rw [hR0, List.append_nil]
/-! ### Spoil in plain words -/
def flip (l : List UInt8) (j : Nat) : List UInt8 := l.set (j / 8) ((l.getD (j / 8) 0) ^^^ UInt8.ofNat (2 ^ (j % 8)))
def spo : Nat → List UInt8 → Nat → Nat → Bool → List UInt8 × Bool
  | 0, l, _, _, any => (l, any)
  | k + 1, l, j, pt, any => if pt % 2 = 1 ∧ j / 8 < l.length then spo k (flip l j) (j + 1) (pt / 2) true else spo k l (j + 1) (pt / 2) any
theorem flip_len (l : List UInt8) (j : Nat) : (flip l j).length = l.length := by unfold flip; simp
theorem bitL_flip {l : List UInt8} {j : Nat} (h : j / 8 < l.length) (i : Nat) : bitL (flip l j) i = (bitL l i != decide (i = j)) := by
  unfold bitL flip
  rw [List.getD_eq_getElem?_getD, List.getElem?_set]
  by_cases e : j / 8 = i / 8
  · rw [if_pos e, if_pos h, Option.getD_some, UInt8.toNat_xor, Nat.testBit_xor, ← e]
    have h8 : 2 ^ (j % 8) < 2 ^ 8 := Nat.pow_lt_pow_right (by decide) (by omega)
    have : (UInt8.ofNat (2 ^ (j % 8))).toNat = 2 ^ (j % 8) := by rw [UInt8.toNat_ofNat']; exact Nat.mod_eq_of_lt h8
    rw [this, Nat.testBit_two_pow]
    have e2 : decide (j % 8 = i % 8) = decide (i = j) := by
      refine decide_eq_decide.2 ?_
      omega
    rw [e2]
  · rw [if_neg e, ← List.getD_eq_getElem?_getD]
    have : decide (i = j) = false := decide_eq_false (by intro h; exact e (by rw [h]))
    rw [this]
    cases ((l.getD (i / 8) 0).toNat.testBit (i % 8)) <;> rfl
theorem spo_len : ∀ (k : Nat) (l : List UInt8) (j pt : Nat) (any : Bool), (spo k l j pt any).1.length = l.length
  | 0, _, _, _, _ => rfl
  | k + 1, l, j, pt, any => by
    rw [spo]
    split
    · rw [spo_len k, flip_len]
    · rw [spo_len k]
theorem spo_near : ∀ (k : Nat) (l : List UInt8) (j pt : Nat) (any : Bool) (i : Nat), ¬ (j ≤ i ∧ i < j + k) → bitL (spo k l j pt any).1 i = bitL l i
  | 0, _, _, _, _, _, _ => rfl
  | k + 1, l, j, pt, any, i, h => by
    rw [spo]
    split
    · rename_i hc
      rw [spo_near k _ _ _ _ _ (by omega), bitL_flip hc.2, decide_eq_false (by omega : ¬ i = j)]
      simp
    · rw [spo_near k _ _ _ _ _ (by omega)]
theorem spo_any : ∀ (k : Nat) (l : List UInt8) (j pt : Nat) (any : Bool), ((spo k l j pt any).2 = any ∧ (spo k l j pt any).1 = l) ∨ ((spo k l j pt any).2 = true ∧ (spo k l j pt any).1 ≠ l)
  | 0, _, _, _, _ => .inl ⟨rfl, rfl⟩
  | k + 1, l, j, pt, any => by
    rw [spo]
    split
    · rename_i hc
      refine .inr ⟨?_, fun h => ?_⟩
      · rcases spo_any k (flip l j) (j + 1) (pt / 2) true with h | h
        · exact h.1
        · exact h.1
      · have := spo_near k (flip l j) (j + 1) (pt / 2) true j (by omega)
        rw [h, bitL_flip hc.2, decide_eq_true rfl] at this
        cases hb : bitL l j <;> rw [hb] at this <;> exact absurd this (by decide)
    · exact spo_any k l (j + 1) (pt / 2) any
end Go.Proofs.Ytbfipgeoecbpaaa
