/- Plain laws of frames: what is read is printed; what is printed is read. No program in sight. No condition. -/
import Derived.Test.YthdenjokedmcfaaFr
import Derived.Test.YthdenjokedmcfaaCoilL
namespace Go.Proofs.Ythdenjokedmcfaa
open Go.RowKit
set_option maxRecDepth 20000
theorem agrL_full : ∀ (t r : List UInt8), agrL t r = t.length → r = t ++ r.drop t.length
  | [], r, _ => by simp
  | a :: t, [], h => by simp [agrL] at h
  | a :: t, b :: r, h => by
    rw [agrL] at h
    split at h
    · rename_i e
      subst e
      have := agrL_full t r (by simpa using h)
      rw [List.cons_append, List.length_cons, List.drop_succ_cons, ← this]
    · simp at h
theorem agrL_app : ∀ (t r : List UInt8), agrL t (t ++ r) = t.length
  | [], r => by simp [agrL]
  | a :: t, r => by rw [List.cons_append, agrL, if_pos rfl, agrL_app t r]; rfl
theorem sget_spell {s : ByteArray} {p c n q : Nat} (hc1 : 1 ≤ c) (hc : c ≤ 10) (hp : p ≤ s.size) (h : sget s p (c : Int) = (n, 0, q)) : q = p + c ∧ p + c ≤ s.size ∧ s.data.toList.drop p = sep c n ++ s.data.toList.drop q := by
  unfold sget at h
  rw [if_neg (by omega)] at h
  simp only [Int.toNat_natCast] at h
  have hn := sgo_next s p c 0 0 hp (by omega)
  rw [h] at hn
  have hq : q = p + c := by have := hn.2.2 rfl; simpa using this
  obtain ⟨_, m, h1, h2⟩ := sgo_one s p c 0 0 n 0 q (by omega) (by decide) h rfl
  obtain rfl : m = n := by omega
  refine ⟨hq, by rw [← hq]; exact hn.1, ?_⟩
  rw [Nat.add_zero] at h2
  rw [hq, h2, ← List.drop_drop]
  exact (List.take_append_drop _ _).symm
theorem sget_at {s : ByteArray} {p c n : Nat} {post : List UInt8} (hc1 : 1 ≤ c) (hc : c ≤ 10) (hn : n < 128 ^ c) (hu : n < U64) (hd : s.data.toList.drop p = sep c n ++ post) : sget s p (c : Int) = (n, 0, p + c) := by
  have := sgo_back s p c n 0 0 post (by omega) hn (by simpa using hu) (by simpa using hu) (by simpa using hd)
  unfold sget
  rw [if_neg (by omega)]
  simpa using this
theorem wrd_spell {s : ByteArray} {p n q : Nat} (hp : p ≤ s.size) (h : wrd s p = (n, 0, q)) : q = p + 5 ∧ p + 5 ≤ s.size ∧ s.data.toList.drop p = sep 5 n ++ s.data.toList.drop q := by
  unfold wrd at h
  split at h
  · cases h
  · exact sget_spell (c := 5) (by decide) (by decide) hp h
theorem wrd_at {s : ByteArray} {p n : Nat} {post : List UInt8} (hn : n < 4294967296) (hd : s.data.toList.drop p = sep 5 n ++ post) : wrd s p = (n, 0, p + 5) := by
  have := sget_at (c := 5) (by decide) (by decide) (show n < 128 ^ 5 by omega) (by unfold U64; omega) hd
  unfold wrd
  rw [show (5 : Int) = ((5 : Nat) : Int) from rfl, this, if_neg (by simp only; omega)]
theorem smE_zero {s : ByteArray} {p : Nat} {l : List UInt8} (h : smE s p l = 0) : wrd s p = (crcV l, 0, (wrd s p).2.2) := by
  unfold smE at h
  split at h
  · cases h
  · rename_i hn
    generalize wrd s p = r at h hn ⊢
    obtain ⟨n, e, q⟩ := r
    simp only at h hn ⊢
    subst h
    by_cases hc : n = crcV l
    · rw [hc]
    · exact absurd ⟨rfl, hc⟩ hn
theorem smE_at {s : ByteArray} {p : Nat} {l post : List UInt8} (hd : s.data.toList.drop p = sep 5 (crcV l) ++ post) : smE s p l = 0 ∧ (wrd s p).2.2 = p + 5 := by
  have := wrd_at (crcV_lt l) hd
  unfold smE
  rw [this]
  exact ⟨if_neg fun x => x.2 rfl, rfl⟩
theorem drop_app' {l a b : List UInt8} {p n : Nat} (h : l.drop p = a ++ b) (hn : a.length = n) : l.drop (p + n) = b := by
  rw [← hn, ← List.drop_drop, h]; simp
theorem ext_take (s : ByteArray) (p q : Nat) : (s.extract p q).data.toList = (s.data.toList.drop p).take (q - p) := by
  rw [ByteArray.data_extract, Array.toList_extract]
theorem fhE_parts {s : ByteArray} {p : Nat} (h : fhE s p = 0) : agree s p ⟨mk.toArray⟩ = 22 ∧ (fh1 s p).2.1 = 0 ∧ (fh2 s p).2.1 = 0 ∧ (fh3 s p).2.1 = 0 ∧ (fh4 s p).2.1 = 0 ∧ 1 ≤ (fh4 s p).1 ∧ (fh4 s p).1 ≤ 120 ∧ smE s (fh4 s p).2.2 (fhB s p) = 0 := by
  have hag := agrL_le mk (s.data.toList.drop p)
  have hag2 : agree s p ⟨mk.toArray⟩ ≤ 22 := hag.1
  unfold fhE at h
  by_cases c0 : agree s p ⟨mk.toArray⟩ < 22
  · rw [if_pos c0] at h
    split at h <;> cases h
  · rw [if_neg c0] at h
    split at h
    · rename_i h1; exact absurd h h1
    · split at h
      · rename_i h1; exact absurd h h1
      · split at h
        · rename_i h1; exact absurd h h1
        · split at h
          · rename_i h1; exact absurd h h1
          · split at h
            · cases h
            · refine ⟨by omega, by omega, by omega, by omega, by omega, by omega, by omega, h⟩
theorem frB_len (seq : Nat) (z : Nat → Ev) (n : Nat) : (frB seq z n).length = 59 + (prnC z n).length := by
  unfold frB six255
  simp only [List.length_append, List.length_replicate, frH_len, sep_len]
  omega
theorem getD_zero {l : List Ev} {f : Nat → Ev} : (fun i => l.getD i default) 0 = l.getD 0 default := rfl
/-- What is read as a frame is printed again as it was. -/
theorem fRd_spell {s : ByteArray} {p : Nat} (hp : p ≤ s.size) {seq nx : Nat} {l : List Ev} (h : fRd s p = (0, seq, l, nx)) :
    p ≤ nx ∧ nx ≤ s.size ∧ (∀ i, i < l.length → (l.getD i default).Wf) ∧ frE (fun i => l.getD i default) l.length = 0 ∧ frS seq (fun i => l.getD i default) l.length = (s.extract p nx).data.toList := by
  unfold fRd at h
  split at h
  · rename_i hE
    have e := congrArg Prod.fst h
    simp only at e
    exact absurd (show fhE s p = 0 by omega) hE
  · rename_i hE
    have hE : fhE s p = 0 := by simpa using hE
    obtain ⟨hag, a1, a2, a3, a4, b1, b2, b3⟩ := fhE_parts hE
    split at h
    · cases h
    · rename_i hsz
      split at h
      · rename_i hs2
        have e := congrArg Prod.fst h
        simp only at e
        exact absurd (show smE s (fhQ s p + (fh4 s p).1) (fhP s p).data.toList = 0 by omega) hs2
      · rename_i hs2
        have hs2 : smE s (fhQ s p + (fh4 s p).1) (fhP s p).data.toList = 0 := by simpa using hs2
        split at h
        · rename_i hr
          have e := congrArg Prod.fst h
          simp only at e
          exact absurd e hr
        · rename_i hr
          have hr : (rdL (fhP s p) (fhP s p).size (fh2 s p).1 (fh3 s p).1 0).2 = 0 := by simpa using hr
          split at h
          · cases h
          · rename_i hst
            obtain ⟨hst1, hst2⟩ : ((rdL (fhP s p) (fhP s p).size (fh2 s p).1 (fh3 s p).1 0).1.getD 0 default).cy = (fh2 s p).1 ∧ ((rdL (fhP s p) (fhP s p).size (fh2 s p).1 (fh3 s p).1 0).1.getD 0 default).ct = (fh3 s p).1 := by
              constructor
              · exact Classical.byContradiction fun x => hst (.inl x)
              · exact Classical.byContradiction fun x => hst (.inr x)
            have hl : (rdL (fhP s p) (fhP s p).size (fh2 s p).1 (fh3 s p).1 0).1 = l := congrArg (fun x => x.2.2.1) h
            have hseq : (fh1 s p).1 = seq := congrArg (fun x => x.2.1) h
            have hnx : (wrd s (fhQ s p + (fh4 s p).1)).2.2 = nx := congrArg (fun x => x.2.2.2) h
            -- the bytes
            have hagl := agrL_le mk (s.data.toList.drop p)
            have hdl : (s.data.toList.drop p).length = s.size - p := by simp
            have hp22 : p + 22 ≤ s.size := by
              have h1 : agree s p ⟨mk.toArray⟩ ≤ s.size - p := by rw [← hdl]; exact hagl.2
              omega
            have d0 : s.data.toList.drop p = mk ++ s.data.toList.drop (p + 22) := by
              have := agrL_full mk (s.data.toList.drop p) hag
              rw [List.drop_drop] at this
              exact this
            obtain ⟨v1, e1, q1⟩ : ∃ a b, fh1 s p = (a, 0, b) := ⟨(fh1 s p).1, (fh1 s p).2.2, by rw [← a1]⟩
            obtain ⟨v2, q2, e2⟩ : ∃ a b, fh2 s p = (a, 0, b) := ⟨(fh2 s p).1, (fh2 s p).2.2, by rw [← a2]⟩
            obtain ⟨v3, q3, e3⟩ : ∃ a b, fh3 s p = (a, 0, b) := ⟨(fh3 s p).1, (fh3 s p).2.2, by rw [← a3]⟩
            obtain ⟨v4, q4, e4⟩ : ∃ a b, fh4 s p = (a, 0, b) := ⟨(fh4 s p).1, (fh4 s p).2.2, by rw [← a4]⟩
            obtain ⟨r1, t1, d1⟩ := wrd_spell hp22 q1
            have e2' : sget s e1 ((10 : Nat) : Int) = (v2, 0, q2) := by rw [← e2]; unfold fh2; rw [q1]; rfl
            obtain ⟨r2, t2, d2⟩ := sget_spell (by decide) (by decide) (by omega) e2'
            have e3' : sget s q2 ((10 : Nat) : Int) = (v3, 0, q3) := by rw [← e3]; unfold fh3; rw [e2]; rfl
            obtain ⟨r3, t3, d3⟩ := sget_spell (by decide) (by decide) (by omega) e3'
            have e4' : sget s q3 ((2 : Nat) : Int) = (v4, 0, q4) := by rw [← e4]; unfold fh4; rw [e3]; rfl
            obtain ⟨r4, t4, d4⟩ := sget_spell (by decide) (by decide) (by omega) e4'
            have hB : fhB s p = frH v1 v2 v3 v4 := by
              unfold fhB
              rw [e4, ext_take]
              have h16 : s.data.toList.drop (p + 16) = tafril ++ s.data.toList.drop (p + 22) := by
                have := drop_app' (n := 16) (show s.data.toList.drop p = six255 ++ (tafril ++ s.data.toList.drop (p + 22)) by rw [d0]; rfl) rfl
                exact this
              rw [h16, d1, d2, d3, d4]
              have e9 : tafril ++ (sep 5 v1 ++ (sep 10 v2 ++ (sep 10 v3 ++ (sep 2 v4 ++ s.data.toList.drop q4)))) = frH v1 v2 v3 v4 ++ s.data.toList.drop q4 := by unfold frH; simp only [List.append_assoc]
              rw [e9, show q4 - (p + 16) = (frH v1 v2 v3 v4).length by rw [frH_len]; omega, List.take_left]
            rw [e4] at b1 b2 b3 hs2 hsz hnx
            simp only at b1 b2 b3 hs2 hsz hnx
            rw [hB] at b3
            have b3' := smE_zero b3
            obtain ⟨r5, t5, d5⟩ := wrd_spell (by omega) b3'
            have hQ : fhQ s p = q4 + 5 := by unfold fhQ; rw [e4]; exact r5
            rw [hQ] at hsz hs2 hnx
            have hq5 : (wrd s q4).2.2 = q4 + 5 := r5
            rw [hq5] at d5
            have hPd : (fhP s p).data.toList = (s.data.toList.drop (q4 + 5)).take v4 := by
              unfold fhP
              rw [hQ, e4, ext_take]
              simp
            have hPs : (fhP s p).size = v4 := by unfold fhP; rw [hQ, e4, ByteArray.size_extract]; simp only; omega
            have d6 : s.data.toList.drop (q4 + 5) = (fhP s p).data.toList ++ s.data.toList.drop (q4 + 5 + v4) := by
              rw [hPd, ← List.drop_drop (i := v4) (j := q4 + 5), List.take_append_drop]
            have hs2' := smE_zero hs2
            obtain ⟨r7, t7, d7⟩ := wrd_spell (by omega) hs2'
            rw [hnx] at r7 d7
            -- the events
            rw [e2, e3] at hst1 hst2 hr hl
            simp only at hst1 hst2 hr hl
            rw [hl] at hst1 hst2
            have hone := coil_one (fhP s p) v2 v3 (fhP s p).size l (Nat.le_refl _) (Prod.ext hl hr) (fun _ => ⟨hst1, hst2⟩)
            obtain ⟨o1, o2, o3⟩ := hone
            have hPl : (prnC (fun i => l.getD i default) l.length).length = v4 := by rw [o3, ← hPs]; simp
            have hln : l.length ≠ 0 := by
              intro h0
              rw [h0] at hPl
              simp [prnC] at hPl
              omega
            have hFE : frE (fun i => l.getD i default) l.length = 0 := by unfold frE; rw [if_neg hln, if_neg (not_not_intro o2), if_neg (by omega)]
            refine ⟨by omega, by omega, o1, hFE, ?_⟩
            unfold frS
            rw [if_pos hFE, ext_take]
            have hseq1 : v1 = seq := by rw [← hseq, q1]
            have hall : s.data.toList.drop p = frB seq (fun i => l.getD i default) l.length ++ s.data.toList.drop nx := by
              rw [d0, d1, d2, d3, d4, d5, d6, d7]
              unfold frB
              rw [hPl, o3, show (fun i => l.getD i default) 0 = l.getD 0 default from rfl, hst1, hst2, ← hseq1]
              unfold mk frH
              simp only [List.append_assoc]
            rw [hall, show nx - p = (frB seq (fun i => l.getD i default) l.length).length by rw [frB_len, hPl]; omega, List.take_left]
end Go.Proofs.Ythdenjokedmcfaa
