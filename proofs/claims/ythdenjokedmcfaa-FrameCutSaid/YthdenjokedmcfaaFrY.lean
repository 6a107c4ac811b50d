/- Plain laws of frames: what is printed is read; what is cut off lacks bytes. No program in sight. No condition. -/
import Derived.Test.YthdenjokedmcfaaFrX
namespace Go.Proofs.Ythdenjokedmcfaa
open Go.RowKit
set_option maxRecDepth 20000
theorem frE_zero {z : Nat → Ev} {n : Nat} (h : frE z n = 0) : n ≠ 0 ∧ prnE z n = 0 ∧ (prnC z n).length ≤ 120 := by
  unfold frE at h
  split at h
  · cases h
  · split at h
    · rename_i h1; exact absurd h h1
    · split at h
      · cases h
      · rename_i h0 h1 h2
        exact ⟨h0, Classical.byContradiction h1, by omega⟩
theorem ba_eq {a : ByteArray} {l : List UInt8} (h : a.data.toList = l) : a = ⟨l.toArray⟩ := by
  obtain ⟨d⟩ := a
  simp only at h
  subst h
  simp
theorem smE_next {s : ByteArray} {p : Nat} {l post : List UInt8} (hd : s.data.toList.drop p = sep 5 (crcV l) ++ post) : smE s p l = 0 ∧ wrd s p = (crcV l, 0, p + 5) :=
  ⟨(smE_at hd).1, wrd_at (crcV_lt l) hd⟩
theorem lt70 {n : Nat} (h : n < 18446744073709551616) : n < 128 ^ 10 := by omega
/-- The head of a frame that stands at p. -/
theorem head_back {s : ByteArray} {p : Nat} {seq cy ct len : Nat} {post : List UInt8} (hseq : seq < 4294967296) (hcy : cy < 18446744073709551616) (hct : ct < 18446744073709551616) (hlen : len ≤ 120)
    (hd : s.data.toList.drop p = six255 ++ (frH seq cy ct len ++ post)) :
    agree s p ⟨mk.toArray⟩ = 22 ∧ fh1 s p = (seq, 0, p + 27) ∧ fh2 s p = (cy, 0, p + 37) ∧ fh3 s p = (ct, 0, p + 47) ∧ fh4 s p = (len, 0, p + 49) ∧ fhB s p = frH seq cy ct len ∧ s.data.toList.drop (p + 49) = post := by
  have d0 : s.data.toList.drop p = mk ++ (sep 5 seq ++ (sep 10 cy ++ (sep 10 ct ++ (sep 2 len ++ post)))) := by
    rw [hd]; unfold mk frH; simp only [List.append_assoc]
  have hag : agree s p ⟨mk.toArray⟩ = 22 := by
    show agrL mk (s.data.toList.drop p) = 22
    rw [d0, agrL_app]; rfl
  have d1 := drop_app' (n := 22) d0 rfl
  have e1 : fh1 s p = (seq, 0, p + 27) := wrd_at hseq d1
  have d2 := drop_app' (n := 5) d1 (sep_len 5 seq)
  have e2 : fh2 s p = (cy, 0, p + 37) := by
    unfold fh2; rw [e1]
    exact sget_at (c := 10) (by decide) (by decide) (lt70 hcy) (by unfold U64; omega) d2
  have d3 := drop_app' (n := 10) d2 (sep_len 10 cy)
  have e3 : fh3 s p = (ct, 0, p + 47) := by
    unfold fh3; rw [e2]
    exact sget_at (c := 10) (by decide) (by decide) (lt70 hct) (by unfold U64; omega) d3
  have d4 := drop_app' (n := 10) d3 (sep_len 10 ct)
  have e4 : fh4 s p = (len, 0, p + 49) := by
    unfold fh4; rw [e3]
    exact sget_at (c := 2) (by decide) (by decide) (show len < 128 ^ 2 by omega) (by unfold U64; omega) d4
  have d5 := drop_app' (n := 2) d4 (sep_len 2 len)
  refine ⟨hag, e1, e2, e3, e4, ?_, d5⟩
  unfold fhB
  rw [e4, ext_take]
  have h16 := drop_app' (n := 16) hd rfl
  rw [h16, show p + 49 - (p + 16) = (frH seq cy ct len).length by rw [frH_len]; omega, List.take_left]
theorem fhE_of {s : ByteArray} {p a1 a2 a3 a4 q1 q2 q3 q4 : Nat} (h0 : agree s p ⟨mk.toArray⟩ = 22) (h1 : fh1 s p = (a1, 0, q1)) (h2 : fh2 s p = (a2, 0, q2)) (h3 : fh3 s p = (a3, 0, q3)) (h4 : fh4 s p = (a4, 0, q4)) (h5 : 1 ≤ a4) (h6 : a4 ≤ 120) : fhE s p = smE s q4 (fhB s p) := by
  unfold fhE
  rw [h0, h1, h2, h3, h4, if_neg (by decide), if_neg (by simp), if_neg (by simp), if_neg (by simp), if_neg (by simp), if_neg (by simp only; omega)]
/-- What is printed is read. -/
theorem fRd_back {s : ByteArray} {p seq n : Nat} {z : Nat → Ev} {post : List UInt8} (hE : frE z n = 0) (hw : ∀ i, i < n → (z i).Wf) (hseq : seq < 4294967296) (hd : s.data.toList.drop p = frB seq z n ++ post) :
    fRd s p = (0, seq, (List.range n).map z, p + (frB seq z n).length) := by
  obtain ⟨hn, hp, hl⟩ := frE_zero hE
  have hw0 := hw 0 (by omega)
  have hlp : 1 ≤ (prnC z n).length := by
    obtain ⟨m, rfl⟩ : ∃ m, n = m + 1 := ⟨n - 1, by omega⟩
    rw [prnC, List.length_append]
    have := evb_pos (z (m - 1)) (z m)
    omega
  have hdl : s.data.toList.drop p = six255 ++ (frH seq (z 0).cy (z 0).ct (prnC z n).length ++ (sep 5 (crcV (frH seq (z 0).cy (z 0).ct (prnC z n).length)) ++ (prnC z n ++ (sep 5 (crcV (prnC z n)) ++ post)))) := by
    rw [hd]; unfold frB; simp only [List.append_assoc]
  obtain ⟨h0, h1, h2, h3, h4, h5, d5⟩ := head_back hseq hw0.cy hw0.ct hl hdl
  rw [← h5] at d5
  obtain ⟨s1, s2⟩ := smE_next d5
  have hfE : fhE s p = 0 := by rw [fhE_of h0 h1 h2 h3 h4 hlp hl]; exact s1
  have hQ : fhQ s p = p + 54 := by unfold fhQ; rw [h4]; exact congrArg (fun x => x.2.2) s2
  have d6 : s.data.toList.drop (p + 54) = prnC z n ++ (sep 5 (crcV (prnC z n)) ++ post) := drop_app' (n := 5) d5 (sep_len 5 _)
  have hsz : p + 54 + (prnC z n).length ≤ s.size := by
    have := congrArg List.length d6
    simp only [List.length_drop, List.length_append, sep_len] at this
    have h2 : s.data.toList.length = s.size := by simp
    omega
  have hPl : (fhP s p).data.toList = prnC z n := by
    unfold fhP
    rw [hQ, h4, ext_take, d6, show p + 54 + (prnC z n).length - (p + 54) = (prnC z n).length by omega, List.take_left]
  have hPb := ba_eq hPl
  have hPs : (fhP s p).size = (prnC z n).length := by rw [hPb]; show (List.toArray _).size = _; simp
  have d7 : s.data.toList.drop (p + 54 + (prnC z n).length) = sep 5 (crcV (prnC z n)) ++ post := drop_app' d6 rfl
  rw [← hPl] at d7
  obtain ⟨s3, s4⟩ := smE_next d7
  rw [hPl] at s3 s4
  have hr : rdL (fhP s p) (fhP s p).size (fh2 s p).1 (fh3 s p).1 0 = ((List.range n).map z, 0) := by
    rw [hPs, hPb, h2, h3]
    exact coil_back z n hw hp _ (Nat.le_refl _)
  have hg0 : ((List.range n).map z).getD 0 default = z 0 := by
    obtain ⟨m, rfl⟩ : ∃ m, n = m + 1 := ⟨n - 1, by omega⟩
    simp [List.range_succ_eq_map]
  unfold fRd
  rw [hr, hQ, h4, hPl, h1, h2, h3]
  simp only
  rw [if_neg (not_not_intro hfE), if_neg (by omega), s3, if_neg (by simp), if_neg (by simp), hg0, if_neg (by simp), s4, frB_len]
  simp only [Prod.mk.injEq, true_and]
  omega
theorem frR_back {s : ByteArray} {p seq n : Nat} {z : Nat → Ev} {post : List UInt8} (hE : frE z n = 0) (hw : ∀ i, i < n → (z i).Wf) (hseq : seq < 4294967296) (hd : s.data.toList.drop p = frB seq z n ++ post) (hp : p ≤ s.size) :
    frR s (p : Int) = (0, seq, (List.range n).map z, p + (frB seq z n).length) := by
  unfold frR
  rw [if_neg (by omega)]
  exact fRd_back hE hw hseq hd
/-! ### cut off -/
theorem cut_step {l a r : List UInt8} {p k : Nat} (h : l.drop p = (a ++ r).take k) : (k < a.length ∧ l.drop p = a.take k) ∨ (a.length ≤ k ∧ l.drop p = a ++ r.take (k - a.length)) := by
  rw [List.take_append] at h
  rcases Nat.lt_or_ge k a.length with h1 | h1
  · exact .inl ⟨h1, by rw [h, show k - a.length = 0 by omega]; simp⟩
  · exact .inr ⟨h1, by rw [h, List.take_of_length_le h1]⟩
theorem sgo_cut (s : ByteArray) (p : Nat) : ∀ (f n k acc j : Nat), f + k ≤ 10 → n * 128 ^ k < U64 → j < f → s.data.toList.drop (p + k) = (sep f n).take j → sgo s p f k acc = (0, 2, p)
  | 0, _, _, _, _, _, _, h, _ => absurd h (Nat.not_lt_zero _)
  | f + 1, n, k, acc, 0, _, _, _, hd => by
    have hlen : ¬ p + k < s.size := by
      intro h
      have := congrArg List.length hd
      simp at this
      have h2 : s.data.size = s.size := rfl
      omega
    exact sgo_end hlen
  | f + 1, n, k, acc, j + 1, hfk, hu, hj, hd => by
    rw [sep, List.take_succ_cons] at hd
    obtain ⟨h', hb⟩ := at_drop hd
    have hc : s[p + k].toNat = n % 128 := by rw [hb]; simp; omega
    have hk9 : ¬ (127 < n % 128 ∨ (k = 9 ∧ 1 < n % 128)) := by
      rintro (h | ⟨h, h2⟩)
      · omega
      · subst h
        unfold U64 at hu
        omega
    rw [sgo_go h' hc.symm hk9]
    have hd2 := drop_step hd
    refine sgo_cut s p f (n / 128) (k + 1) _ j (by omega) ?_ (by omega) hd2
    refine Nat.lt_of_le_of_lt ?_ hu
    rw [Nat.pow_succ, Nat.mul_comm (128 ^ k) 128, ← Nat.mul_assoc]
    exact Nat.mul_le_mul_right _ (by omega)
theorem sget_cut {s : ByteArray} {p c n j : Nat} (hc1 : 1 ≤ c) (hc : c ≤ 10) (hu : n < U64) (hj : j < c) (hd : s.data.toList.drop p = (sep c n).take j) : sget s p (c : Int) = (0, 2, p) := by
  unfold sget
  rw [if_neg (by omega)]
  exact sgo_cut s p c n 0 0 j (by omega) (by simpa using hu) hj (by simpa using hd)
theorem wrd_cut {s : ByteArray} {p n j : Nat} (hu : n < 4294967296) (hj : j < 5) (hd : s.data.toList.drop p = (sep 5 n).take j) : wrd s p = (0, 2, p) := by
  have := sget_cut (c := 5) (by decide) (by decide) (show n < U64 by unfold U64; omega) hj hd
  unfold wrd
  rw [show (5 : Int) = ((5 : Nat) : Int) from rfl, this, if_neg (by simp)]
theorem smE_cut {s : ByteArray} {p n j : Nat} {l : List UInt8} (hu : n < 4294967296) (hj : j < 5) (hd : s.data.toList.drop p = (sep 5 n).take j) : smE s p l = 2 := by
  unfold smE
  rw [wrd_cut hu hj hd, if_neg (by simp)]
theorem agrL_cut : ∀ (t : List UInt8) (k : Nat), k ≤ t.length → agrL t (t.take k) = k
  | t, 0, _ => by cases t <;> simp [agrL]
  | [], k + 1, h => by simp at h
  | a :: t, k + 1, h => by
    rw [List.take_succ_cons, agrL, if_pos rfl, agrL_cut t k (by simpa using h)]
theorem fr_two {s : ByteArray} (h : fhE s 0 = 2) : frR s 0 = (2, 0, [], 0) := by
  unfold frR
  rw [if_neg (by omega)]
  unfold fRd
  rw [show (0 : Int).toNat = 0 from rfl, h]
  rfl
theorem fr_cut {s : ByteArray} {seq n m : Nat} {z : Nat → Ev} (hE : frE z n = 0) (hw : ∀ i, i < n → (z i).Wf) (hseq : seq < 4294967296) (hm : m < (frB seq z n).length) (hs : s.data.toList = (frB seq z n).take m) : frR s 0 = (2, 0, [], 0) := by
  obtain ⟨hn, hp, hl⟩ := frE_zero hE
  have hw0 := hw 0 (by omega)
  have hcy := hw0.cy
  have hct := hw0.ct
  have hlp : 1 ≤ (prnC z n).length := by
    obtain ⟨k, rfl⟩ : ∃ k, n = k + 1 := ⟨n - 1, by omega⟩
    rw [prnC, List.length_append]
    have := evb_pos (z (k - 1)) (z k)
    omega
  have hsz : s.size = m := by
    have := congrArg List.length hs
    rw [List.length_take] at this
    have h2 : s.data.toList.length = s.size := by simp
    omega
  rw [frB_len] at hm
  unfold frB frH at hs
  generalize hPP : prnC z n = P at hs hl hlp hm
  generalize hcc : crcV (tafril ++ sep 5 seq ++ sep 10 (z 0).cy ++ sep 10 (z 0).ct ++ sep 2 P.length) = ch at hs
  have hch : ch < 4294967296 := by rw [← hcc]; exact crcV_lt _
  have hcp := crcV_lt P
  generalize hcq : crcV P = cp at hs hcp
  generalize (z 0).cy = cy at hs hcy hcc
  generalize (z 0).ct = ct at hs hct hcc
  have d0 : s.data.toList.drop 0 = (mk ++ (sep 5 seq ++ (sep 10 cy ++ (sep 10 ct ++ (sep 2 P.length ++ (sep 5 ch ++ (P ++ sep 5 cp))))))).take m := by
    rw [List.drop_zero, hs]; unfold mk; simp only [List.append_assoc]
  rcases cut_step d0 with ⟨k0, c0⟩ | ⟨k0, c0⟩
  · have hk : m < 22 := k0
    have hag : agree s 0 ⟨mk.toArray⟩ = m := by
      show agrL mk (s.data.toList.drop 0) = m
      rw [c0]; exact agrL_cut mk m (by rw [mk_len]; omega)
    refine fr_two ?_
    unfold fhE
    rw [hag, if_pos hk, if_pos (by omega)]
  · have hag : agree s 0 ⟨mk.toArray⟩ = 22 := by
      show agrL mk (s.data.toList.drop 0) = 22
      rw [c0, agrL_app]; rfl
    have d1 := drop_app' (n := 22) c0 rfl
    rcases cut_step d1 with ⟨k1, c1⟩ | ⟨k1, c1⟩
    · rw [sep_len] at k1
      have e1 : fh1 s 0 = (0, 2, 22) := wrd_cut hseq k1 c1
      refine fr_two ?_
      unfold fhE
      rw [hag, e1]; rfl
    · have e1 : fh1 s 0 = (seq, 0, 27) := wrd_at hseq c1
      have d2 := drop_app' (n := 5) c1 (sep_len 5 seq)
      rcases cut_step d2 with ⟨k2, c2⟩ | ⟨k2, c2⟩
      · rw [sep_len 10] at k2
        have e2 : fh2 s 0 = (0, 2, 27) := by unfold fh2; rw [e1]; exact sget_cut (c := 10) (by decide) (by decide) (by unfold U64; omega) k2 c2
        refine fr_two ?_
        unfold fhE
        rw [hag, e1, e2]; rfl
      · have e2 : fh2 s 0 = (cy, 0, 37) := by unfold fh2; rw [e1]; exact sget_at (c := 10) (by decide) (by decide) (lt70 hcy) (by unfold U64; omega) c2
        have d3 := drop_app' (n := 10) c2 (sep_len 10 cy)
        rcases cut_step d3 with ⟨k3, c3⟩ | ⟨k3, c3⟩
        · rw [sep_len 10 ct] at k3
          have e3 : fh3 s 0 = (0, 2, 37) := by unfold fh3; rw [e2]; exact sget_cut (c := 10) (by decide) (by decide) (by unfold U64; omega) k3 c3
          refine fr_two ?_
          unfold fhE
          rw [hag, e1, e2, e3]; rfl
        · have e3 : fh3 s 0 = (ct, 0, 47) := by unfold fh3; rw [e2]; exact sget_at (c := 10) (by decide) (by decide) (lt70 hct) (by unfold U64; omega) c3
          have d4 := drop_app' (n := 10) c3 (sep_len 10 ct)
          rcases cut_step d4 with ⟨k4, c4⟩ | ⟨k4, c4⟩
          · rw [sep_len 2] at k4
            have e4 : fh4 s 0 = (0, 2, 47) := by unfold fh4; rw [e3]; exact sget_cut (c := 2) (by decide) (by decide) (by unfold U64; omega) k4 c4
            refine fr_two ?_
            unfold fhE
            rw [hag, e1, e2, e3, e4]; rfl
          · have e4 : fh4 s 0 = (P.length, 0, 49) := by unfold fh4; rw [e3]; exact sget_at (c := 2) (by decide) (by decide) (show P.length < 128 ^ 2 by omega) (by unfold U64; omega) c4
            have d5 := drop_app' (n := 2) c4 (sep_len 2 P.length)
            have hf := fhE_of hag e1 e2 e3 e4 hlp hl
            rcases cut_step d5 with ⟨k5, c5⟩ | ⟨k5, c5⟩
            · rw [sep_len 5 ch] at k5
              refine fr_two ?_
              rw [hf]
              exact smE_cut hch k5 c5
            · have hB : fhB s 0 = tafril ++ sep 5 seq ++ sep 10 cy ++ sep 10 ct ++ sep 2 P.length := by
                unfold fhB
                rw [e4, ext_take]
                have h16 : s.data.toList.drop (0 + 16) = (tafril ++ sep 5 seq ++ sep 10 cy ++ sep 10 ct ++ sep 2 P.length) ++ s.data.toList.drop 49 := by
                  have hh : s.data.toList.drop 0 = six255 ++ ((tafril ++ sep 5 seq ++ sep 10 cy ++ sep 10 ct ++ sep 2 P.length) ++ s.data.toList.drop 49) := by
                    rw [c0, ← d1, c1, ← d2, c2, ← d3, c3, ← d4, c4, ← d5]
                    unfold mk
                    simp only [List.append_assoc, Nat.zero_add, Nat.reduceAdd]
                  exact drop_app' (n := 16) hh rfl
                rw [h16, show (49 : Nat) - (0 + 16) = (tafril ++ sep 5 seq ++ sep 10 cy ++ sep 10 ct ++ sep 2 P.length).length by simp [tafril, sep_len], List.take_left]
              rw [← hcc, ← hB] at c5
              obtain ⟨s1, s2⟩ := smE_next c5
              have hfE : fhE s 0 = 0 := by rw [hf]; exact s1
              have hQ : fhQ s 0 = 54 := by unfold fhQ; rw [e4]; exact congrArg (fun x => x.2.2) s2
              have d6 := drop_app' (n := 5) c5 (sep_len 5 _)
              unfold frR
              rw [if_neg (by omega)]
              unfold fRd
              rw [show (0 : Int).toNat = 0 from rfl, if_neg (not_not_intro hfE), hQ, e4]
              simp only
              rcases Nat.lt_or_ge (s.size - 54) P.length with k6 | k6
              · rw [if_pos k6]
              · rw [if_neg (by omega)]
                rcases cut_step d6 with ⟨k7, c7⟩ | ⟨k7, c7⟩
                · simp only [sep_len] at k7
                  have : (mk ++ (sep 5 seq ++ (sep 10 cy ++ (sep 10 ct ++ (sep 2 P.length ++ (sep 5 ch ++ (P ++ sep 5 cp))))))).length = 59 + P.length := by simp [mk_len, sep_len]; omega
                  simp only [mk_len] at k7
                  omega
                · have d7 := drop_app' (n := P.length) c7 rfl
                  have hcut : smE s (54 + P.length) (fhP s 0).data.toList = 2 := by
                    refine smE_cut (n := cp) (j := m - 22 - 5 - 10 - 10 - 2 - 5 - P.length) hcp (by omega) ?_
                    have : s.data.toList.drop (54 + P.length) = _ := d7
                    rw [this]
                    simp only [mk_len, sep_len]
                  rw [hcut]
                  rfl
end Go.Proofs.Ythdenjokedmcfaa
