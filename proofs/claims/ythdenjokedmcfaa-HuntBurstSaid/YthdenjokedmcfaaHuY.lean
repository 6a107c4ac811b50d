/- Plain laws of the hunt: frames among bytes without a 255; frames behind a burst. No program in sight. No condition. -/
import Derived.Test.YthdenjokedmcfaaHuX
import Derived.Test.YthdenjokedmcfaaBM
namespace Go.Proofs.Ythdenjokedmcfaa
open Go.RowKit
set_option linter.unusedVariables false
set_option linter.unusedSimpArgs false
set_option maxRecDepth 20000
/-- A frame: its number, its events. -/
abbrev PFr := Nat × List Ev
def PFr.z (x : PFr) : Nat → Ev := fun i => x.2.getD i default
def frT (x : PFr) : List UInt8 := frB x.1 x.z x.2.length
structure GoodF (x : PFr) : Prop where
  seq : x.1 < 4294967296
  e : frE x.z x.2.length = 0
  wf : ∀ i, i < x.2.length → (x.z i).Wf
theorem range_getDE (l : List Ev) : (List.range l.length).map (fun i => l.getD i default) = l := by
  refine List.ext_getElem (by simp) fun i h1 h2 => ?_
  simp [List.getElem?_eq_getElem h2]
theorem frT_len (x : PFr) : 59 ≤ (frT x).length := by unfold frT; rw [frB_len]; omega
theorem frT_len2 {x : PFr} (h : GoodF x) : (frT x).length ≤ 179 := by
  have := (frE_zero h.e).2.2
  unfold frT; rw [frB_len]; omega
/-- A frame that stands at p is told. -/
theorem hfin_frame {X : ByteArray} {cl : Bool} {its : List PIt} {p nx sk lo : Nat} {x : PFr} {post : List UInt8} (hg : GoodF x) (hnx : nx ≤ x.1) (hd : X.data.toList.drop p = frT x ++ post) :
    hfin X cl ⟨its, p, nx, sk, lo⟩ = hfin X cl ⟨its ++ told nx x.1 x.2, p + (frT x).length, x.1 + 1, sk, lo + (x.1 - nx)⟩ := by
  have hl := frT_len x
  have hsz : p + (frT x).length ≤ X.size := by
    have := congrArg List.length hd
    rw [List.length_drop, List.length_append] at this
    have h2 : X.data.toList.length = X.size := by simp
    omega
  have hr := frR_back (s := X) (p := p) hg.e hg.wf hg.seq hd (by omega)
  have e : (List.range x.2.length).map x.z = x.2 := range_getDE x.2
  rw [e] at hr
  have hs : hstop X cl ⟨its, p, nx, sk, lo⟩ = false := by
    unfold hstop
    simp only
    rw [hr]
    simp
    omega
  rw [hfin_next hs]
  congr 1
  unfold hnext hskip
  simp only
  rw [hr]
  simp only
  rw [if_neg (by simp; omega)]
  rfl
/-- Where nothing stands, a closed hunt goes on. -/
theorem hfin_skip {X : ByteArray} {its : List PIt} {nx lo : Nat} : ∀ (m p sk : Nat), p + m ≤ X.size → (∀ d, d < m → (frR X ((p + d : Nat) : Int)).1 ≠ 0) → hfin X true ⟨its, p, nx, sk, lo⟩ = hfin X true ⟨its, p + m, nx, sk + m, lo⟩
  | 0, _, _, _, _ => rfl
  | m + 1, p, sk, hp, h => by
    have hs : hstop X true ⟨its, p, nx, sk, lo⟩ = false := by
      unfold hstop
      simp
      omega
    rw [hfin_next hs]
    have hn : hnext X ⟨its, p, nx, sk, lo⟩ = ⟨its, p + 1, nx, sk + 1, lo⟩ := by
      unfold hnext
      rw [if_pos]
      unfold hskip
      have := h 0 (by omega)
      simp only [Nat.add_zero] at this
      simp [this]
    rw [hn, hfin_skip m (p + 1) (sk + 1) (by omega) fun d hd => by rw [show p + 1 + d = p + (d + 1) by omega]; exact h (d + 1) (by omega)]
    congr 1
    congr 1 <;> omega
/-- Where a frame is read there is the marker. -/
theorem frR_mark {X : ByteArray} {p : Nat} (hp : p ≤ X.size) (h : (frR X (p : Int)).1 = 0) : p + 22 ≤ X.size ∧ X.data.toList.drop p = mk ++ X.data.toList.drop (p + 22) := by
  have hR : (fRd X p).1 = 0 := by
    unfold frR at h
    rw [if_neg (by omega)] at h
    exact h
  have hE : fhE X p = 0 := by
    unfold fRd at hR
    refine Classical.byContradiction fun hc => ?_
    rw [if_pos hc] at hR
    simp only at hR
    omega
  obtain ⟨hag, _⟩ := fhE_parts hE
  have hagl := agrL_le mk (X.data.toList.drop p)
  have hdl : (X.data.toList.drop p).length = X.size - p := by simp
  have h1 : agree X p ⟨mk.toArray⟩ ≤ X.size - p := by rw [← hdl]; exact hagl.2
  refine ⟨by omega, ?_⟩
  have := agrL_full mk (X.data.toList.drop p) hag
  rw [List.drop_drop] at this
  exact this
/-! ### what frames tell -/
/-- What the frames tell of which the keeper lets pass; the number behind. -/
def toldN (F : Nat → PFr) (K : Nat → Bool) : Nat → List PIt × Nat
  | 0 => ([], 0)
  | i + 1 => if K i then ((toldN F K i).1 ++ told (toldN F K i).2 (F i).1 (F i).2, (F i).1 + 1) else toldN F K i
def cat (T : Nat → List UInt8) : Nat → List UInt8
  | 0 => []
  | i + 1 => cat T i ++ T i
theorem cat_more (T : Nat → List UInt8) (i : Nat) : ∀ n, i ≤ n → ∃ Q, cat T n = cat T i ++ Q
  | 0, h => ⟨[], by rw [show i = 0 by omega]; rfl⟩
  | n + 1, h => by
    rcases Nat.lt_or_ge n i with h1 | h1
    · exact ⟨[], by rw [show i = n + 1 by omega, List.append_nil]⟩
    · obtain ⟨Q, e⟩ := cat_more T i n h1
      exact ⟨Q ++ T n, by rw [cat, e, List.append_assoc]⟩
theorem cat_at (T : Nat → List UInt8) {i n : Nat} (h : i < n) : ∃ Q, cat T n = cat T i ++ (T i ++ Q) := by
  obtain ⟨Q, e⟩ := cat_more T (i + 1) n h
  exact ⟨Q, by rw [e, cat, List.append_assoc]⟩
theorem toldN_next {F : Nat → PFr} {K : Nat → Bool} {nf : Nat} (hr : ∀ i, i + 1 < nf → (F i).1 < (F (i + 1)).1) : ∀ i, i < nf → (toldN F K i).2 ≤ (F i).1
  | 0, _ => Nat.zero_le _
  | i + 1, h => by
    have h1 := hr i h
    have h2 := toldN_next (K := K) hr i (by omega)
    rw [toldN]
    split
    · exact h1
    · omega
/-- Frames, and bytes without a 255 between them. -/
def mixT (F : Nat → PFr) (J : Nat → List UInt8) (nf nj i : Nat) : List UInt8 := (if i < nj then J i else []) ++ (if i < nf then frT (F i) else [])
theorem toldN_stop (F : Nat → PFr) (K : Nat → Bool) (nf : Nat) (hK : ∀ i, nf ≤ i → K i = false) : ∀ i, nf ≤ i → toldN F K i = toldN F K nf
  | 0, h => by rw [show nf = 0 by omega]
  | i + 1, h => by
    rcases Nat.lt_or_ge i nf with h1 | h1
    · rw [show nf = i + 1 by omega]
    · rw [toldN, hK i h1, if_neg (by decide)]; exact toldN_stop F K nf hK i h1
theorem hunt_junk {F : Nat → PFr} {J : Nat → List UInt8} {nf nj m : Nat} (hg : ∀ i, i < nf → GoodF (F i)) (hr : ∀ i, i + 1 < nf → (F i).1 < (F (i + 1)).1) (hJ : ∀ i, i < nj → ∀ b ∈ J i, b ≠ 255)
    (h1 : nf ≤ m) (h2 : nj ≤ m) {X : ByteArray} (hX : X.data.toList = cat (mixT F J nf nj) m) : (hfin X true ⟨[], 0, 0, 0, 0⟩).its = (toldN F (fun i => decide (i < nf)) nf).1 := by
  have hsz : X.size = (cat (mixT F J nf nj) m).length := by rw [← hX]; simp
  have key : ∀ i, i ≤ m → ∃ sk lo, hfin X true ⟨[], 0, 0, 0, 0⟩ = hfin X true ⟨(toldN F (fun i => decide (i < nf)) i).1, (cat (mixT F J nf nj) i).length, (toldN F (fun i => decide (i < nf)) i).2, sk, lo⟩ := by
    intro i
    induction i with
    | zero => exact fun _ => ⟨0, 0, rfl⟩
    | succ i ih =>
      intro hi
      obtain ⟨sk, lo, e⟩ := ih (by omega)
      obtain ⟨Q, hQ⟩ := cat_at (mixT F J nf nj) (show i < m by omega)
      have hd : X.data.toList.drop (cat (mixT F J nf nj) i).length = mixT F J nf nj i ++ Q := by
        rw [hX, hQ, List.drop_left]
      rw [e]
      generalize hp : (cat (mixT F J nf nj) i).length = p at hd
      rw [show mixT F J nf nj i = (if i < nj then J i else []) ++ (if i < nf then frT (F i) else []) from rfl, List.append_assoc] at hd
      generalize hjj : (if i < nj then J i else []) = j at hd
      have hj255 : ∀ b ∈ j, b ≠ 255 := by
        rw [← hjj]
        split
        · rename_i h; exact hJ i h
        · intro b hb; cases hb
      have hll := congrArg List.length hd
      rw [List.length_drop, List.length_append] at hll
      have hXl : X.data.toList.length = X.size := by simp
      have hjp : p + j.length ≤ X.size := by
        have : p ≤ X.size := by
          rw [hsz, hQ, List.length_append, hp]; omega
        omega
      rw [hfin_skip j.length p sk hjp fun d hd' hc => by
        have := (frR_mark (X := X) (p := p + d) (by omega) hc).2
        have h9 : (X.data.toList.drop (p + d)).getD 0 0 = (mk ++ X.data.toList.drop (p + d + 22)).getD 0 0 := congrArg (fun l => l.getD 0 0) this
        have e1 : (X.data.toList.drop (p + d)).getD 0 0 = j.getD d 0 := by
          rw [← List.drop_drop, hd, List.getD_eq_getElem?_getD, List.getElem?_drop, Nat.add_zero, List.getElem?_append_left hd', ← List.getD_eq_getElem?_getD]
        rw [e1] at h9
        have e2 : (mk ++ X.data.toList.drop (p + d + 22)).getD 0 0 = 255 := rfl
        rw [e2] at h9
        refine hj255 _ ?_ h9
        rw [List.getD_eq_getElem?_getD, List.getElem?_eq_getElem hd', Option.getD_some]
        exact List.getElem_mem _]
      have hd2 := drop_app' hd rfl
      have hcat : (cat (mixT F J nf nj) (i + 1)).length = p + j.length + (if i < nf then frT (F i) else []).length := by
        rw [cat, List.length_append, hp, show mixT F J nf nj i = (if i < nj then J i else []) ++ (if i < nf then frT (F i) else []) from rfl, hjj, List.length_append]; omega
      rw [hcat]
      by_cases hif : i < nf
      · rw [if_pos hif] at hd2 ⊢
        have hle := toldN_next (K := fun i => decide (i < nf)) hr i hif
        rw [hfin_frame (hg i hif) hle hd2, toldN, if_pos (decide_eq_true hif)]
        exact ⟨_, _, rfl⟩
      · rw [if_neg hif, toldN, if_neg (by simp [hif])]
        exact ⟨_, _, rfl⟩
  obtain ⟨sk, lo, e⟩ := key m (Nat.le_refl _)
  rw [e, hfin_stop (by unfold hstop; simp; omega)]
  exact congrArg Prod.fst (toldN_stop F _ nf (fun i h => by simp; omega) m h1)
/-! ### behind a burst -/
theorem fr_burst2 {S Q R : List UInt8} {seq n seq' n' a : Nat} {z z' : Nat → Ev} (hE : frE z n = 0) (hE' : frE z' n' = 0) (hs : S = frB seq' z' n' ++ R)
    (hn : ∀ j, ¬ (a ≤ j ∧ j < a + 32) → bitL (frB seq z n ++ Q) j = bitL S j) : frB seq z n = frB seq' z' n' := by
  obtain ⟨hn0, hp0, hl0⟩ := frE_zero hE
  obtain ⟨hn1, hp1, hl1⟩ := frE_zero hE'
  subst hs
  unfold frB at hn ⊢
  generalize (z 0).cy = cy at *
  generalize (z 0).ct = ct at *
  generalize (z' 0).cy = cy' at *
  generalize (z' 0).ct = ct' at *
  generalize prnC z n = P at *
  generalize prnC z' n' = P' at *
  have hH1 := frH_len seq cy ct P.length
  have hH2 := frH_len seq' cy' ct' P'.length
  have bits : ∀ k j, ¬ (a ≤ 8 * k + j ∧ 8 * k + j < a + 32) → bitL ((six255 ++ frH seq cy ct P.length ++ sep 5 (crcV (frH seq cy ct P.length)) ++ P ++ sep 5 (crcV P) ++ Q).drop k) j = bitL ((six255 ++ frH seq' cy' ct' P'.length ++ sep 5 (crcV (frH seq' cy' ct' P'.length)) ++ P' ++ sep 5 (crcV P') ++ R).drop k) j := by
    intro k j hw
    rw [bitL_drop, bitL_drop]
    exact hn _ hw
  have d16 : ∀ seq cy ct (P Q : List UInt8), (six255 ++ frH seq cy ct P.length ++ sep 5 (crcV (frH seq cy ct P.length)) ++ P ++ sep 5 (crcV P) ++ Q).drop 16 = (frH seq cy ct P.length ++ sep 5 (crcV (frH seq cy ct P.length))) ++ (P ++ sep 5 (crcV P) ++ Q) := by
    intro seq cy ct P Q
    simp only [List.append_assoc]
    exact drop_app' (p := 0) (n := 16) (by simp only [List.drop_zero]; rfl) rfl
  have b16 := bits 16
  rw [d16, d16] at b16
  have hlen : ∀ s c (p : List UInt8) l, (frH s c l p.length ++ sep 5 (crcV (frH s c l p.length))).length = 38 := fun s c p l => by rw [List.length_append, frH_len, sep_len]
  have hH : frH seq cy ct P.length = frH seq' cy' ct' P'.length := by
    refine burst_eq (a := a) (off := 128) (by rw [hH1, hH2]) fun j hj hw => ?_
    rw [hH1] at hj
    have := b16 j hw
    rw [bitL_left (X := frH seq cy ct P.length ++ _) (by rw [List.length_append, frH_len, sep_len]; omega), bitL_left (X := frH seq' cy' ct' P'.length ++ _) (by rw [List.length_append, frH_len, sep_len]; omega)] at this
    exact this
  have hPl : P.length = P'.length := by
    refine sep2_inj hl0 hl1 ?_
    have h31 : ∀ s c l p, (frH s c l p).drop 31 = sep 2 p := fun s c l p => by
      unfold frH
      exact drop_app' (p := 0) (n := 31) (by rw [List.drop_zero]) (by simp only [List.length_append, sep_len]; rfl)
    rw [← h31 seq cy ct P.length, ← h31 seq' cy' ct' P'.length, hH]
  have d54 : ∀ seq cy ct (P Q : List UInt8), (six255 ++ frH seq cy ct P.length ++ sep 5 (crcV (frH seq cy ct P.length)) ++ P ++ sep 5 (crcV P) ++ Q).drop 54 = (P ++ sep 5 (crcV P)) ++ Q := by
    intro seq cy ct P Q
    rw [show 54 = 16 + 38 from rfl, ← List.drop_drop, d16]
    exact drop_app' (p := 0) (n := 38) (by rw [List.drop_zero]) (hlen _ _ _ _)
  have b54 := bits 54
  rw [d54, d54] at b54
  have hP : P = P' := by
    refine burst_eq (a := a) (off := 432) hPl fun j hj hw => ?_
    have := b54 j hw
    rw [bitL_left (X := P ++ _) (by rw [List.length_append, sep_len]; omega), bitL_left (X := P' ++ _) (by rw [List.length_append, sep_len]; omega)] at this
    exact this
  subst hP
  rw [← hH]
/-- A frame that a burst changed isn't read. -/
theorem spoilt_start {X : ByteArray} {p a : Nat} (hp : p ≤ X.size) {x : PFr} (hg : GoodF x) {Q : List UInt8}
    (hn : ∀ j, ¬ (a ≤ j ∧ j < a + 32) → bitL (frT x ++ Q) j = bitL (X.data.toList.drop p) j) (h : (frR X (p : Int)).1 = 0) : X.data.toList.drop p = frT x ++ X.data.toList.drop (p + (frT x).length) := by
  obtain ⟨⟨k, seq, l, nx⟩, hr⟩ : ∃ r, frR X (p : Int) = r := ⟨_, rfl⟩
  rw [hr] at h
  simp only at h
  subst h
  have hR : fRd X p = (0, seq, l, nx) := by
    unfold frR at hr
    rw [if_neg (by omega)] at hr
    exact hr
  obtain ⟨h1, h2, h3, h4, h5⟩ := fRd_spell hp hR
  unfold frS at h5
  rw [if_pos h4, ext_take] at h5
  have hd : X.data.toList.drop p = frB seq (fun i => l.getD i default) l.length ++ X.data.toList.drop nx := by
    rw [h5]
    have := (List.take_append_drop (nx - p) (X.data.toList.drop p)).symm
    rw [List.drop_drop, show p + (nx - p) = nx by omega] at this
    exact this
  have e := fr_burst2 (seq := x.1) hg.e h4 hd hn
  have e' : frT x = frB seq (fun i => l.getD i default) l.length := e
  rw [← e'] at hd
  have h6 := drop_app' hd rfl
  rw [h6]
  exact hd
theorem bitL_near {l m : List UInt8} {at_ k : Nat} (hn : ∀ j, ¬ (at_ ≤ j ∧ j < at_ + 32) → bitL m j = bitL l j) (j : Nat) (hj : ¬ (at_ - 8 * k ≤ j ∧ j < at_ - 8 * k + 32)) : bitL (l.drop k) j = bitL (m.drop k) j := by
  rw [bitL_drop, bitL_drop]
  exact (hn _ (by omega)).symm
/-- In a frame that a burst changed no frame is read. -/
theorem spoilt_in {S : List UInt8} {at_ : Nat} {F : Nat → PFr} {nf i : Nat} (hg : ∀ i, i < nf → GoodF (F i)) (hl : S.length = (cat (fun i => frT (F i)) nf).length)
    (hn : ∀ j, ¬ (at_ ≤ j ∧ j < at_ + 32) → bitL S j = bitL (cat (fun i => frT (F i)) nf) j) (hi : i < nf) {X : ByteArray} (hX : X.data.toList = S)
    (hne : (S.drop (cat (fun i => frT (F i)) i).length).take (frT (F i)).length ≠ frT (F i)) (d : Nat) (hd : d < (frT (F i)).length) : (frR X (((cat (fun i => frT (F i)) i).length + d : Nat) : Int)).1 ≠ 0 := by
  intro hc
  have hXl : X.size = S.length := by rw [← hX]; simp
  obtain ⟨Q, hQ⟩ := cat_at (fun i => frT (F i)) hi
  have hfr : ∀ i, i < nf → FrF (frT (F i)) (prnC (F i).z (F i).2.length).length := by
    intro i hi
    obtain ⟨_, hp, _⟩ := frE_zero (hg i hi).e
    have := (coil_runs (F i).z (F i).2.length (hg i hi).wf).1
    unfold prnS at this
    rw [if_pos hp] at this
    exact frF_of ⟨_, this⟩
  generalize hk : (cat (fun i => frT (F i)) i).length = k at *
  have hdr : (cat (fun i => frT (F i)) nf).drop k = frT (F i) ++ Q := by rw [hQ, ← hk, List.drop_left]
  have hkl : k + (frT (F i)).length ≤ S.length := by rw [hl, hQ, List.length_append, List.length_append, hk]; omega
  have hbits := fun j hj => bitL_near (l := cat (fun i => frT (F i)) nf) (m := S) (k := k) hn j hj
  rw [hdr] at hbits
  by_cases h0 : d = 0
  · subst h0
    rw [Nat.add_zero] at hc
    have := spoilt_start (X := X) (p := k) (a := at_ - 8 * k) (by omega) (hg i hi) (Q := Q) (by rw [hX]; exact hbits) hc
    rw [hX] at this
    rw [this, List.take_left] at hne
    exact hne rfl
  · obtain ⟨m1, m2⟩ := frR_mark (X := X) (p := k + d) (by omega) hc
    rw [hX] at m2
    have hmk : ∀ t, t < 22 → (S.drop k).getD (d + t) 0 = mk.getD t 0 := by
      intro t ht
      rw [List.getD_eq_getElem?_getD, List.getElem?_drop, ← Nat.add_assoc, ← List.getElem?_drop, m2, List.getElem?_append_left (by rw [mk_len]; exact ht), ← List.getD_eq_getElem?_getD]
    by_cases hl1 : i + 1 < nf
    · obtain ⟨Q2, hQ2⟩ := cat_at (fun i => frT (F i)) hl1
      have hQe : Q = frT (F (i + 1)) ++ Q2 := by
        have : cat (fun i => frT (F i)) i ++ (frT (F i) ++ Q) = cat (fun i => frT (F i)) i ++ (frT (F i) ++ (frT (F (i + 1)) ++ Q2)) := by
          rw [← hQ, hQ2, cat, List.append_assoc]
        exact List.append_cancel_left (List.append_cancel_left this)
      have h59 := frT_len (F (i + 1))
      have hlen2 : (frT (F i) ++ frT (F (i + 1))).length ≤ (S.drop k).length := by
        rw [List.length_drop, hl, hQ, hQe]
        simp only [List.length_append, hk]
        omega
      have := marker_law (s := (S.drop k).take (frT (F i) ++ frT (F (i + 1))).length) (a := at_ - 8 * k) (i := d) (hfr i hi) (hfr (i + 1) hl1) (fun j hj => ?_) (by rw [List.length_append]; omega) (fun t ht => ?_)
      · omega
      · have hb := hbits j hj
        rw [hQe, ← List.append_assoc] at hb
        rcases Nat.lt_or_ge j (8 * (frT (F i) ++ frT (F (i + 1))).length) with hj2 | hj2
        · rw [bitL_left hj2] at hb
          rw [hb]
          have e := List.take_append_drop (frT (F i) ++ frT (F (i + 1))).length (S.drop k)
          conv => rhs; rw [← e]
          exact (bitL_left (by rw [List.length_take]; omega)).symm
        · unfold bitL
          rw [List.getD_eq_getElem?_getD, List.getD_eq_getElem?_getD, List.getElem?_eq_none (by rw [List.length_take]; omega), List.getElem?_eq_none (by omega)]
      · rw [← hmk t ht, List.getD_eq_getElem?_getD, List.getD_eq_getElem?_getD, List.getElem?_take, if_pos (by rw [List.length_append]; omega)]
    · have hQ0 : Q = [] := by
        have h1 : cat (fun i => frT (F i)) nf = cat (fun i => frT (F i)) i ++ frT (F i) := by rw [show nf = i + 1 by omega, cat]
        have : cat (fun i => frT (F i)) i ++ (frT (F i) ++ Q) = cat (fun i => frT (F i)) i ++ (frT (F i) ++ []) := by rw [← hQ, h1, List.append_nil]
        exact List.append_cancel_left (List.append_cancel_left this)
      subst hQ0
      rw [List.append_nil] at hbits
      have hlf : (S.drop k).length = S.length - k := List.length_drop
      have hlS : (S.drop k).length = (frT (F i)).length := by
        rw [List.length_drop, hl, hQ]
        simp only [List.length_append, hk, List.length_nil]
        omega
      have := marker_law (s := S.drop k ++ frT (F i)) (a := at_ - 8 * k) (i := d) (hfr i hi) (hfr i hi) (fun j hj => ?_) (by rw [List.length_append]; omega) (fun t ht => ?_)
      · omega
      · rcases Nat.lt_or_ge j (8 * (frT (F i)).length) with hj2 | hj2
        · rw [bitL_left hj2, bitL_left (by omega)]
          exact (hbits j hj).symm
        · obtain ⟨r, rfl⟩ : ∃ r, j = 8 * (frT (F i)).length + r := ⟨j - 8 * (frT (F i)).length, by omega⟩
          rw [bitL_right]
          conv => lhs; rw [← hlS]
          rw [bitL_right]
      · rw [gd_app1 (by omega)]
        exact hmk t ht
theorem hunt_burst {S : List UInt8} {at_ : Nat} {F : Nat → PFr} {nf : Nat} (hg : ∀ i, i < nf → GoodF (F i)) (hr : ∀ i, i + 1 < nf → (F i).1 < (F (i + 1)).1) (hl : S.length = (cat (fun i => frT (F i)) nf).length)
    (hn : ∀ j, ¬ (at_ ≤ j ∧ j < at_ + 32) → bitL S j = bitL (cat (fun i => frT (F i)) nf) j) {X : ByteArray} (hX : X.data.toList = S)
    {K : Nat → Bool} (hK : ∀ i, i < nf → K i = decide ((S.drop (cat (fun i => frT (F i)) i).length).take (frT (F i)).length = frT (F i))) :
    (hfin X true ⟨[], 0, 0, 0, 0⟩).its = (toldN F K nf).1 := by
  have hXl : X.size = S.length := by rw [← hX]; simp
  have key : ∀ i, i ≤ nf → ∃ sk lo, hfin X true ⟨[], 0, 0, 0, 0⟩ = hfin X true ⟨(toldN F K i).1, (cat (fun i => frT (F i)) i).length, (toldN F K i).2, sk, lo⟩ := by
    intro i
    induction i with
    | zero => exact fun _ => ⟨0, 0, rfl⟩
    | succ i ih =>
      intro hi
      obtain ⟨sk, lo, e⟩ := ih (by omega)
      obtain ⟨Q, hQ⟩ := cat_at (fun i => frT (F i)) (show i < nf by omega)
      have hkl : (cat (fun i => frT (F i)) i).length + (frT (F i)).length ≤ S.length := by rw [hl, hQ, List.length_append, List.length_append]; omega
      rw [e, toldN, hK i (by omega)]
      by_cases hc : (S.drop (cat (fun i => frT (F i)) i).length).take (frT (F i)).length = frT (F i)
      · rw [if_pos (decide_eq_true hc)]
        have hle := toldN_next (K := K) hr i (by omega)
        have hd : X.data.toList.drop (cat (fun i => frT (F i)) i).length = frT (F i) ++ S.drop ((cat (fun i => frT (F i)) i).length + (frT (F i)).length) := by
          rw [hX]
          conv => rhs; arg 1; rw [← hc]
          rw [← List.drop_drop, List.take_append_drop]
        rw [hfin_frame (hg i (by omega)) hle hd, cat, List.length_append]
        exact ⟨_, _, rfl⟩
      · rw [if_neg (by simp [hc]), hfin_skip (frT (F i)).length _ sk (by omega) (fun d hd => spoilt_in hg hl hn (by omega) hX hc d hd), cat, List.length_append]
        exact ⟨_, _, rfl⟩
  obtain ⟨sk, lo, e⟩ := key nf (Nat.le_refl _)
  rw [e, hfin_stop (by unfold hstop; simp; omega)]
end Go.Proofs.Ythdenjokedmcfaa
