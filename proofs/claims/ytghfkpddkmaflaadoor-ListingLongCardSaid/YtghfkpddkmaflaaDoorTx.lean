/- Plain words for lines: parts between blanks, numerals in decimal digits. No condition but those that each names. -/
import Derived.Lib.ItoaNum
import Derived.Lib.ParseIntB
import Derived.Lib.SplitLaws
namespace Go.Proofs.YtghfkpddkmaflaaDoor
open Go
set_option linter.unusedVariables false
set_option linter.unusedSimpArgs false
/-- The parts of a line, between single blanks. -/
def wds : List UInt8 → List (List UInt8)
  | [] => [[]]
  | c :: r => if c = 32 then [] :: wds r else (c :: (wds r).headD []) :: (wds r).tail
theorem wds_cons (l : List UInt8) : wds l = (wds l).headD [] :: (wds l).tail := by
  cases l with
  | nil => rfl
  | cons c r => unfold wds; split <;> rfl
theorem wds_sep : ∀ {a : List UInt8} (h : ∀ c ∈ a, c ≠ 32) (b : List UInt8), wds (a ++ 32 :: b) = a :: wds b
  | [], _, b => by rw [List.nil_append, wds, if_pos rfl]
  | c :: a, h, b => by
    rw [List.cons_append, wds, if_neg (h c List.mem_cons_self), wds_sep (fun x hx => h x (List.mem_cons_of_mem _ hx)) b]
    rfl
theorem wds_word : ∀ {a : List UInt8} (h : ∀ c ∈ a, c ≠ 32), wds a = [a]
  | [], _ => rfl
  | c :: a, h => by
    rw [wds, if_neg (h c List.mem_cons_self), wds_word (fun x hx => h x (List.mem_cons_of_mem _ hx))]
    rfl
def joinW : List (List UInt8) → List UInt8
  | [] => []
  | [x] => x
  | x :: y :: r => x ++ 32 :: joinW (y :: r)
theorem joinW_push (c : UInt8) (x : List UInt8) (t : List (List UInt8)) : joinW ((c :: x) :: t) = c :: joinW (x :: t) := by cases t <;> rfl
theorem joinW_wds : ∀ l : List UInt8, joinW (wds l) = l
  | [] => rfl
  | c :: r => by
    have ih := joinW_wds r
    have hc := wds_cons r
    unfold wds
    split
    · rename_i h
      subst h
      rw [hc] at ih ⊢
      show [] ++ 32 :: joinW (_ :: _) = _
      rw [ih]
      rfl
    · rw [joinW_push, ← hc, ih]
theorem wds_nb : ∀ (l : List UInt8) (w : List UInt8), w ∈ wds l → ∀ c ∈ w, c ≠ 32
  | [], w, hw, c, hc => by
    obtain rfl : w = [] := by simpa [wds] using hw
    cases hc
  | d :: r, w, hw, c, hc => by
    have hh := wds_cons r
    unfold wds at hw
    split at hw
    · rcases List.mem_cons.1 hw with rfl | hw
      · cases hc
      · exact wds_nb r w hw c hc
    · rename_i hd
      rcases List.mem_cons.1 hw with rfl | hw
      · rcases List.mem_cons.1 hc with rfl | hc
        · exact hd
        · exact wds_nb r _ (by rw [hh]; exact List.mem_cons_self) c hc
      · exact wds_nb r w (by rw [hh]; exact List.mem_cons_of_mem _ hw) c hc
theorem wds_join : ∀ (L : List (List UInt8)) (hne : L ≠ []) (h : ∀ w ∈ L, ∀ c ∈ w, c ≠ 32), wds (joinW L) = L
  | [], hne, _ => absurd rfl hne
  | [x], _, h => wds_word (h x List.mem_cons_self)
  | x :: y :: r, _, h => by
    show wds (x ++ 32 :: joinW (y :: r)) = _
    rw [wds_sep (h x List.mem_cons_self), wds_join (y :: r) (by simp) fun w hw => h w (List.mem_cons_of_mem _ hw)]
/-- strings.Split at a blank gives these parts. -/
theorem split_wds : ∀ s : List UInt8, Lib.splitK [32] 0 (Lib.count s [32]) s = wds s
  | [] => by rw [Lib.count_one]; rfl
  | c :: r => by
    have ih := split_wds r
    by_cases h : c = 32
    · subst h
      rw [Lib.count_cons_eq, Nat.add_comm, wds, if_pos rfl, ← ih]
      have hix : Lib.index (32 :: r) [32] = 0 := by rw [Lib.index]; simp [List.isPrefixOf]
      rw [Lib.splitK, hix]
      rfl
    · rw [Lib.count_cons_ne c 32 r h, wds, if_neg h]
      have hp : ([32] : List UInt8).isPrefixOf (c :: r) = false := by simp [List.isPrefixOf, Ne.symm h]
      have hix : Lib.index (c :: r) [32] = if Lib.index r [32] == -1 then -1 else Lib.index r [32] + 1 := by rw [Lib.index, hp]; simp
      obtain ⟨k, hk⟩ : ∃ k, k = Lib.count r [32] := ⟨_, rfl⟩
      rw [← hk] at ih ⊢
      cases k with
      | zero =>
        rw [← ih]
        rfl
      | succ k =>
        by_cases hm : Lib.index r [32] = -1
        · rw [Lib.count_miss hm] at hk
          omega
        · have hge := Lib.index_ge r [32]
          obtain ⟨j, hj⟩ : ∃ j : Nat, Lib.index r [32] = j := ⟨(Lib.index r [32]).toNat, by omega⟩
          have e1 : ((j : Int) == -1) = false := by rw [beq_eq_false_iff_ne]; omega
          have e2 : (((j : Int) + 1) == -1) = false := by rw [beq_eq_false_iff_ne]; omega
          have e3 : ((j : Int) + 1).toNat = j + 1 := by omega
          rw [← ih, Lib.splitK, Lib.splitK, hix, hj, e1]
          simp only [Bool.false_eq_true, if_false, e2, e3, Int.toNat_natCast, Nat.add_zero, List.headD_cons, List.tail_cons, List.length_cons, List.length_nil, Nat.zero_add]
          rw [show j + 1 + 1 = (j + 1) + 1 from rfl, List.take_succ_cons, List.drop_succ_cons]
/-! ### Numerals -/
def numR (M acc : Nat) : List UInt8 → Option Nat
  | [] => some acc
  | c :: r => if 48 ≤ c.toNat ∧ c.toNat ≤ 57 then (if (M - (c.toNat - 48)) / 10 < acc then none else numR M (acc * 10 + (c.toNat - 48)) r) else none
/-- The document's reading of a numeral. -/
def numS (M : Nat) (l : List UInt8) : Option Nat := if l = [] ∨ (l.head? = some 48 ∧ 1 < l.length) then none else numR M 0 l
theorem numR_ok {M : Nat} (h1 : 9 ≤ M) (h2 : M ≤ 18446744073709551615) : ∀ (l : List UInt8) (acc u : Nat), numR M acc l = some u ↔ Lib.parseUintM M acc l = .ok u
  | [], acc, u => by unfold numR Lib.parseUintM; simp
  | c :: r, acc, u => by
    unfold numR Lib.parseUintM
    by_cases hd : 48 ≤ c.toNat ∧ c.toNat ≤ 57
    · rw [if_pos hd, if_pos hd]
      by_cases hb : 1844674407370955162 ≤ acc
      · rw [if_pos hb, if_pos (by omega)]
        simp
      · rw [if_neg hb]
        by_cases ho : M < acc * 10 + (c.toNat - 48)
        · rw [if_pos ho, if_pos (by omega)]
          simp
        · rw [if_neg ho, if_neg (by omega)]
          exact numR_ok h1 h2 r _ u
    · rw [if_neg hd, if_neg hd]
      simp
theorem dec_push {acc d : Nat} (h : 0 < acc) (hd : d < 10) : Lib.decDigits (acc * 10 + d) = Lib.decDigits acc ++ [UInt8.ofNat (48 + d)] := by
  rw [Lib.decDigits, dif_neg (by omega), show (acc * 10 + d) / 10 = acc by omega, show (acc * 10 + d) % 10 = d by omega]
theorem dig_back {c : UInt8} (h : 48 ≤ c.toNat ∧ c.toNat ≤ 57) : UInt8.ofNat (48 + (c.toNat - 48)) = c := by
  rw [show 48 + (c.toNat - 48) = c.toNat by omega]
  exact UInt8.ofNat_toNat
theorem parse_dec {M : Nat} : ∀ (l : List UInt8) (acc u : Nat), 0 < acc → Lib.parseUintM M acc l = .ok u → Lib.decDigits u = Lib.decDigits acc ++ l
  | [], acc, u, _, h => by
    unfold Lib.parseUintM at h
    obtain rfl : acc = u := by simpa using h
    simp
  | c :: r, acc, u, ha, h => by
    unfold Lib.parseUintM at h
    split at h
    · rename_i hd
      split at h
      · cases h
      · split at h
        · cases h
        · rw [parse_dec r _ u (by omega) h, dec_push ha (by omega), dig_back hd]
          simp
    · cases h
theorem dec_ne (u : Nat) : Lib.decDigits u ≠ [] := fun h => by
  have := Lib.decDigits_length u
  rw [h] at this
  have := Lib.nDigits_pos u
  simp at *
  omega
theorem dec_head : ∀ (n u : Nat), u ≤ n → 0 < u → (Lib.decDigits u).head? ≠ some 48
  | 0, u, h, h0 => by omega
  | n + 1, u, h, h0 => by
    by_cases h1 : u < 10
    · rw [Lib.decDigits_one h1]
      intro e
      have e := congrArg UInt8.toNat (Option.some.inj e)
      simp at e
      omega
    · rw [Lib.decDigits, dif_neg h1]
      have ih := dec_head n (u / 10) (by omega) (by omega)
      obtain ⟨x, t, hx⟩ : ∃ x t, Lib.decDigits (u / 10) = x :: t := by
        cases hq : Lib.decDigits (u / 10) with
        | nil => exact absurd hq (dec_ne _)
        | cons x t => exact ⟨x, t, rfl⟩
      rw [hx] at ih ⊢
      simpa using ih
theorem dec_dig : ∀ (n u : Nat), u ≤ n → ∀ c ∈ Lib.decDigits u, 48 ≤ c.toNat ∧ c.toNat ≤ 57
  | n, u, h, c, hc => by
    by_cases h1 : u < 10
    · rw [Lib.decDigits_one h1] at hc
      have hc := List.mem_singleton.1 hc
      rw [hc, UInt8.toNat_ofNat']
      omega
    · cases n with
      | zero => omega
      | succ n =>
        rw [Lib.decDigits, dif_neg h1] at hc
        rcases List.mem_append.1 hc with hc | hc
        · exact dec_dig n (u / 10) (by omega) c hc
        · have hc := List.mem_singleton.1 hc
          rw [hc, UInt8.toNat_ofNat']
          omega
theorem dec_nb (u : Nat) : ∀ c ∈ Lib.decDigits u, c ≠ 32 := fun c hc e => by
  have := dec_dig u u (Nat.le_refl _) c hc
  rw [e] at this
  exact absurd this.1 (by decide)
theorem dec_parse {M : Nat} (h2 : M ≤ 18446744073709551615) : ∀ (n u : Nat) (l : List UInt8), u ≤ n → u ≤ M → Lib.parseUintM M 0 (Lib.decDigits u ++ l) = Lib.parseUintM M u l
  | n, u, l, h, hu => by
    by_cases h1 : u < 10
    · have e : (UInt8.ofNat (48 + u)).toNat = 48 + u := by rw [UInt8.toNat_ofNat']; omega
      rw [Lib.decDigits_one h1, List.singleton_append, Lib.parseUintM, e, if_pos (by omega), if_neg (by omega), if_neg (by omega)]
      congr 1
      omega
    · cases n with
      | zero => omega
      | succ n =>
        have e : (UInt8.ofNat (48 + u % 10)).toNat = 48 + u % 10 := by rw [UInt8.toNat_ofNat']; omega
        rw [Lib.decDigits, dif_neg h1, List.append_assoc, dec_parse h2 n (u / 10) _ (by omega) (by omega), List.singleton_append, Lib.parseUintM, e, if_pos (by omega), if_neg (by omega), if_neg (by omega)]
        congr 1
        omega
/-- The program's reading of a numeral of so many bits. -/
def numP (B : Nat) (l : List UInt8) : Option Nat :=
  match Lib.parseUintB B l with
  | .ok u => if Lib.decDigits u = l then some u else none
  | _ => none
theorem numP_some {B : Nat} {l : List UInt8} {u : Nat} : numP B l = some u ↔ Lib.parseUintB B l = .ok u ∧ Lib.decDigits u = l := by
  unfold numP
  cases h : Lib.parseUintB B l with
  | ok v =>
    simp only
    split
    · rename_i q
      constructor
      · intro e
        obtain rfl := Option.some.inj e
        exact ⟨rfl, q⟩
      · rintro ⟨e, _⟩
        cases e
        rfl
    · rename_i q
      constructor
      · intro e; cases e
      · rintro ⟨e, e2⟩
        cases e
        exact absurd e2 q
  | «syntax» => simp
  | range => simp
theorem numS_some {M : Nat} (h1 : 9 ≤ M) (h2 : M ≤ 18446744073709551615) (l : List UInt8) (u : Nat) : numS M l = some u ↔ (l ≠ [] ∧ Lib.parseUintM M 0 l = .ok u) ∧ Lib.decDigits u = l := by
  unfold numS
  cases l with
  | nil => simp
  | cons c r =>
    by_cases hc : c = 48
    · subst hc
      cases r with
      | nil =>
        rw [if_neg (by simp), numR_ok h1 h2]
        constructor
        · intro h
          refine ⟨⟨by simp, h⟩, ?_⟩
          have : (0 : Nat) = u := by
            unfold Lib.parseUintM Lib.parseUintM at h
            simpa using h
          subst this
          rw [Lib.decDigits_one (by omega)]
          rfl
        · rintro ⟨⟨_, h⟩, _⟩
          exact h
      | cons d r =>
        rw [if_pos (by right; simp)]
        constructor
        · intro h; cases h
        · rintro ⟨_, h⟩
          exfalso
          by_cases hu : 0 < u
          · have := dec_head u u (Nat.le_refl _) hu
            rw [h] at this
            exact this rfl
          · obtain rfl : u = 0 := by omega
            rw [Lib.decDigits_one (by omega)] at h
            cases h
    · rw [if_neg (by simp [hc]), numR_ok h1 h2]
      constructor
      · intro h
        refine ⟨⟨by simp, h⟩, ?_⟩
        unfold Lib.parseUintM at h
        split at h
        · rename_i hd
          split at h
          · cases h
          · split at h
            · cases h
            · have hc2 : c.toNat ≠ 48 := fun e => hc (UInt8.toNat_inj.1 e)
              rw [parse_dec r _ u (by omega) h, Nat.zero_mul, Nat.zero_add, Lib.decDigits_one (by omega), dig_back hd]
              rfl
        · cases h
      · rintro ⟨⟨_, h⟩, _⟩
        exact h
theorem numP_eq {B : Nat} (hB : 4 ≤ B) (hB2 : B ≤ 64) (l : List UInt8) : numP B l = numS (2 ^ B - 1) l := by
  have h1 : 9 ≤ 2 ^ B - 1 := by
    have := Nat.pow_le_pow_right (n := 2) (by decide) hB
    omega
  have h2 : 2 ^ B - 1 ≤ 18446744073709551615 := by
    have := Nat.pow_le_pow_right (n := 2) (by decide) hB2
    omega
  apply Option.ext
  intro u
  rw [numP_some, numS_some h1 h2]
  unfold Lib.parseUintB
  by_cases h : l = []
  · subst h; simp
  · rw [if_neg h]; simp [h]
theorem numP_dec {B u : Nat} (hB2 : B ≤ 64) (hu : u < 2 ^ B) : numP B (Lib.decDigits u) = some u := by
  have h2 : 2 ^ B - 1 ≤ 18446744073709551615 := by
    have := Nat.pow_le_pow_right (n := 2) (by decide) hB2
    omega
  rw [numP_some]
  refine ⟨?_, rfl⟩
  have := dec_parse h2 u u [] (Nat.le_refl _) (by omega)
  rw [List.append_nil] at this
  unfold Lib.parseUintB
  rw [if_neg (dec_ne u), this]
  unfold Lib.parseUintM
  rfl
theorem numP_lt {B u : Nat} {l : List UInt8} (hB2 : B ≤ 64) (h : numP B l = some u) : u < 2 ^ B := by
  rw [numP_some] at h
  have h := h.1
  unfold Lib.parseUintB at h
  split at h
  · cases h
  · have key : ∀ (l : List UInt8) (acc : Nat), acc ≤ 2 ^ B - 1 → Lib.parseUintM (2 ^ B - 1) acc l = .ok u → u ≤ 2 ^ B - 1 := by
      intro l
      induction l with
      | nil =>
        intro acc ha h
        unfold Lib.parseUintM at h
        obtain rfl : acc = u := by simpa using h
        exact ha
      | cons c r ih =>
        intro acc ha h
        unfold Lib.parseUintM at h
        split at h
        · split at h
          · cases h
          · split at h
            · cases h
            · exact ih _ (by omega) h
        · cases h
    have := key l 0 (Nat.zero_le _) h
    have := Nat.one_le_pow B 2 (by decide)
    omega
end Go.Proofs.YtghfkpddkmaflaaDoor
