/- Instructions' lines and programs' texts, in plain words: each leads back to the other. No program in sight. No condition but those that each names. -/
import Derived.Test.YtghfkpddkmaflaaDoorLi
namespace Go.Proofs.YtghfkpddkmaflaaDoor
open Go
set_option linter.unusedVariables false
set_option linter.unusedSimpArgs false
/-- No blank, no line's end. -/
def Nb (w : List UInt8) : Prop := ∀ c ∈ w, c ≠ 32 ∧ c ≠ 10
theorem Nb.b {w : List UInt8} (h : Nb w) : ∀ c ∈ w, c ≠ 32 := fun c hc => (h c hc).1
theorem dec_nbn (u : Nat) : Nb (Lib.decDigits u) := fun c hc => by
  have := dec_dig u u (Nat.le_refl _) c hc
  constructor
  · intro e; rw [e] at this; exact absurd this.1 (by decide)
  · intro e; rw [e] at this; exact absurd this.1 (by decide)
theorem rgL_nb (n : Int) : Nb (rgL n) := fun c hc => by
  rcases List.mem_cons.1 hc with rfl | hc
  · decide
  · exact dec_nbn _ c hc
theorem inm_nb : ∀ k : Nat, k ≤ 38 → ∀ c ∈ (inm k).data.toList, c ≠ 32 ∧ c ≠ 10 := by decide +kernel
theorem mdB_nb (d : Int) : Nb (mdB d).data.toList := by
  unfold mdB
  split
  · unfold Nb; decide
  · split
    · unfold Nb; decide
    · unfold Nb; decide
theorem ite_nb {p : Bool} {x : List UInt8} (hx : Nb x) : ∀ w ∈ (if p then [x] else []), Nb w := by
  intro w hw
  cases p
  · cases hw
  · rcases List.mem_cons.1 hw with rfl | hw
    · exact hx
    · cases hw
theorem linW_nb {i : Ins} (h : 1 ≤ i.o ∧ i.o ≤ 38) : ∀ w ∈ linW i, Nb w := by
  intro w hw
  unfold linW at hw
  rcases List.mem_cons.1 hw with rfl | hw
  · have := inm_nb i.o.toNat (by omega)
    rw [show ((i.o.toNat : Nat) : Int) = i.o by omega] at this
    exact this
  · rcases List.mem_append.1 hw with hw | hw
    · exact ite_nb (rgL_nb _) w hw
    · rcases List.mem_append.1 hw with hw | hw
      · exact ite_nb (rgL_nb _) w hw
      · rcases List.mem_append.1 hw with hw | hw
        · exact ite_nb (mdB_nb _) w hw
        · rcases List.mem_append.1 hw with hw | hw
          · exact ite_nb (rgL_nb _) w hw
          · exact ite_nb (dec_nbn _) w hw
theorem wds_lin {i : Ins} (h : 1 ≤ i.o ∧ i.o ≤ 38) : wds (lin i) = linW i :=
  wds_join (linW i) (by unfold linW; simp) fun w hw => (linW_nb h w hw).b
theorem join_nb : ∀ (L : List (List UInt8)) (h : ∀ w ∈ L, Nb w), ∀ c ∈ joinW L, c ≠ 10
  | [], _, c, hc => by cases hc
  | [x], h, c, hc => (h x List.mem_cons_self c hc).2
  | x :: y :: r, h, c, hc => by
    have hc : c ∈ x ++ 32 :: joinW (y :: r) := hc
    rcases List.mem_append.1 hc with hc | hc
    · exact (h x List.mem_cons_self c hc).2
    · rcases List.mem_cons.1 hc with rfl | hc
      · decide
      · exact join_nb (y :: r) (fun w hw => h w (List.mem_cons_of_mem _ hw)) c hc
theorem rdR_rg : ∀ n : Nat, n < 8 → rdR (rgL n) = some n := by
  intro n hn
  have e : rgL (n : Int) = [114, UInt8.ofNat (48 + n)] := by
    unfold rgL
    rw [Int.toNat_natCast, Lib.decDigits_one (by omega)]
  have e2 : (UInt8.ofNat (48 + n)).toNat = 48 + n := by rw [UInt8.toNat_ofNat']; omega
  rw [e, rdR, e2, if_pos ⟨rfl, by omega, by omega⟩]
  congr 1
  omega
theorem rdR_back {w : List UInt8} {n : Nat} (h : rdR w = some n) : rgL n = w ∧ n < 8 := by
  unfold rdR at h
  split at h
  · rename_i x y
    split at h
    · rename_i hc
      obtain ⟨rfl, h1, h2⟩ := hc
      have h := Option.some.inj h
      refine ⟨?_, by omega⟩
      unfold rgL
      rw [Int.toNat_natCast, Lib.decDigits_one (by omega)]
      have : UInt8.ofNat (48 + n) = y := by
        rw [show 48 + n = y.toNat by omega]
        exact UInt8.ofNat_toNat
      rw [this]
    · cases h
  · cases h
theorem rdD_md : ∀ d : Nat, d < 3 → rdD (mdB d).data.toList = some d := by decide +kernel
theorem rdD_back {w : List UInt8} {n : Nat} (h : rdD w = some n) : (mdB n).data.toList = w ∧ n < 3 := by
  unfold rdD at h
  split at h
  · cases h; exact ⟨by rename_i e; exact e.symm, by decide⟩
  · split at h
    · cases h; exact ⟨by rename_i e; exact e.symm, by decide⟩
    · split at h
      · cases h; exact ⟨by rename_i e; exact e.symm, by decide⟩
      · cases h
theorem tkF_put {rd : List UInt8 → Option Nat} (h : Bool) {x : List UInt8} {n : Nat} (h1 : h = true → rd x = some n) (h0 : h = false → n = 0) (r : List (List UInt8)) : tkF h rd ((if h then [x] else []) ++ r) = some (n, r) := by
  cases h
  · rw [h0 rfl]; rfl
  · show (rd x).map _ = _
    rw [h1 rfl]
    rfl
theorem tkF_back {rd : List UInt8 → Option Nat} {h : Bool} {r t : List (List UInt8)} {n : Nat} (e : tkF h rd r = some (n, t)) : (h = false → r = t ∧ n = 0) ∧ (h = true → ∃ x, r = x :: t ∧ rd x = some n) := by
  cases h
  · have e : some (0, r) = some (n, t) := e
    cases e
    exact ⟨fun _ => ⟨rfl, rfl⟩, fun h => by cases h⟩
  · cases r with
    | nil => cases e
    | cons x u =>
      have e : (rd x).map (fun n => (n, u)) = some (n, t) := e
      obtain ⟨m, hm, he⟩ := Option.map_eq_some_iff.1 e
      cases he
      exact ⟨fun h => (by cases h), fun _ => ⟨x, rfl, hm⟩⟩
theorem ichk_ok {i : Ins} (h : i.chk = 0) : (1 ≤ i.o ∧ i.o ≤ 38) ∧ i.okB = true := by
  unfold Ins.chk at h
  split at h
  · rename_i h1
    split at h
    · exact ⟨by simpa [isI] using h1, by assumption⟩
    · cases h
  · cases h
theorem rgB_some {n : Int} {h : Bool} (e : rgB n h = true) : ∃ m : Nat, n = m ∧ m < 8 ∧ (h = false → m = 0) := by
  unfold rgB at e
  simp only [Bool.and_eq_true, Bool.or_eq_true, decide_eq_true_eq, beq_iff_eq] at e
  obtain ⟨h1, h2, h3⟩ := e
  refine ⟨n.toNat, by omega, by omega, fun q => ?_⟩
  rcases h3 with h3 | h3
  · rw [q] at h3; cases h3
  · omega
theorem ins_lin {i : Ins} (w : i.Wf) (h : i.chk = 0) : ins (lin i) = (i, 0) := by
  obtain ⟨h1, h2⟩ := ichk_ok h
  unfold Ins.okB at h2
  simp only [Bool.and_eq_true] at h2
  obtain ⟨⟨ha, hb, hc⟩, ⟨d0, d2, dd, dk⟩, _⟩ := h2
  obtain ⟨a, ea, la, za⟩ := rgB_some ha
  obtain ⟨b, eb, lb, zb⟩ := rgB_some hb
  obtain ⟨c, ec, lc, zc⟩ := rgB_some hc
  have d0 : 0 ≤ i.d := by simpa using d0
  have d2 : i.d ≤ 2 := by simpa using d2
  obtain ⟨d, ed⟩ : ∃ d : Nat, i.d = d := ⟨i.d.toNat, by omega⟩
  obtain ⟨o, eo⟩ : ∃ o : Nat, i.o = o := ⟨i.o.toNat, by omega⟩
  have zd : uD i.o = false → d = 0 := fun q => by
    rw [q] at dd
    have : i.d = 0 := by simpa using dd
    omega
  have zk : uK i.o = false → i.k = 0 := fun q => by
    rw [q] at dk
    simpa using dk
  have hE : insE (linW i) = some i := by
    have ek : iop ⟨((linW i).getD 0 []).toArray⟩ = o := by
      show iop (inm i.o) = o
      rw [eo]
      exact (iop_nm o (by omega) (by omega)).1
    unfold insE
    simp only [ek]
    rw [if_neg (by omega)]
    have er : (linW i).drop 1 = (if uA i.o then [rgL i.a] else []) ++ ((if uB i.o then [rgL i.b] else []) ++ ((if uD i.o then [(mdB i.d).data.toList] else []) ++ ((if hC i.o i.d then [rgL i.c] else []) ++ ((if uK i.o then [Lib.decDigits i.k] else []) ++ [])))) := by
      rw [List.append_nil]; rfl
    rw [er, ← eo, tkF_put (rd := rdR) (uA i.o) (n := a) (fun _ => by rw [ea]; exact rdR_rg a la) za]
    simp only [Option.bind_some]
    rw [tkF_put (rd := rdR) (uB i.o) (n := b) (fun _ => by rw [eb]; exact rdR_rg b lb) zb]
    simp only [Option.bind_some]
    rw [tkF_put (rd := rdD) (uD i.o) (n := d) (fun _ => by rw [ed]; exact rdD_md d (by omega)) zd]
    simp only [Option.bind_some]
    rw [← ed, tkF_put (rd := rdR) (hC i.o i.d) (n := c) (fun _ => by rw [ec]; exact rdR_rg c lc) zc]
    simp only [Option.bind_some]
    rw [tkF_put (rd := numP 32) (uK i.o) (n := i.k) (fun _ => numP_dec (by decide) w.k) zk]
    simp only [Option.bind_some]
    rw [if_pos trivial, ← ea, ← eb, ← ec]
  unfold ins
  rw [wds_lin h1, hE]
  show ifin i = _
  unfold ifin
  rw [if_pos h]
theorem put_of {rd : List UInt8 → Option Nat} {h : Bool} {r t : List (List UInt8)} {n : Nat} {x : List UInt8} (e : tkF h rd r = some (n, t)) (hx : ∀ y, rd y = some n → y = x) : r = (if h then [x] else []) ++ t := by
  obtain ⟨e0, e1⟩ := tkF_back e
  cases h
  · exact (e0 rfl).1
  · obtain ⟨y, hy, hr⟩ := e1 rfl
    rw [hy, hx y hr]
    rfl
theorem ins_back {l : List UInt8} {i : Ins} (h : ins l = (i, 0)) : i.Wf ∧ i.chk = 0 ∧ lin i = l := by
  unfold ins at h
  cases hp : insE (wds l) with
  | none => rw [hp] at h; cases h
  | some j =>
    rw [hp] at h
    have h : ifin j = (i, 0) := h
    unfold ifin at h
    split at h
    case isFalse hc => exact absurd (congrArg Prod.snd h) hc
    case isTrue hc =>
      cases h
      unfold insE at hp
      simp only at hp
      split at hp
      · cases hp
      · rename_i ho
        obtain ⟨o1, o2, o3⟩ := iop_some ho
        obtain ⟨x0, W, hW⟩ : ∃ x W, wds l = x :: W := ⟨_, _, wds_cons l⟩
        rw [hW] at hp o1 o2 o3 ho
        have e0 : (x0 :: W).getD 0 [] = x0 := rfl
        have e1 : (x0 :: W).drop 1 = W := rfl
        rw [e0, e1] at hp
        rw [e0] at o1 o2 o3
        generalize hoo : iop ⟨x0.toArray⟩ = o at hp o1 o2 o3
        obtain ⟨⟨a, ra⟩, ha, hp⟩ := Option.bind_eq_some_iff.1 hp
        obtain ⟨⟨b, rb⟩, hb, hp⟩ := Option.bind_eq_some_iff.1 hp
        obtain ⟨⟨d, rd'⟩, hd, hp⟩ := Option.bind_eq_some_iff.1 hp
        obtain ⟨⟨c, rc⟩, hc', hp⟩ := Option.bind_eq_some_iff.1 hp
        obtain ⟨⟨k, rk⟩, hk, hp⟩ := Option.bind_eq_some_iff.1 hp
        simp only at ha hb hd hc' hk hp
        split at hp
        · rename_i hr
          cases hp
          have la : a < 8 := by
            have q := tkF_back ha
            cases hu : uA o with
            | false => rw [(q.1 hu).2]; decide
            | true => obtain ⟨y, _, hy⟩ := q.2 hu; exact (rdR_back hy).2
          have lb : b < 8 := by
            have q := tkF_back hb
            cases hu : uB o with
            | false => rw [(q.1 hu).2]; decide
            | true => obtain ⟨y, _, hy⟩ := q.2 hu; exact (rdR_back hy).2
          have ld : d < 3 := by
            have q := tkF_back hd
            cases hu : uD o with
            | false => rw [(q.1 hu).2]; decide
            | true => obtain ⟨y, _, hy⟩ := q.2 hu; exact (rdD_back hy).2
          have lc : c < 8 := by
            have q := tkF_back hc'
            cases hu : hC o d with
            | false => rw [(q.1 hu).2]; decide
            | true => obtain ⟨y, _, hy⟩ := q.2 hu; exact (rdR_back hy).2
          have lk : k < 4294967296 := by
            have q := tkF_back hk
            cases hu : uK o with
            | false => rw [(q.1 hu).2]; decide
            | true => obtain ⟨y, _, hy⟩ := q.2 hu; simpa using numP_lt (by decide) hy
          refine ⟨⟨by simp only; omega, by simp only; omega, by simp only; omega, by simp only; omega, by simp only; omega, lk⟩, hc, ?_⟩
          have pa := put_of (x := rgL a) ha fun y hy => (rdR_back hy).1.symm
          have pb := put_of (x := rgL b) hb fun y hy => (rdR_back hy).1.symm
          have pd := put_of (x := (mdB d).data.toList) hd fun y hy => (rdD_back hy).1.symm
          have pc := put_of (x := rgL c) hc' fun y hy => (rdR_back hy).1.symm
          have pk := put_of (x := Lib.decDigits k) hk fun y hy => (numP_some.1 hy).2.symm
          have hL : linW ⟨o, a, b, c, d, k⟩ = wds l := by
            rw [hW, pa, pb, pd, pc, pk, hr, List.append_nil]
            unfold linW
            rw [o3]
          have e2 := joinW_wds l
          rw [← hL] at e2
          exact e2
        · cases hp
end Go.Proofs.YtghfkpddkmaflaaDoor
