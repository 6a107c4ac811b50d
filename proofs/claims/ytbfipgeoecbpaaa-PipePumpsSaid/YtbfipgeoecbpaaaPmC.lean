/- The law PipePumps: feeding, taking, the document's hunter. No condition but those that each names. -/
import Derived.Test.YtbfipgeoecbpaaaPmB
namespace Go.Proofs.Ytbfipgeoecbpaaa
open Go.RowKit
set_option linter.unusedVariables false
set_option linter.unusedSimpArgs false
set_option maxRecDepth 20000
def ItsOkP (S : HS) : Prop := S.its.length ≤ 2 * S.p ∧ ∀ x ∈ S.its, x.2.2.2.length ≤ 120
theorem itsOkP_fin {X : ByteArray} {cl : Bool} {S : HS} (h : ItsOkP S) : ItsOkP (hfin X cl S) := by
  refine hfin_ind (Q := ItsOkP) ?_ S h
  rintro T ⟨h1, h2⟩ hs
  have hp := (hstop_no hs).1
  have hn := (hnext_p hp).1
  unfold hnext at hn ⊢
  split
  · exact ⟨by simp only; omega, h2⟩
  · rename_i hk
    rw [if_neg hk] at hn
    unfold hskip at hk
    simp at hk
    obtain ⟨r1, r2, r3, r4⟩ : ∃ a b c, frR X T.p = (0, a, b, c) := ⟨_, _, _, by rw [← hk.1]⟩
    have hok := (frR_ok (Nat.le_of_lt hp) r4).2.2.2.2.2.2
    have hok1 := (frR_ok (Nat.le_of_lt hp) r4).1
    rw [r4] at hn ⊢
    simp only at hn ⊢
    refine ⟨?_, fun x hx => ?_⟩
    · simp only [List.length_append]
      have : (told T.nx r1 r2).length ≤ 2 := by
        unfold told gapI
        split <;> simp
      omega
    · rcases List.mem_append.1 hx with hx | hx
      · exact h2 x hx
      · unfold told gapI at hx
        rcases List.mem_append.1 hx with hx | hx
        · split at hx
          · obtain rfl : x = _ := by simpa using hx
            exact Nat.zero_le _
          · cases hx
        · obtain rfl : x = _ := by simpa using hx
          exact hok
/-- A hunt that went as far as it goes goes no further. -/
theorem hfin_fix (X : ByteArray) (S : HS) (hp : S.p ≤ X.size) : hfin X false ⟨[], (hfin X false S).p, (hfin X false S).nx, (hfin X false S).sk, (hfin X false S).lo⟩ = ⟨[], (hfin X false S).p, (hfin X false S).nx, (hfin X false S).sk, (hfin X false S).lo⟩ := by
  have h1 : hfin X false (hfin X false S) = hfin X false S := Pre.fin ⟨[], by simp⟩ false S hp
  obtain ⟨R, hR⟩ : ∃ R, R = hfin X false S := ⟨_, rfl⟩
  rw [← hR] at h1 ⊢
  have h2 := hfin_tell X false R.its ⟨[], R.p, R.nx, R.sk, R.lo⟩
  have e : (HS.tell R.its ⟨[], R.p, R.nx, R.sk, R.lo⟩ : HS) = R := by unfold HS.tell; simp
  rw [e, h1] at h2
  obtain ⟨Q, hQ⟩ : ∃ Q, Q = hfin X false ⟨[], R.p, R.nx, R.sk, R.lo⟩ := ⟨_, rfl⟩
  rw [← hQ] at h2 ⊢
  obtain ⟨qi, qp, qn, qs, ql⟩ := Q
  have a1 := congrArg HS.its h2
  have a2 := congrArg HS.p h2
  have a3 := congrArg HS.nx h2
  have a4 := congrArg HS.sk h2
  have a5 := congrArg HS.lo h2
  simp only [HS.tell] at a1 a2 a3 a4 a5
  have : qi = [] := by
    have := congrArg List.length a1
    rw [List.length_append] at this
    exact List.eq_nil_of_length_eq_zero (by omega)
  rw [this, a2, a3, a4, a5]
def newP (P : Nat → Prop) (w w' : World) (k : Nat) : Prop := P k ∨ (w.heap.size ≤ k ∧ k < w'.heap.size)
theorem PmB.stepF7 {w wr w2 : World} {N : Nms} {room cap : Nat} {S S' : Pm} {P : Nat → Prop} {κ : Nat → Nat} {A U V : Nat → Prop} (h : PmB w wr N room cap S S' P κ A U V) {l : List ByteArray} {T : ByteArray} {R : HS} (p : IsPipe w2 N.bp N.c room l false) (f : Fed w2 N.hb N.tb T R false) (on : Only (fun k => k = N.c ∨ k = N.hb) wr w2) :
    PmSt w w2 N room cap { S with l := l, T := T, p := R.p, nx := R.nx, sk := R.sk, lo2 := R.lo } S' (newP P wr w2) ∧ ∀ k o, P k → wr.heap[k]? = some o → w2.heap[k]? = some o := by
  obtain ⟨e1, e2, e3, e4, e5, e6, e7, e8, e9, e10⟩ := h.recol 7 on.size
  have c : ∀ k, (k = N.c ∨ k = N.hb) → κ k = 1 ∨ κ k = 2 := fun k q => by
    rcases q with q | q
    · exact .inl (by rw [q]; exact h.cp.2)
    · exact .inr (by rw [q]; exact h.ch)
  have n : ∀ {k i : Nat}, κ k = i → i ≠ 1 → i ≠ 2 → ¬ (k = N.c ∨ k = N.hb) := fun h1 h2 h3 q => by
    have := c _ q
    omega
  refine ⟨⟨⟨rec' wr.heap.size κ 7, A, U, V, ?_⟩⟩, h.keepP on fun k q => by have := c k q; omega⟩
  exact { ring := h.ring.only on fun k hk => n (h.cA k hk) (by decide) (by decide), pipe := p, hun := ⟨f.hu, ⟨f.ok.p, f.ok.nx, f.ok.lo⟩, f.sk⟩, tab := h.tab.only on (n h.ct (by decide) (by decide)), rr := h.rr.only on fun k hk => n (h.cU k hk) (by decide) (by decide), rp := h.rp.only on fun k hk => n (h.cV k hk) (by decide) (by decide), rh := on.keeps h.rh (n h.cm (by decide) (by decide)), cA := e1, cp := e2, ch := e3, ct := e4, cU := e5, cV := e6, cm := e7, cP := fun k q => by rcases q with q | q; exact e8 k q; exact e10 k q.1, hP := fun k q => by rcases q with q | q; exact Nat.lt_of_lt_of_le (h.hP k q) on.size; exact q.2, out := e9, bel := h.keepBel on fun k q => by have := c k q; omega }
theorem ItIn.keep {w w' : World} {lo : Nat} {v : Value} {l : List Itm} (h : ItIn w lo v l) (k : ∀ g o, lo ≤ g → g < w.heap.size → w.heap[g]? = some o → w'.heap[g]? = some o) : ItIn w' lo v l := by
  have key : ∀ {e : TypeId} {size : Nat} {v : Value} {n : Nat} {xs : List Value}, w.ownsRow lo e size v n xs → w'.ownsRow lo e size v n xs := by
    intro e size v n xs ho
    refine ⟨ho.1, ?_⟩
    rcases ho.2 with q | ⟨g, cap, cur, rfl, q4, q5, q6⟩
    · exact .inl q
    · exact .inr ⟨g, cap, cur, rfl, q4, k g _ q4 (blk_lt q5) q5, q6⟩
  exact ⟨key h.own, fun x hx => ⟨(h.evs x hx).1, key (h.evs x hx).2⟩⟩
section
variable {w wr w2 : World} {N : Nms} {room cap : Nat} {S S' : Pm} {P : Nat → Prop}
theorem pm_len (h : PmSt w wr N room cap S S' P) : S.L.flatten.length ≤ cap ∧ cap ≤ 1048576 ∧ S.L.length ≤ S.L.flatten.length ∧ (∀ x ∈ S.L, x ≠ []) ∧ HS.Ok S.T S.hs ∧ S.sk ≤ S.p := by
  obtain ⟨κ, A, U, V, b⟩ := h.b
  obtain ⟨h1, h2, h3, h4, h5⟩ := b.ring.len
  exact ⟨h1, h3, h5, b.ring.pos, b.hun.ok, b.hun.sk⟩
theorem pm_feed_none (h : PmSt w wr N room cap S S' P) (hl : S.l = []) : Calls Try.prog 48 #[.pointer (some ⟨N.bp, 0, none⟩), .pointer (some ⟨N.hb, 0, none⟩)] wr fun a w' => a = .returned (.tuple #[.slice none 0 0, .bool false]) ∧ PmSt w w' N room cap S S' P ∧ ∀ k o, P k → wr.heap[k]? = some o → w'.heap[k]? = some o := by
  obtain ⟨κ, A, U, V, b⟩ := h.b
  have bp := b.pipe
  rw [hl] at bp
  refine (feed_none bp).mono ?_
  rintro a w1 ⟨rfl, p, on⟩
  have hne : ¬ N.hb = N.c := fun e => by have := b.ch; have := b.cp.2; rw [e] at *; omega
  have r := b.stepF (l := []) (T := S.T) (R := S.hs) p (b.hun.only on hne) (on.mono fun k _ e => .inl e)
  have e : ({ S with l := [], T := S.T, p := S.hs.p, nx := S.hs.nx, sk := S.hs.sk, lo2 := S.hs.lo } : Pm) = S := by rw [← hl]; rfl
  rw [e] at r
  exact ⟨rfl, r⟩
theorem pm_feed_some (h : PmSt w wr N room cap S S' P) {x : ByteArray} {t : List ByteArray} (hl : S.l = x :: t) (hs : S.T.size + x.size ≤ 1000000000) : Calls Try.prog 48 #[.pointer (some ⟨N.bp, 0, none⟩), .pointer (some ⟨N.hb, 0, none⟩)] wr fun a w' => ∃ ao cp its, a = .returned (.tuple #[.slice ao its.length cp, .bool true]) ∧ its.map Itm.p = (hfin (S.T ++ x) false S.hs).its ∧ ItIn w' wr.heap.size (.slice ao its.length cp) its ∧
    PmSt w w' N room cap { S with l := t, T := S.T ++ x, p := (hfin (S.T ++ x) false S.hs).p, nx := (hfin (S.T ++ x) false S.hs).nx, sk := (hfin (S.T ++ x) false S.hs).sk, lo2 := (hfin (S.T ++ x) false S.hs).lo } S' (newP P wr w') ∧ ∀ k o, P k → wr.heap[k]? = some o → w'.heap[k]? = some o := by
  obtain ⟨κ, A, U, V, b⟩ := h.b
  have bp := b.pipe
  rw [hl] at bp
  have c1 := b.ch
  have c2 := b.cp
  have c3 := b.ct
  refine (feed_some bp b.hun b.tab (fun e => by rw [e] at c1; omega) (fun e => by rw [e] at c3; omega) (fun e => by rw [e] at c3; omega) (fun e => by rw [e] at c2; omega) hs).mono ?_
  rintro a w1 ⟨ao, cp, its, rfl, q1, q2, q3, q4, on⟩
  exact ⟨ao, cp, its, rfl, q1.symm, q2, b.stepF7 q4 q3 on⟩
theorem pm_take_none (h : PmSt w wr N room cap S S' P) (hl : S'.l = []) : Calls Try.prog 49 #[.pointer (some ⟨N.mq, 0, none⟩)] wr fun a w' => a = .returned (.tuple #[.string ⟨#[]⟩, .bool false]) ∧ wr = w' := by
  obtain ⟨κ, A, U, V, b⟩ := h.b
  have bp := b.rp
  rw [hl] at bp
  exact vtake_none bp
theorem pm_take_some (h : PmSt w wr N room cap S S' P) {x : ByteArray} {t : List ByteArray} (hl : S'.l = x :: t) (h64 : S'.l.length ≤ 64) : Calls Try.prog 49 #[.pointer (some ⟨N.mq, 0, none⟩)] wr fun a w' => a = .returned (.tuple #[.string x, .bool true]) ∧ PmSt w w' N room cap S { S' with l := t } P ∧ (∀ k o, P k → wr.heap[k]? = some o → w'.heap[k]? = some o) ∧ ∃ V : Nat → Prop, (∀ k, V k → k < wr.heap.size ∧ w.heap.size ≤ k) ∧ Only V wr w' := by
  obtain ⟨κ, A, U, V, b⟩ := h.b
  have bp := b.rp
  rw [hl] at bp h64
  refine (vtake_some bp h64).mono ?_
  rintro a w1 ⟨rfl, r, on⟩
  obtain ⟨g1, g2⟩ := b.stepV r on
  exact ⟨rfl, g1, g2, V, fun k hk => ⟨b.rp.foot k hk, by
    rcases Nat.lt_or_ge k w.heap.size with q | q
    · have := b.out k q; have := b.cV k hk; omega
    · exact q⟩, on⟩
theorem pm_T (h : PmSt w wr N room cap S S' P) : wr.cell? ⟨N.mh, 0, none⟩ = some (.string S'.T) ∧ wr.frozen? ⟨N.mh, 0, none⟩ = false ∧ N.mh < wr.heap.size ∧ ∀ X : ByteArray, PmSt w (wr.setCell ⟨N.mh, 0, none⟩ (.string X)) N room cap S { S' with T := X } P ∧ (∀ k o, P k → wr.heap[k]? = some o → (wr.setCell ⟨N.mh, 0, none⟩ (.string X)).heap[k]? = some o) ∧ Only (fun k => k = N.mh) wr (wr.setCell ⟨N.mh, 0, none⟩ (.string X)) := by
  obtain ⟨κ, A, U, V, b⟩ := h.b
  refine ⟨(b.rh.cells).1, frozen_blk b.rh 0, blk_lt b.rh, fun X => ?_⟩
  have on : Only (fun k => k = N.mh) wr (wr.setCell ⟨N.mh, 0, none⟩ (.string X)) := (Only.refl (fun k => k = N.mh) wr).setCell ⟨N.mh, 0, none⟩ (.string X) fun _ => rfl
  have r : IsRh (wr.setCell ⟨N.mh, 0, none⟩ (.string X)) N.mh X S'.p S'.nx S'.sk S'.lo2 false := (blk_setCell b.rh (i := 0) _).trans (by simp)
  obtain ⟨g1, g2⟩ := b.stepG r on
  exact ⟨g1, g2, on⟩
theorem pm_go (h : PmSt w wr N room cap S S' P) (ok : HS.Ok S'.T S'.hs) (hsk : S'.sk ≤ S'.p) (hs : S'.T.size ≤ 1000000000) : Calls Try.prog 51 #[.pointer (some ⟨N.mh, 0, none⟩)] wr fun a w' => ∃ ao cp its, a = .returned (.slice ao its.length cp) ∧ its.map Itm.p = (hfin S'.T false S'.hs).its ∧ ItIn w' wr.heap.size (.slice ao its.length cp) its ∧
    PmSt w w' N room cap S { S' with p := (hfin S'.T false S'.hs).p, nx := (hfin S'.T false S'.hs).nx, sk := (hfin S'.T false S'.hs).sk, lo2 := (hfin S'.T false S'.hs).lo } P ∧ (∀ k o, P k → wr.heap[k]? = some o → w'.heap[k]? = some o) ∧ Only (fun k => k = N.mh) wr w' := by
  obtain ⟨κ, A, U, V, b⟩ := h.b
  have hp := ok.p
  refine (rgo_any wr N.mh S'.T S'.p S'.nx S'.sk S'.lo2 false b.rh hp hs (by have : S'.p ≤ S'.T.size := hp; omega) ok.nx ok.lo).mono ?_
  rintro a w1 ⟨ao, cp, its, rfl, q1, q2, q3, on⟩
  obtain ⟨g1, g2⟩ := b.stepG q3 on
  exact ⟨ao, cp, its, rfl, q1, q2, g1, g2, on⟩
theorem pm_ends (h : PmSt w wr N room cap S S P) (hl : S.L.flatten.length ≤ 1000000000) (hll : S.L.length ≤ 1000000) :
    (∀ a, Calls Try.prog 26 #[.pointer (some ⟨N.br, 0, none⟩)] (wr.drewN a) (fun e w'' => e = .returned (.int .i64 S.L.flatten.length) ∧ ∃ m, w'' = wr.drewN m)) ∧
    (∀ a, Calls Try.prog 45 #[.pointer (some ⟨N.mr, 0, none⟩)] (wr.drewN a) (fun e w'' => e = .returned (.int .i64 S.L.flatten.length) ∧ ∃ m, w'' = wr.drewN m)) ∧
    (∀ a, Calls Try.prog 42 #[.pointer (some ⟨N.bp, 0, none⟩)] (wr.drewN a) (fun e w'' => e = .returned (.int .i64 S.l.length) ∧ ∃ m, w'' = wr.drewN m)) ∧
    ∃ oa oc, wr.cell? ⟨N.mq, 1, none⟩ = some (.slice oa S.l.length oc) := by
  obtain ⟨κ, A, U, V, b⟩ := h.b
  refine ⟨fun a => ?_, fun a => ?_, fun a => ?_, b.rp.len⟩
  · exact (qused_any (b.below (kept_drewN wr a)).ring).mono fun e w' h => ⟨h.1, a, h.2.symm⟩
  · exact (rrused_any (b.below (kept_drewN wr a)).rr hl (by omega)).mono fun e w' h => ⟨h.1, a, h.2.symm⟩
  · exact (pipeLen_any (b.below (kept_drewN wr a)).pipe).mono fun e w' h => ⟨h.1, a, h.2.symm⟩
end
end Go.Proofs.Ytbfipgeoecbpaaa
