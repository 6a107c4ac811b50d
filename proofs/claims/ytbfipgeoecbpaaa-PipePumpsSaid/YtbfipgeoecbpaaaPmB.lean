/- The law PipePumps: what each call makes of the state. No condition but those that each names. -/
import Derived.Test.YtbfipgeoecbpaaaPmA
namespace Go.Proofs.Ytbfipgeoecbpaaa
open Go.RowKit
set_option linter.unusedVariables false
set_option linter.unusedSimpArgs false
set_option maxRecDepth 20000
section
variable {w wr w2 : World} {N : Nms} {room cap : Nat} {S S' : Pm} {P : Nat → Prop} {κ : Nat → Nat} {A U V : Nat → Prop}
theorem PmB.stepA (h : PmB w wr N room cap S S' P κ A U V) {L : List (List UInt8)} {bg : Bool} {lo : Nat} (r : RingL w2 N.br cap 0 L bg lo (grow A wr w2)) (on : Only A wr w2) :
    PmSt w w2 N room cap { S with L := L, bg := bg, lo := lo } S' P ∧ ∀ k o, P k → wr.heap[k]? = some o → w2.heap[k]? = some o := by
  obtain ⟨e1, e2, e3, e4, e5, e6, e7, e8, e9, e10⟩ := h.recol 0 on.size
  have nA : ∀ {k i : Nat}, κ k = i → i ≠ 0 → ¬ A k := fun h1 h2 q => h2 (h1.symm.trans (h.cA _ q))
  refine ⟨⟨⟨rec' wr.heap.size κ 0, grow A wr w2, U, V, ?_⟩⟩, h.keepP on fun k q => by rw [h.cA k q]; decide⟩
  exact { ring := r, pipe := h.pipe.only on (nA h.cp.1 (by decide)) (nA h.cp.2 (by decide)), hun := h.hun.only on (nA h.ch (by decide)), tab := h.tab.only on (nA h.ct (by decide)), rr := h.rr.only on fun k hk => nA (h.cU k hk) (by decide), rp := h.rp.only on fun k hk => nA (h.cV k hk) (by decide), rh := on.keeps h.rh (nA h.cm (by decide)), cA := fun k q => by rcases q with q | q; exact e1 k q; exact e10 k q.1, cp := e2, ch := e3, ct := e4, cU := e5, cV := e6, cm := e7, cP := e8, hP := fun k q => Nat.lt_of_lt_of_le (h.hP k q) on.size, out := e9, bel := h.keepBel on fun k q => by rw [h.cA k q]; decide }
theorem PmB.stepU (h : PmB w wr N room cap S S' P κ A U V) {L : List (List UInt8)} {bg : Bool} {lo : Nat} (r : Rr w2 N.mr cap L bg lo (grow U wr w2)) (on : Only U wr w2) :
    PmSt w w2 N room cap S { S' with L := L, bg := bg, lo := lo } P ∧ ∀ k o, P k → wr.heap[k]? = some o → w2.heap[k]? = some o := by
  obtain ⟨e1, e2, e3, e4, e5, e6, e7, e8, e9, e10⟩ := h.recol 4 on.size
  have nU : ∀ {k i : Nat}, κ k = i → i ≠ 4 → ¬ U k := fun h1 h2 q => h2 (h1.symm.trans (h.cU _ q))
  refine ⟨⟨⟨rec' wr.heap.size κ 4, A, grow U wr w2, V, ?_⟩⟩, h.keepP on fun k q => by rw [h.cU k q]; decide⟩
  exact { ring := h.ring.only on fun k hk => nU (h.cA k hk) (by decide), pipe := h.pipe.only on (nU h.cp.1 (by decide)) (nU h.cp.2 (by decide)), hun := h.hun.only on (nU h.ch (by decide)), tab := h.tab.only on (nU h.ct (by decide)), rr := r, rp := h.rp.only on fun k hk => nU (h.cV k hk) (by decide), rh := on.keeps h.rh (nU h.cm (by decide)), cA := e1, cp := e2, ch := e3, ct := e4, cU := fun k q => by rcases q with q | q; exact e5 k q; exact e10 k q.1, cV := e6, cm := e7, cP := e8, hP := fun k q => Nat.lt_of_lt_of_le (h.hP k q) on.size, out := e9, bel := h.keepBel on fun k q => by rw [h.cU k q]; decide }
theorem PmB.stepV (h : PmB w wr N room cap S S' P κ A U V) {l : List ByteArray} (r : RpV w2 N.mq room l (growV V wr w2)) (on : Only V wr w2) :
    PmSt w w2 N room cap S { S' with l := l } P ∧ ∀ k o, P k → wr.heap[k]? = some o → w2.heap[k]? = some o := by
  obtain ⟨e1, e2, e3, e4, e5, e6, e7, e8, e9, e10⟩ := h.recol 5 on.size
  have nV : ∀ {k i : Nat}, κ k = i → i ≠ 5 → ¬ V k := fun h1 h2 q => h2 (h1.symm.trans (h.cV _ q))
  refine ⟨⟨⟨rec' wr.heap.size κ 5, A, U, growV V wr w2, ?_⟩⟩, h.keepP on fun k q => by rw [h.cV k q]; decide⟩
  exact { ring := h.ring.only on fun k hk => nV (h.cA k hk) (by decide), pipe := h.pipe.only on (nV h.cp.1 (by decide)) (nV h.cp.2 (by decide)), hun := h.hun.only on (nV h.ch (by decide)), tab := h.tab.only on (nV h.ct (by decide)), rr := h.rr.only on fun k hk => nV (h.cU k hk) (by decide), rp := r, rh := on.keeps h.rh (nV h.cm (by decide)), cA := e1, cp := e2, ch := e3, ct := e4, cU := e5, cV := fun k q => by rcases q with q | q; exact e6 k q; exact e10 k q.1, cm := e7, cP := e8, hP := fun k q => Nat.lt_of_lt_of_le (h.hP k q) on.size, out := e9, bel := h.keepBel on fun k q => by rw [h.cV k q]; decide }
/-- The pump: ring and pipe. -/
theorem PmB.stepP (h : PmB w wr N room cap S S' P κ A U V) {L : List (List UInt8)} {bg : Bool} {l : List ByteArray} (r : RingL w2 N.br cap 0 L bg S.lo A) (p : IsPipe w2 N.bp N.c room l false) (on : Only (fun j => j = N.c ∨ A j) wr w2) :
    PmSt w w2 N room cap { S with L := L, bg := bg, l := l } S' P ∧ ∀ k o, P k → wr.heap[k]? = some o → w2.heap[k]? = some o := by
  have n : ∀ {k i : Nat}, κ k = i → i ≠ 0 → i ≠ 1 → ¬ (k = N.c ∨ A k) := fun h1 h2 h3 q => by
    rcases q with q | q
    · exact h3 (h1.symm.trans (by rw [q]; exact h.cp.2))
    · exact h2 (h1.symm.trans (h.cA _ q))
  have c : ∀ k, (k = N.c ∨ A k) → κ k = 0 ∨ κ k = 1 := fun k q => by
    rcases q with q | q
    · exact .inr (by rw [q]; exact h.cp.2)
    · exact .inl (h.cA k q)
  refine ⟨⟨⟨κ, A, U, V, ?_⟩⟩, h.keepP on fun k q => by have := c k q; omega⟩
  exact { h with ring := r, pipe := p, hun := h.hun.only on (n h.ch (by decide) (by decide)), tab := h.tab.only on (n h.ct (by decide) (by decide)), rr := h.rr.only on fun k hk => n (h.cU k hk) (by decide) (by decide), rp := h.rp.only on fun k hk => n (h.cV k hk) (by decide) (by decide), rh := on.keeps h.rh (n h.cm (by decide) (by decide)), hP := fun k q => Nat.lt_of_lt_of_le (h.hP k q) on.size, bel := h.keepBel on fun k q => by have := c k q; omega }
/-- The feed: pipe and hunter. -/
theorem PmB.stepF (h : PmB w wr N room cap S S' P κ A U V) {l : List ByteArray} {T : ByteArray} {R : HS} (p : IsPipe w2 N.bp N.c room l false) (f : Fed w2 N.hb N.tb T R false) (on : Only (fun k => k = N.c ∨ k = N.hb) wr w2) :
    PmSt w w2 N room cap { S with l := l, T := T, p := R.p, nx := R.nx, sk := R.sk, lo2 := R.lo } S' P ∧ ∀ k o, P k → wr.heap[k]? = some o → w2.heap[k]? = some o := by
  have c : ∀ k, (k = N.c ∨ k = N.hb) → κ k = 1 ∨ κ k = 2 := fun k q => by
    rcases q with q | q
    · exact .inl (by rw [q]; exact h.cp.2)
    · exact .inr (by rw [q]; exact h.ch)
  have n : ∀ {k i : Nat}, κ k = i → i ≠ 1 → i ≠ 2 → ¬ (k = N.c ∨ k = N.hb) := fun h1 h2 h3 q => by
    have := c _ q
    omega
  refine ⟨⟨⟨κ, A, U, V, ?_⟩⟩, h.keepP on fun k q => by have := c k q; omega⟩
  exact { h with ring := h.ring.only on fun k hk => n (h.cA k hk) (by decide) (by decide), pipe := p, hun := ⟨f.hu, ⟨f.ok.p, f.ok.nx, f.ok.lo⟩, f.sk⟩, tab := h.tab.only on (n h.ct (by decide) (by decide)), rr := h.rr.only on fun k hk => n (h.cU k hk) (by decide) (by decide), rp := h.rp.only on fun k hk => n (h.cV k hk) (by decide) (by decide), rh := on.keeps h.rh (n h.cm (by decide) (by decide)), hP := fun k q => Nat.lt_of_lt_of_le (h.hP k q) on.size, bel := h.keepBel on fun k q => by have := c k q; omega }
/-- The document's hunter goes on. -/
theorem PmB.stepG (h : PmB w wr N room cap S S' P κ A U V) {T : ByteArray} {p nx sk lo2 : Nat} (r : IsRh w2 N.mh T p nx sk lo2 false) (on : Only (fun k => k = N.mh) wr w2) :
    PmSt w w2 N room cap S { S' with T := T, p := p, nx := nx, sk := sk, lo2 := lo2 } P ∧ ∀ k o, P k → wr.heap[k]? = some o → w2.heap[k]? = some o := by
  have n : ∀ {k i : Nat}, κ k = i → i ≠ 6 → ¬ k = N.mh := fun h1 h2 q => h2 (h1.symm.trans (by rw [q]; exact h.cm))
  refine ⟨⟨⟨κ, A, U, V, ?_⟩⟩, h.keepP on fun k q => by rw [show k = N.mh from q, h.cm]; decide⟩
  exact { h with ring := h.ring.only on fun k hk => n (h.cA k hk) (by decide), pipe := h.pipe.only on (n h.cp.1 (by decide)) (n h.cp.2 (by decide)), hun := h.hun.only on (n h.ch (by decide)), tab := h.tab.only on (n h.ct (by decide)), rr := h.rr.only on fun k hk => n (h.cU k hk) (by decide), rp := h.rp.only on fun k hk => n (h.cV k hk) (by decide), rh := r, hP := fun k q => Nat.lt_of_lt_of_le (h.hP k q) on.size, bel := h.keepBel on fun k q => by rw [show k = N.mh from q, h.cm]; decide }
/-! ### the calls -/
theorem pm_rput (h : PmSt w wr N room cap S S' P) (s : ByteArray) (hlo : S.lo + 1 ≤ 1000000) : Calls Try.prog 40 #[.pointer (some ⟨N.br, 0, none⟩), .string s] wr fun a w' => (∃ k : Int, a = .returned (.int .i64 k)) ∧ PmSt w w' N room cap { S with L := putL cap S.L s.data.toList, lo := S.lo + putN cap S.L s.data.toList } S' P ∧ ∀ k o, P k → wr.heap[k]? = some o → w'.heap[k]? = some o := by
  obtain ⟨κ, A, U, V, b⟩ := h.b
  refine (qput_any b.ring s (by omega)).mono ?_
  rintro a w1 ⟨rfl, r, on⟩
  exact ⟨⟨_, rfl⟩, b.stepA r on⟩
theorem pm_mput (h : PmSt w wr N room cap S S' P) (s : ByteArray) (hlo : S'.lo + 1 ≤ 1000000) (hcap : cap ≤ 1048576) (hl : S'.L.flatten.length ≤ cap) (hll : S'.L.length ≤ 1000000) : Calls Try.prog 44 #[.pointer (some ⟨N.mr, 0, none⟩), .string s] wr fun a w' => (∃ k : Int, a = .returned (.int .i64 k)) ∧ PmSt w w' N room cap S { S' with L := putL cap S'.L s.data.toList, lo := S'.lo + putN cap S'.L s.data.toList } P ∧ ∀ k o, P k → wr.heap[k]? = some o → w'.heap[k]? = some o := by
  obtain ⟨κ, A, U, V, b⟩ := h.b
  refine (rrput_any b.rr s hcap hlo hl hll).mono ?_
  rintro a w1 ⟨⟨k, rfl⟩, r, on⟩
  exact ⟨⟨_, rfl⟩, b.stepU r on⟩
theorem pm_mused (h : PmSt w wr N room cap S S' P) (hl : S'.L.flatten.length ≤ 1000000000) (hll : S'.L.length ≤ 1000000) : Calls Try.prog 45 #[.pointer (some ⟨N.mr, 0, none⟩)] wr fun a w' => a = .returned (.int .i64 S'.L.flatten.length) ∧ wr = w' := by
  obtain ⟨κ, A, U, V, b⟩ := h.b
  exact rrused_any b.rr hl (by omega)
theorem pm_mdrain (h : PmSt w wr N room cap S S' P) (K : Nat) (hK : (K : Int) ≤ 9223372036854775807) (hl : S'.L.flatten.length ≤ 1000000000) (hll : S'.L.length ≤ 1000000) (hpos : ∀ x ∈ S'.L, x ≠ []) : Calls Try.prog 46 #[.pointer (some ⟨N.mr, 0, none⟩), .int .i64 K] wr fun a w' => a = .returned (.string (toB (S'.L.flatten.take K))) ∧ PmSt w w' N room cap S { S' with L := (drn S'.L (min K S'.L.flatten.length) S'.bg).1, bg := (drn S'.L (min K S'.L.flatten.length) S'.bg).2 } P ∧ ∀ k o, P k → wr.heap[k]? = some o → w'.heap[k]? = some o := by
  obtain ⟨κ, A, U, V, b⟩ := h.b
  refine (rrdrain_any b.rr K hK hl hll hpos).mono ?_
  rintro a w1 ⟨rfl, r, on⟩
  exact ⟨rfl, b.stepU r on⟩
theorem pm_offer (h : PmSt w wr N room cap S S' P) (hn : S'.l.length < room) (hr : room ≤ 64) (x : ByteArray) : Calls Try.prog 47 #[.pointer (some ⟨N.mq, 0, none⟩), .string x] wr fun a w' => a = .returned (.bool true) ∧ PmSt w w' N room cap S { S' with l := S'.l ++ [x] } P ∧ ∀ k o, P k → wr.heap[k]? = some o → w'.heap[k]? = some o := by
  obtain ⟨κ, A, U, V, b⟩ := h.b
  refine (voffer_any b.rp hn hr x).mono ?_
  rintro a w1 ⟨rfl, r, on⟩
  exact ⟨rfl, b.stepV r on⟩
theorem pm_pump (h : PmSt w wr N room cap S S' P) (hl : S.l.length ≤ room) (hr : room ≤ 64) (n : Int) (hn0 : -9223372036854775808 ≤ n) (hn1 : n ≤ 9223372036854775807) : Calls Try.prog 41 #[.pointer (some ⟨N.br, 0, none⟩), .pointer (some ⟨N.bp, 0, none⟩), .int .i64 n] wr fun a w' => a = .returned (.int .i64 (pumpN room S.l.length false n S.L.flatten.length)) ∧ PmSt w w' N room cap { S with L := (drn S.L (pumpN room S.l.length false n S.L.flatten.length) S.bg).1, bg := (drn S.L (pumpN room S.l.length false n S.L.flatten.length) S.bg).2, l := if pumpN room S.l.length false n S.L.flatten.length = 0 then S.l else S.l ++ [⟨(S.L.flatten.take (pumpN room S.l.length false n S.L.flatten.length)).toArray⟩] } S' P ∧ ∀ k o, P k → wr.heap[k]? = some o → w'.heap[k]? = some o := by
  obtain ⟨κ, A, U, V, b⟩ := h.b
  refine (pump_any b.ring b.pipe hl hr (fun q => by have := b.cA _ q; have := b.cp.1; omega) (fun q => by have := b.cA _ q; have := b.cp.2; omega) n hn0 hn1).mono ?_
  rintro a w1 ⟨rfl, r, p, on⟩
  exact ⟨rfl, b.stepP r p on⟩
end
end Go.Proofs.Ytbfipgeoecbpaaa
