/- Contracts of package cursor: readers and writers. No condition but those that each names. -/
import Derived.Test.YtbfipgeoecbpaaaProg
import Derived.Test.YtbfipgeoecbpaaaCore
namespace Go.Proofs.Ytbfipgeoecbpaaa
open Go.RowKit

/-- Block b is a reader of s at place k. -/
def IsRd (w : World) (b : Nat) (s : ByteArray) (k : Nat) : Prop := w.heap[b]? = some (.cells #[.string s, .int .i64 k] 196 (0, 0))
theorem IsRd.c0 {w : World} {b : Nat} {s : ByteArray} {k : Nat} (h : IsRd w b s k) : w.cell? ⟨b, 0, none⟩ = some (.string s) := by rw [cell_blk h]; rfl
theorem IsRd.c1 {w : World} {b : Nat} {s : ByteArray} {k : Nat} (h : IsRd w b s k) : w.cell? ⟨b, 1, none⟩ = some (.int .i64 k) := by rw [cell_blk h]; rfl
theorem IsRd.f1 {w : World} {b : Nat} {s : ByteArray} {k : Nat} (h : IsRd w b s k) : w.frozen? ⟨b, 1, none⟩ = false := frozen_blk h 1
theorem IsRd.drewN {w : World} {b : Nat} {s : ByteArray} {k : Nat} (h : IsRd w b s k) (n : Nat) : IsRd (w.drewN n) b s k := h
theorem IsRd.only {S : Nat → Prop} {w w' : World} {b : Nat} {s : ByteArray} {k : Nat} (h : IsRd w b s k) (o : Only S w w') (hn : ¬ S b) : IsRd w' b s k := o.keeps h hn
theorem IsRd.set {w : World} {b : Nat} {s : ByteArray} {k : Nat} (h : IsRd w b s k) (m : Nat) : IsRd (w.setCell ⟨b, 1, none⟩ (.int .i64 m)) b s m := by
  have := blk_setCell h (i := 1) (.int .i64 m)
  exact this

/-- Block b is a writer that has the bytes l; its row, if it has one, is among R. -/
def IsWr (w : World) (b : Nat) (R : Nat → Prop) (l : List UInt8) : Prop :=
  ∃ v, w.heap[b]? = some (.cells #[v] 128 (0, 0)) ∧ w.ownsRow 0 5 1 v l.length (bv l) ∧ ∀ k, v.ownBlock = some k → R k ∧ k ≠ b ∧ k < w.heap.size
theorem IsWr.mono {w : World} {b : Nat} {R R' : Nat → Prop} {l : List UInt8} (h : IsWr w b R l) (hr : ∀ k, R k → R' k) : IsWr w b R' l := by
  obtain ⟨v, h1, h2, h3⟩ := h
  exact ⟨v, h1, h2, fun k hk => ⟨hr k (h3 k hk).1, (h3 k hk).2⟩⟩
theorem IsWr.only {S R : Nat → Prop} {w w' : World} {b : Nat} {l : List UInt8} (h : IsWr w b R l) (o : Only S w w') (hb : ¬ S b) (hr : ∀ k, k < w.heap.size → R k → ¬ S k) : IsWr w' b R l := by
  obtain ⟨v, h1, h2, h3⟩ := h
  refine ⟨v, o.keeps h1 hb, ?_, fun k hk => ⟨(h3 k hk).1, (h3 k hk).2.1, Nat.lt_of_lt_of_le (h3 k hk).2.2 o.size⟩⟩
  obtain ⟨q1, q2⟩ := h2
  refine ⟨q1, ?_⟩
  rcases q2 with q | ⟨g, cap, cur, rfl, hg, hh, r⟩
  · exact .inl q
  · exact .inr ⟨g, cap, cur, rfl, hg, o.keeps hh (hr g (blk_lt hh) (h3 g rfl).1), r⟩
theorem IsWr.drewN {w : World} {b : Nat} {R : Nat → Prop} {l : List UInt8} (h : IsWr w b R l) (n : Nat) : IsWr (w.drewN n) b R l := h
theorem IsWr.new (w : World) (R : Nat → Prop) : IsWr (w.alloc (.cells #[.slice none 0 0] 128)) w.heap.size R [] :=
  ⟨.slice none 0 0, heap_alloc_new w _, World.ownsRow_nil _ _ _ _, fun k hk => by cases hk⟩

theorem info_u8 : (Try.prog.info? 5).map (fun i => (i.zero, i.size, i.bytes)) = some (some (.int .u8 0), 1, 1) := by kernel_rfl
theorem ul_bytes : Try.prog.underlying 97 = some (.slice 5) := by kernel_rfl
theorem ul_string : Try.prog.underlying 9 = some .string := by kernel_rfl

/-- What a writer's step leaves. -/
def WrPost (w : World) (b : Nat) (R : Nat → Prop) (l : List UInt8) (w' : World) : Prop :=
  IsWr w' b (fun k => R k ∨ w.heap.size ≤ k) l ∧ Only (fun k => k = b ∨ R k) w w'

theorem wr_stored {w w1 : World} {b : Nat} {R : Nat → Prop} {l' : List UInt8} {v v' : Value} (hb : w.heap[b]? = some (.cells #[v] 128 (0, 0)))
    (hk : ∀ k, v.ownBlock = some k → R k ∧ k ≠ b ∧ k < w.heap.size) (hown : w1.ownsRow 0 5 1 v' l'.length (bv l')) (hg : w.grownBy w1 v.ownBlock) (hat : v'.ownBlock = v.ownBlock ∨ v'.ownBlock = some w.heap.size) (n : Nat) :
    WrPost w b R l' ((w1.setCell ⟨b, 0, none⟩ v').drewN n) := by
  have hb1 : w1.heap[b]? = some (.cells #[v] 128 (0, 0)) := (hg.block b (blk_lt hb) (fun e => (hk b e.symm).2.1 rfl)).trans hb
  have key : ∀ k, v'.ownBlock = some k → k ≠ b ∧ k < w1.heap.size := by
    intro k hk'
    rcases hown.2 with ⟨rfl, _⟩ | ⟨g, cap, cur, rfl, _, hh, _⟩
    · cases hk'
    · cases hk'
      refine ⟨fun e => ?_, blk_lt hh⟩
      subst e
      rw [hb1] at hh
      simp at hh
  have hsz : (w1.setCell ⟨b, 0, none⟩ v').heap.size = w1.heap.size := by simp [World.setCell]
  refine ⟨⟨v', ?_, ?_, fun k hk' => ⟨?_, (key k hk').1, ?_⟩⟩, ?_⟩
  · exact blk_setCell hb1 (i := 0) v'
  · obtain ⟨q1, q2⟩ := hown
    refine ⟨q1, ?_⟩
    rcases q2 with q | ⟨g, cap, cur, rfl, hg', hh, r⟩
    · exact .inl q
    · exact .inr ⟨g, cap, cur, rfl, hg', blk_setCell_other (p := ⟨b, 0, none⟩) hh (key g rfl).1 _, r⟩
  · rcases hat with h | h
    · exact .inl (hk k (h ▸ hk')).1
    · rw [h] at hk'; cases hk'; exact .inr (Nat.le_refl _)
  · show k < (w1.setCell ⟨b, 0, none⟩ v').heap.size
    rw [hsz]; exact (key k hk').2
  · exact ((Only.refl _ w).grown hg (fun k hk' _ => .inr (hk k hk').1)).setCell _ _ (fun _ => .inl rfl) |>.drewN n

theorem put_any {w : World} {b : Nat} {R : Nat → Prop} {l : List UInt8} (h : IsWr w b R l) (x : Value) (bs : List UInt8) (hx : Src w x bs.length (bv bs)) (hlen : l.length + bs.length ≤ 140737488355328) :
    Calls Try.prog 100 #[.pointer (some ⟨b, 0, none⟩), x] w fun e w' => e = .returned (.tuple #[]) ∧ WrPost w b R (l ++ bs) w' := by
  obtain ⟨v, hb, hown, hk⟩ := h
  obtain ⟨i0, hi, hz0, hz1, hz2⟩ := info_parts info_u8
  have hc0 : w.cell? ⟨b, 0, none⟩ = some v := by rw [cell_blk hb]; rfl
  have hf0 : w.frozen? ⟨b, 0, none⟩ = false := frozen_blk hb 0
  go_enter Try.func100, Try.ntmps100
  go_wp2_with (at_builtin; refine list_append rfl (.tmp 10) (.tmp 11) 97 rfl 0 (Nat.zero_le _) 5 i0 (.int .u8 0) 1 1 ul_bytes hi hz0 hz1 hz2 rfl (by decide) v l.length (bv l) rfl hown x bs.length (bv bs) rfl (by simp [bv_length]) hx (bv_one bs) (by unfold maxLen; omega) (by omega) ?_; intro ao cap w1 hown' hg hat; have hc1 : w1.cell? ⟨b, 0, none⟩ = some v := (World.cell?_of_block (w := w) (hg.block b (blk_lt hb) (fun e => (hk b e.symm).2.1 rfl))).trans hc0; have hf1 : w1.frozen? ⟨b, 0, none⟩ = false := (World.frozen?_of_block (w := w) (hg.block b (blk_lt hb) (fun e => (hk b e.symm).2.1 rfl))).trans hf0)
  go_end0
  refine ⟨rfl, ?_⟩
  exact wr_stored (l' := l ++ bs) hb hk (by rw [bv_append, List.length_append]; assumption) (by assumption) (by assumption) 0
theorem WrPost.trans {w w1 w2 : World} {b : Nat} {R : Nat → Prop} {l l' : List UInt8} (h : WrPost w b R l w1) (k : WrPost w1 b (fun i => R i ∨ w.heap.size ≤ i) l' w2) : WrPost w b R l' w2 := by
  refine ⟨k.1.mono fun i hi => ?_, h.2.trans k.2 fun i hi hs => ?_⟩
  · rcases hi with hi | hi
    · exact hi
    · exact .inr (Nat.le_trans h.2.size hi)
  · rcases hs with hs | hs | hs
    · exact .inl hs
    · exact .inr hs
    · exact absurd hi (Nat.not_lt.2 hs)
theorem WrPost.start {w : World} {b : Nat} {R : Nat → Prop} {l : List UInt8} (h : IsWr w b R l) : WrPost w b R l w := ⟨h.mono fun _ hk => .inl hk, Only.refl _ _⟩
theorem WrPost.drewN {w w1 : World} {b : Nat} {R : Nat → Prop} {l : List UInt8} (h : WrPost w b R l w1) (n : Nat) : WrPost w b R l (w1.drewN n) := ⟨h.1, h.2.drewN n⟩
theorem IsWr.alloc {w : World} {b : Nat} {R : Nat → Prop} {l : List UInt8} (h : IsWr w b R l) (o : Obj) : IsWr (w.alloc o) b R l :=
  h.only ((Only.refl (fun _ => False) w).alloc o) (fun x => x) (fun _ _ _ x => x)
/-- One byte, laid into a new block, is put. -/
theorem put_one {w : World} {b : Nat} {R : Nat → Prop} {l : List UInt8} (h : IsWr w b R l) (x : Int) (c : UInt8) (hx : x = c.toNat) (hlen : l.length + 1 ≤ 140737488355328) :
    Calls Try.prog 100 #[.pointer (some ⟨b, 0, none⟩), .slice (some ⟨w.heap.size, 0, none⟩) 1 1] (w.alloc (.cells #[.int .u8 x] 5)) fun e w' => e = .returned (.tuple #[]) ∧ WrPost w b R (l ++ [c]) w' := by
  subst hx
  refine (put_any (h.alloc _) _ [c] ?_ (by simpa using hlen)).mono ?_
  · refine .inr ⟨_, _, rfl, fun j u hj => ?_⟩
    match j, hj with
    | 0, hj => simp [bv] at hj; subst hj; simp [Addr.add]
    | j + 1, hj => simp [bv] at hj
  · rintro e w' ⟨rfl, hw⟩
    refine ⟨rfl, hw.1.mono fun i hi => ?_, ((Only.refl (fun k => k = b ∨ R k) w).alloc _).trans hw.2 fun i _ hs => hs⟩
    rcases hi with hi | hi
    · exact .inl hi
    · exact .inr (by simp at hi; omega)
theorem text_any {w : World} {b : Nat} {R : Nat → Prop} {l : List UInt8} (h : IsWr w b R l) (s : ByteArray) (hlen : l.length + s.size ≤ 140737488355328) :
    Calls Try.prog 70 #[.pointer (some ⟨b, 0, none⟩), .string s] w fun e w' => e = .returned (.tuple #[]) ∧ WrPost w b R (l ++ s.data.toList) w' := by
  obtain ⟨v, hb, hown, hk⟩ := h
  obtain ⟨i0, hi, hz0, hz1, hz2⟩ := info_parts info_u8
  have hc0 : w.cell? ⟨b, 0, none⟩ = some v := by rw [cell_blk hb]; rfl
  have hf0 : w.frozen? ⟨b, 0, none⟩ = false := frozen_blk hb 0
  go_enter Try.func70, Try.ntmps70
  go_wp2_with (at_builtin; refine list_append_str rfl (.tmp 10) (.tmp 11) 97 9 rfl 0 (Nat.zero_le _) 5 i0 ul_bytes ul_string hi hz0 hz1 hz2 v l.length (bv l) rfl hown s rfl (by unfold maxLen; omega) (by omega) ?_; intro ao cap w1 hown' hg hat; have hc1 : w1.cell? ⟨b, 0, none⟩ = some v := (World.cell?_of_block (w := w) (hg.block b (blk_lt hb) (fun e => (hk b e.symm).2.1 rfl))).trans hc0; have hf1 : w1.frozen? ⟨b, 0, none⟩ = false := (World.frozen?_of_block (w := w) (hg.block b (blk_lt hb) (fun e => (hk b e.symm).2.1 rfl))).trans hf0)
  go_end0
  refine ⟨rfl, ?_⟩
  refine wr_stored (l' := l ++ s.data.toList) hb hk (by rw [bv_append, List.length_append, ← strCells_bv]; assumption) (by assumption) (by assumption) 0
theorem put_nil (x : Value) (w : World) :
    Calls Try.prog 100 #[.pointer none, x] w fun e w' => e = .returned (.tuple #[]) ∧ w = w' := by
  go_enter Try.func100, Try.ntmps100
  go_wp2
  go_end0
  exact ⟨rfl, rfl⟩
theorem text_nil (x : Value) (w : World) :
    Calls Try.prog 70 #[.pointer none, x] w fun e w' => e = .returned (.tuple #[]) ∧ w = w' := by
  go_enter Try.func70, Try.ntmps70
  go_wp2
  go_end0
  exact ⟨rfl, rfl⟩
theorem len_any {w : World} {b : Nat} {R : Nat → Prop} {l : List UInt8} (h : IsWr w b R l) :
    Calls Try.prog 81 #[.pointer (some ⟨b, 0, none⟩)] w fun e w' => e = .returned (.int .i64 l.length) ∧ ∃ n, w.drewN n = w' := by
  obtain ⟨v, hb, hown, hk⟩ := h
  obtain ⟨ao, cap, rfl⟩ := owns_form hown
  have hc0 : w.cell? ⟨b, 0, none⟩ = some (.slice ao l.length cap) := by rw [cell_blk hb]; rfl
  go_enter Try.func81, Try.ntmps81
  go_wp2
  go_ret
  exact ⟨rfl, 0, rfl⟩
theorem string_any {w : World} {b : Nat} {R : Nat → Prop} {l : List UInt8} (h : IsWr w b R l) :
    Calls Try.prog 75 #[.pointer (some ⟨b, 0, none⟩)] w fun e w' => e = .returned (.string ⟨l.toArray⟩) ∧ ∃ n, w.drewN n = w' := by
  obtain ⟨v, hb, hown, hk⟩ := h
  obtain ⟨ao, cap, rfl⟩ := owns_form hown
  have hc0 : w.cell? ⟨b, 0, none⟩ = some (.slice ao l.length cap) := by rw [cell_blk hb]; rfl
  have hcv := run_str_own (P := Try.prog) (src := 97) (dst := 9) hown ul_bytes (by kernel_rfl) ul_string
  go_enter Try.func75, Try.ntmps75
  go_wp2
  go_ret
  exact ⟨rfl, 0, rfl⟩

/-! ### the reader -/
theorem new_any (s : ByteArray) (w : World) :
    Calls Try.prog 107 #[.string s] w fun e w' => e = .returned (.pointer (some ⟨w.heap.size, 0, none⟩)) ∧ w.alloc (.cells #[.string s, .int .i64 0] 196) = w' := by
  go_enter Try.func107, Try.ntmps107
  go_wp2
  go_ret
  exact ⟨rfl, rfl⟩
theorem isRd_new (s : ByteArray) (w : World) : IsRd (w.alloc (.cells #[.string s, .int .i64 0] 196)) w.heap.size s 0 := heap_alloc_new w _
theorem at_any {w : World} {b : Nat} {s : ByteArray} {k : Nat} (h : IsRd w b s k) :
    Calls Try.prog 113 #[.pointer (some ⟨b, 0, none⟩)] w fun e w' => e = .returned (.int .i64 k) ∧ ∃ n, w.drewN n = w' := by
  have h1 := h.c1
  go_enter Try.func113, Try.ntmps113
  go_wp2
  go_ret
  exact ⟨rfl, 0, rfl⟩
theorem left_any {w : World} {b : Nat} {s : ByteArray} {k : Nat} (h : IsRd w b s k) (hk : k ≤ s.size) (hs : s.size ≤ 140737488355328) :
    Calls Try.prog 124 #[.pointer (some ⟨b, 0, none⟩)] w fun e w' => e = .returned (.int .i64 ((s.size : Int) - k)) ∧ ∃ n, w.drewN n = w' := by
  have h0 := h.c0
  have h1 := h.c1
  have hw : wrap64 ((s.size : Int) - k) = s.size - k := by unfold wrap64; omega
  go_enter Try.func124, Try.ntmps124
  go_wp2
  go_quiet (fail)
  go_wp2
  go_ret
  exact ⟨by simp, _, rfl⟩
/-- What Take answers: the bytes, the error, the place then. -/
def tk (s : ByteArray) (k : Nat) (n : Int) : ByteArray × Int × Nat :=
  if n < 0 then (⟨#[]⟩, 1, k) else if (s.size : Int) - k < n then (⟨#[]⟩, 2, k) else (s.extract k (k + n.toNat), 0, k + n.toNat)
def RdPost (w : World) (b : Nat) (s : ByteArray) (k : Nat) (w' : World) : Prop := IsRd w' b s k ∧ Only (fun i => i = b) w w'
theorem rd_drewN {w : World} {b : Nat} {s : ByteArray} {k : Nat} (h : IsRd w b s k) (n : Nat) : RdPost w b s k (w.drewN n) := ⟨h, Only.ofDrewN _ _ _⟩
theorem rd_set {w : World} {b : Nat} {s : ByteArray} {k : Nat} (h : IsRd w b s k) (m n : Nat) : RdPost w b s m ((w.setCell ⟨b, 1, none⟩ (.int .i64 m)).drewN n) :=
  ⟨h.set m, ((Only.refl (fun i => i = b) w).setCell ⟨b, 1, none⟩ (.int .i64 m) (fun _ => rfl)).drewN n⟩
theorem rd_set2 {w : World} {b : Nat} {s : ByteArray} {k : Nat} (h : IsRd w b s k) (m : Nat) (x : Int) (hx : x = m) (n n' : Nat) : RdPost w b s m (((w.drewN n').setCell ⟨b, 1, none⟩ (.int .i64 x)).drewN n) := by
  subst hx
  exact ⟨(h.drewN n').set m, ((Only.ofDrewN (fun i => i = b) w n').setCell ⟨b, 1, none⟩ (.int .i64 m) (fun _ => rfl)).drewN n⟩
theorem take_any {w : World} {b : Nat} {s : ByteArray} {k : Nat} (h : IsRd w b s k) (hk : k ≤ s.size) (hs : s.size ≤ 140737488355328) (n : Int) :
    Calls Try.prog 110 #[.pointer (some ⟨b, 0, none⟩), .int .i64 n] w fun e w' => e = .returned (.tuple #[.string (tk s k n).1, .int .i64 (tk s k n).2.1]) ∧ RdPost w b s (tk s k n).2.2 w' := by
  have h0 := h.c0
  have h1 := h.c1
  have hf1 := h.f1
  by_cases hn : n < 0
  · have e : tk s k n = (⟨#[]⟩, 1, k) := by simp [tk, hn]
    rw [e]
    go_enter Try.func110, Try.ntmps110
    go_wp2
    go_ret2
    exact ⟨rfl, rd_drewN h 0⟩
  · obtain ⟨m, rfl⟩ := Int.eq_ofNat_of_zero_le (Int.not_lt.1 hn)
    by_cases hm : (s.size : Int) - k < m
    · have e : tk s k m = (⟨#[]⟩, 2, k) := by simp [tk, hn, hm]
      rw [e]
      go_enter Try.func110, Try.ntmps110
      go_wp2_with ((go_at_call 124; refine (left_any h hk hs).mono ?_; rintro e w1 ⟨rfl, j, rfl⟩))
      go_ret2
      exact ⟨rfl, rd_drewN h _⟩
    · have e : tk s k m = (s.extract k (k + m), 0, k + m) := by simp [tk, hn, hm]
      rw [e]
      have hm' : m ≤ (s.size : Int) - k := by omega
      clear hm
      go_enter Try.func110, Try.ntmps110
      go_wp2_with ((go_at_call 124; refine (left_any h hk hs).mono ?_; rintro e w1 ⟨rfl, j, rfl⟩))
      go_quiet (fail)
      go_wp2
      go_ret2
      refine ⟨rfl, ?_⟩
      exact rd_set2 h (k + m) _ (by omega) _ _
theorem take_nil (n : Value) (w : World) :
    Calls Try.prog 110 #[.pointer none, n] w fun e w' => e = .returned (.tuple #[.string ⟨#[]⟩, .int .i64 16]) ∧ w = w' := by
  go_enter Try.func110, Try.ntmps110
  go_wp2
  go_ret2
  exact ⟨rfl, rfl⟩
theorem byte_nil (w : World) :
    Calls Try.prog 134 #[.pointer none] w fun e w' => e = .returned (.tuple #[.int .u8 0, .int .i64 16]) ∧ w = w' := by
  go_enter Try.func134, Try.ntmps134
  go_wp2_with ((go_at_call 110; refine (take_nil _ _).mono ?_; rintro e w1 ⟨rfl, rfl⟩))
  go_ret2
  exact ⟨rfl, rfl⟩
theorem at_nil (w : World) : Calls Try.prog 113 #[.pointer none] w fun e w' => e = .returned (.int .i64 0) ∧ w = w' := by
  go_enter Try.func113, Try.ntmps113
  go_wp2
  go_ret
  exact ⟨rfl, rfl⟩
theorem seek_nil (n : Value) (w : World) : Calls Try.prog 108 #[.pointer none, n] w fun e w' => e = .returned (.int .i64 16) ∧ w = w' := by
  go_enter Try.func108, Try.ntmps108
  go_wp2
  go_ret
  exact ⟨rfl, rfl⟩
/-- What Byte answers. -/
def by1 (s : ByteArray) (k : Nat) : Int × Int × Nat := if h : k < s.size then (s[k].toNat, 0, k + 1) else (0, 2, k)
theorem extract_one (s : ByteArray) (k : Nat) (h : k < s.size) : (s.extract k (k + 1)).size = 1 := by simp; omega
theorem extract_at (s : ByteArray) (k : Nat) (h : k < s.size) (h' : 0 < (s.extract k (k + 1)).size) : (s.extract k (k + 1))[0] = s[k] := by
  simp [ByteArray.getElem_extract]
theorem byte_any {w : World} {b : Nat} {s : ByteArray} {k : Nat} (h : IsRd w b s k) (hk : k ≤ s.size) (hs : s.size ≤ 140737488355328) :
    Calls Try.prog 134 #[.pointer (some ⟨b, 0, none⟩)] w fun e w' => e = .returned (.tuple #[.int .u8 (by1 s k).1, .int .i64 (by1 s k).2.1]) ∧ RdPost w b s (by1 s k).2.2 w' := by
  have ht := take_any h hk hs 1
  by_cases hlt : k < s.size
  · have e1 : tk s k 1 = (s.extract k (k + 1), 0, k + 1) := by
      have : ¬ ((s.size : Int) - k < 1) := by omega
      simp [tk, this]
    have e2 : by1 s k = ((s[k].toNat : Int), 0, k + 1) := by simp [by1, hlt]
    rw [e1] at ht
    rw [e2]
    have hp := extract_one s k hlt
    have hq : 0 < (s.extract k (k + 1)).size := by omega
    have hat := extract_at s k hlt hq
    go_enter Try.func134, Try.ntmps134
    go_wp2_with ((go_at_call 110; refine ht.mono ?_; rintro e w1 ⟨rfl, hq1⟩))
    go_ret2
    exact ⟨rfl, by assumption⟩
  · have e1 : tk s k 1 = (⟨#[]⟩, 2, k) := by
      have : ((s.size : Int) - k < 1) := by omega
      simp [tk, this]
    have e2 : by1 s k = (0, 2, k) := by simp [by1, hlt]
    rw [e1] at ht
    rw [e2]
    go_enter Try.func134, Try.ntmps134
    go_wp2_with ((go_at_call 110; refine ht.mono ?_; rintro e w1 ⟨rfl, hq1⟩))
    go_ret2
    exact ⟨rfl, by assumption⟩
/-- What Seek answers: the error, the place then. -/
def sk (s : ByteArray) (k : Nat) (n : Int) : Int × Nat := if n < 0 ∨ (s.size : Int) < n then (1, k) else (0, n.toNat)
theorem sk_ok (s : ByteArray) (k m : Nat) (h : m ≤ s.size) : sk s k m = (0, m) := by
  unfold sk; rw [if_neg (by omega)]; rfl
theorem seek_any {w : World} {b : Nat} {s : ByteArray} {k : Nat} (h : IsRd w b s k) (n : Int) :
    Calls Try.prog 108 #[.pointer (some ⟨b, 0, none⟩), .int .i64 n] w fun e w' => e = .returned (.int .i64 (sk s k n).1) ∧ RdPost w b s (sk s k n).2 w' := by
  have h0 := h.c0
  have h1 := h.c1
  have hf1 := h.f1
  by_cases hn : n < 0
  · have e : sk s k n = (1, k) := by simp [sk, hn]
    rw [e]
    have hd : decide (n < 0) = true := by simpa using hn
    go_enter Try.func108, Try.ntmps108
    go_wp2
    go_ret
    exact ⟨rfl, rd_drewN h 0⟩
  · obtain ⟨m, rfl⟩ := Int.eq_ofNat_of_zero_le (Int.not_lt.1 hn)
    by_cases hm : (s.size : Int) < m
    · have e : sk s k m = (1, k) := by simp [sk, hm]
      rw [e]
      have hd : decide ((m : Int) < 0) = false := by simp
      go_enter Try.func108, Try.ntmps108
      go_wp2
      go_ret
      exact ⟨rfl, rd_drewN h 0⟩
    · have e : sk s k m = (0, m) := by simp [sk, hm, hn]
      rw [e]
      have hd : decide ((m : Int) < 0) = false := by simp
      go_enter Try.func108, Try.ntmps108
      go_wp2
      go_ret
      exact ⟨rfl, rd_set h m 0⟩

/-! ### what was there stays -/
theorem IsWr.kept {w w' : World} {b : Nat} {R : Nat → Prop} {l : List UInt8} (h : IsWr w b R l) (k : Below w.heap.size w w') : IsWr w' b R l :=
  h.only (Only.of_below k (fun _ => False)) (fun x => x) (fun _ _ _ x => x)
theorem IsRd.kept {w w' : World} {b : Nat} {s : ByteArray} {p : Nat} (h : IsRd w b s p) (k : Below w.heap.size w w') : IsRd w' b s p :=
  h.only (Only.of_below k (fun _ => False)) (fun x => x)
theorem kept_rdNew {w w' : World} {o : Obj} {s : ByteArray} {q : Nat} (h : RdPost (w.alloc o) w.heap.size s q w') : Below w.heap.size w w' :=
  (((Only.refl (fun _ => False) w).alloc o).trans h.2 fun i hi hs => absurd hs (by omega)).below (Nat.le_refl _) (fun _ _ x => x)
theorem kept_wrNew {w w' : World} {o : Obj} {R : Nat → Prop} {l : List UInt8} (h : WrPost (w.alloc o) w.heap.size R l w') (hR : ∀ k, R k → w.heap.size ≤ k) : Below w.heap.size w w' :=
  (((Only.refl (fun _ => False) w).alloc o).trans h.2 fun i hi hs => by rcases hs with hs | hs; exact absurd hs (by omega); exact absurd (hR i hs) (by omega)).below (Nat.le_refl _) (fun _ _ x => x)
theorem kept_drewN (w : World) (n : Nat) : Below w.heap.size w (w.drewN n) := (Only.ofDrewN (fun _ => False) w n).below (Nat.le_refl _) (fun _ _ x => x)
theorem bel_on {B : Nat} {a b c : World} (h : Below B a b) (k : Below b.heap.size b c) (hB : B ≤ b.heap.size) : Below B a c := h.trans (k.mono hB)
theorem bel_start {w w' w'' : World} (h : Below w.heap.size w w') (k : Below w'.heap.size w' w'') : Below w.heap.size w w'' := h.trans (k.mono h.size)
theorem IsWr.fresh (w : World) : IsWr (w.alloc (.cells #[.slice none 0 0] 128)) w.heap.size (fun _ => False) [] := IsWr.new w _
theorem bel_rd {B : Nat} {w x w' : World} {b q : Nat} {s : ByteArray} (h : Below B w x) (k : RdPost x b s q w') (hb : B ≤ b) (hx : B ≤ x.heap.size) : Below B w w' :=
  h.trans (k.2.below hx (fun i hi e => by omega))
theorem bel_wr {B : Nat} {w x w' : World} {b : Nat} {R : Nat → Prop} {l : List UInt8} (h : Below B w x) (k : WrPost x b R l w') (hb : B ≤ b) (hR : ∀ i, R i → B ≤ i) (hx : B ≤ x.heap.size) : Below B w w' :=
  h.trans (k.2.below hx (fun i hi e => by rcases e with e | e; omega; exact absurd (hR i e) (by omega)))
end Go.Proofs.Ytbfipgeoecbpaaa
