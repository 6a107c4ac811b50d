/- The document's pipe with the place of its chunks; pipe.Feed; a pipe's turns as an argument. No condition but those that each names. (Printed by gen_pipev.py.) -/
import Derived.Test.YtbfipgeoecbpaaaPipeR
import Derived.Test.YtbfipgeoecbpaaaW24N
import Derived.Test.YtbfipgeoecbpaaaHuZ
import Derived.Test.YtbfipgeoecbpaaaRcS
import Derived.Deep.DeepMust
namespace Go.Proofs.Ytbfipgeoecbpaaa
open Go.WideShapes Go.Deep Go.RowKit
set_option linter.unusedVariables false
set_option linter.unusedSimpArgs false
set_option maxRecDepth 20000
/-- Block b is the document's pipe; its chunks lie in a block from B on. -/
def IsRPB (w : World) (b room : Nat) (l : List ByteArray) (closed : Bool) (B : Nat) : Prop :=
  ∃ v, w.heap[b]? = some (.cells #[.int .i64 room, v, .bool closed] 82 (0, 0)) ∧ w.ownsRow B 9 1 v l.length (sv l)
set_option maxHeartbeats 1000000 in
theorem roffer_yesV {w : World} {b room : Nat} {l : List ByteArray} (h : IsRPB w b room l false 0) (hn : l.length < room) (hl : room ≤ 64) (x : ByteArray) :
    Calls Try.prog 47 #[.pointer (some ⟨b, 0, none⟩), .string x] w fun e w' => e = .returned (.bool true) ∧ IsRPB w' b room (l ++ [x]) false w.heap.size ∧ Only (fun k => k = b) w w' := by
  obtain ⟨v, h1, h2⟩ := h
  obtain ⟨ao, cap, rfl⟩ := owns_form h2
  have c0 : w.cell? ⟨b, 0, none⟩ = some (.int .i64 room) := by rw [cell_blk h1]; rfl
  have c1 : w.cell? ⟨b, 1, none⟩ = some (.slice ao l.length cap) := by rw [cell_blk h1]; rfl
  have c2 : w.cell? ⟨b, 2, none⟩ = some (.bool false) := by rw [cell_blk h1]; rfl
  have d1 : decide ((room : Int) ≤ l.length) = false := by simp; omega
  have d2 : decide (room ≤ l.length) = false := by simp; omega
  obtain ⟨i0, hi, hz0, hz1, hz2⟩ := info_partsS info_str
  go_enter Try.func47, Try.ntmps47
  go_wp2
  go_quiet (fail)
  have h1 := blk_drewN h1 nq
  have h2 : (w.drewN nq).ownsRow 0 9 1 (.slice ao l.length cap) l.length (sv l) := h2
  have c1 : (w.drewN nq).cell? ⟨b, 1, none⟩ = some (.slice ao l.length cap) := c1
  have hB := (Only.ofDrewN (fun _ => False) w nq).below (Nat.le_refl _) (fun _ _ x => x)
  have hsz : w.heap.size = (w.drewN nq).heap.size := rfl
  generalize w.drewN nq = w1 at h1 h2 c1 hB hsz ⊢
  have hlit := World.ownsRow_lit (e := 9) (base := w1.heap.size) (size := 1) w1 #[] 0 (Nat.le_refl _) (by decide) rfl
  have hsrc := psrc_own (h2.alloc (.cells #[] 9))
  have h1a : (w1.alloc (.cells #[] 9)).heap[b]? = some (.cells #[.int .i64 room, .slice ao l.length cap, .bool false] 82 (0, 0)) := (Below.heap_alloc _ _ _ (blk_lt h1)).trans h1
  have c1a : (w1.alloc (.cells #[] 9)).cell? ⟨b, 1, none⟩ = some (.slice ao l.length cap) := by rw [cell_blk h1a]; rfl
  have hbw := blk_lt h1
  go_wp2_with (first | (at_builtin; (refine list_append rfl (.tmp 22) (.tmp 26) 62 rfl w1.heap.size (by simp) 9 i0 (.string ⟨#[]⟩) 1 16 ul_strs hi hz0 hz1 hz2 rfl (by decide) (.slice (some ⟨w1.heap.size, 0, none⟩) 0 0) 0 [] rfl hlit _ l.length (sv l) rfl (by simp [sv]) hsrc (sv_one _) (by unfold maxLen; omega) (by omega) ?_); intro ao2 cap2 w2 hown' hg hat; have hB2 := below_append ((Below.refl w1.heap.size w1).alloc (Nat.le_refl _) _) hlit hg (by simp); have hs2 := hB2.size; simp only [Nat.zero_add, List.nil_append] at hown'; have hsr := src_str x (heap_alloc_new w2 (.cells #[.string x] 9)); have hB3 := hB2.alloc hs2 (.cells #[.string x] 9); have hown3 := hown'.alloc (.cells #[.string x] 9)) | (at_builtin; (refine list_append rfl (.tmp 27) (.tmp 29) 62 rfl w1.heap.size (by simp; omega) 9 i0 (.string ⟨#[]⟩) 1 16 ul_strs hi hz0 hz1 hz2 rfl (by decide) (.slice _ l.length cap2) l.length (sv l) rfl hown3 _ 1 (sv [x]) rfl rfl hsr (sv_one _) (by unfold maxLen; omega) (by omega) ?_); intro ao3 cap3 w3 hown4 hg4 hat4; have hB4 := below_append hB3 hown3 hg4 (by simp; omega); have h1c := (hB4.block b hbw).trans h1; have hf := frozen_blk h1c 1; have c1c : w3.cell? ⟨b, 1, none⟩ = some (.slice ao l.length cap) := (cell_blk h1c 1).trans rfl))
  go_ret
  refine ⟨rfl, ⟨_, blk_setCell h1c (i := 1) _, ?_⟩, (Only.of_below (hB.trans (hB4.mono (by omega))) (fun k => k = b)).setCell ⟨b, 1, none⟩ _ (fun _ => rfl)⟩
  have hlen : (l ++ [x]).length = l.length + 1 := by simp
  have hsv : sv (l ++ [x]) = sv l ++ sv [x] := by simp [sv]
  rw [hlen, hsv]
  first | exact ownsRow_setCell_below hown4 hbw _ | (rw [hsz]; exact ownsRow_setCell_below hown4 hbw _)
set_option maxHeartbeats 1000000 in
theorem rtake_someV {w : World} {b room : Nat} {x : ByteArray} {l : List ByteArray} {closed : Bool} (h : IsRPB w b room (x :: l) closed 0) (hl : (x :: l).length ≤ 64) :
    Calls Try.prog 49 #[.pointer (some ⟨b, 0, none⟩)] w fun e w' => e = .returned (.tuple #[.string x, .bool true]) ∧ IsRPB w' b room l closed w.heap.size ∧ Only (fun k => k = b) w w' := by
  obtain ⟨v, h1, h2⟩ := h
  have h2' := h2
  obtain ⟨_, hv⟩ := h2'
  rcases hv with ⟨_, hv⟩ | ⟨g, cap, cur, rfl, _, _, hcap, _⟩
  · simp at hv
  have hcells := h2.cells (g := g) rfl
  have hx0 := hcells 0 (.string x) rfl
  rw [show (⟨g, 0, none⟩ : Addr).add 0 = ⟨g, 0, none⟩ from by simp [Addr.add]] at hx0
  rw [List.length_cons] at h2 hl h1 hcap
  have c1 : w.cell? ⟨b, 1, none⟩ = some (.slice (some ⟨g, 0, none⟩) (l.length + 1) cap) := by rw [cell_blk h1]; rfl
  obtain ⟨i0, hi, hz0, hz1, hz2⟩ := info_partsS info_str
  have hlit := World.ownsRow_lit (e := 9) (base := w.heap.size) (size := 1) w #[] 0 (Nat.le_refl _) (by decide) rfl
  have h1a : (w.alloc (.cells #[] 9)).heap[b]? = some (.cells #[.int .i64 room, .slice (some ⟨g, 0, none⟩) (l.length + 1) cap, .bool closed] 82 (0, 0)) := (Below.heap_alloc _ _ _ (blk_lt h1)).trans h1
  have c1a : (w.alloc (.cells #[] 9)).cell? ⟨b, 1, none⟩ = some (.slice (some ⟨g, 0, none⟩) (l.length + 1) cap) := by rw [cell_blk h1a]; rfl
  have hbw := blk_lt h1
  by_cases hc1 : cap = 1
  · obtain rfl : l = [] := List.eq_nil_of_length_eq_zero (by omega)
    subst hc1
    have hsrc : Src (w.alloc (.cells #[] 9)) (.slice (some ⟨g, 0, none⟩) 0 0) 0 (sv []) := .inr ⟨_, _, rfl, fun j u hj => by simp [sv] at hj⟩
    go_enter Try.func49, Try.ntmps49
    go_wp2_with (at_builtin; (refine list_append rfl (.tmp 18) (.tmp 23) 62 rfl w.heap.size (by simp) 9 i0 (.string ⟨#[]⟩) 1 16 ul_strs hi hz0 hz1 hz2 rfl (by decide) (.slice (some ⟨w.heap.size, 0, none⟩) 0 0) 0 [] rfl hlit _ 0 (sv []) rfl (by simp [sv]) hsrc (sv_one _) (by unfold maxLen; omega) (by omega) ?_); intro ao2 cap2 w2 hown' hg hat; have hB2 := below_append ((Below.refl w.heap.size w).alloc (Nat.le_refl _) _) hlit hg (by simp); have hs2 := hB2.size; simp only [Nat.zero_add, List.nil_append] at hown'; have h1c := (hB2.block b hbw).trans h1; have hf := frozen_blk h1c 1; have c1c := cell_blk h1c 1; simp only [List.getElem?_toArray, List.getElem?_cons_succ, List.getElem?_cons_zero] at c1c)
    go_ret2
    exact ⟨rfl, ⟨_, blk_setCell h1c (i := 1) _, ownsRow_setCell_below hown' hbw _⟩, (Only.of_below hB2 (fun k => k = b)).setCell ⟨b, 1, none⟩ _ (fun _ => rfl)⟩
  · have hsrc : Src (w.alloc (.cells #[] 9)) (.slice (some ⟨g, 1, none⟩) l.length (cap - 1)) l.length (sv l) := by
      refine .inr ⟨_, _, rfl, fun j u hj => ?_⟩
      have h := hcells (j + 1) u (by simpa [sv] using hj)
      rw [show (⟨g, 0, none⟩ : Addr).add (j + 1) = (⟨g, 1, none⟩ : Addr).add j from by rw [Go.WideShapes.add_plain, Go.WideShapes.add_plain, show 0 + (j + 1) = 1 + j from by omega]] at h
      rw [← h]
      exact World.cell?_of_block (Below.heap_alloc _ _ _ (World.block_lt_of_cell? w _ h))
    go_enter Try.func49, Try.ntmps49
    go_wp2_with (at_builtin; (refine list_append rfl (.tmp 18) (.tmp 23) 62 rfl w.heap.size (by simp) 9 i0 (.string ⟨#[]⟩) 1 16 ul_strs hi hz0 hz1 hz2 rfl (by decide) (.slice (some ⟨w.heap.size, 0, none⟩) 0 0) 0 [] rfl hlit _ l.length (sv l) rfl (by simp [sv]) hsrc (sv_one _) (by unfold maxLen; omega) (by omega) ?_); intro ao2 cap2 w2 hown' hg hat; have hB2 := below_append ((Below.refl w.heap.size w).alloc (Nat.le_refl _) _) hlit hg (by simp); have hs2 := hB2.size; simp only [Nat.zero_add, List.nil_append] at hown'; have h1c := (hB2.block b hbw).trans h1; have hf := frozen_blk h1c 1; have c1c := cell_blk h1c 1; simp only [List.getElem?_toArray, List.getElem?_cons_succ, List.getElem?_cons_zero] at c1c)
    go_ret2
    exact ⟨rfl, ⟨_, blk_setCell h1c (i := 1) _, ownsRow_setCell_below hown' hbw _⟩, (Only.of_below hB2 (fun k => k = b)).setCell ⟨b, 1, none⟩ _ (fun _ => rfl)⟩
/-- The document's pipe within V. -/
structure RpV (w : World) (b room : Nat) (l : List ByteArray) (V : Nat → Prop) : Prop where
  p : ∃ v, w.heap[b]? = some (.cells #[.int .i64 room, v, .bool false] 82 (0, 0)) ∧ w.ownsRow 0 9 1 v l.length (sv l) ∧ ∀ g, v.ownBlock = some g → V g
  vb : V b
  foot : ∀ k, V k → k < w.heap.size
section
variable {w w' : World} {b room : Nat} {l : List ByteArray} {V : Nat → Prop}
theorem RpV.only {S : Nat → Prop} (h : RpV w b room l V) (o : Only S w w') (hn : ∀ k, V k → ¬ S k) : RpV w' b room l V := by
  obtain ⟨v, h1, h2, h3⟩ := h.p
  refine ⟨⟨v, o.keeps h1 (hn b h.vb), ?_, h3⟩, h.vb, fun k hk => Nat.lt_of_lt_of_le (h.foot k hk) o.size⟩
  obtain ⟨q1, q2⟩ := h2
  refine ⟨q1, ?_⟩
  rcases q2 with q | ⟨g, cap, cur, rfl, q4, q5, q6⟩
  · exact .inl q
  · exact .inr ⟨g, cap, cur, rfl, q4, (o.block g (blk_lt q5) (hn g (h3 g rfl))).trans q5, q6⟩
theorem RpV.below (h : RpV w b room l V) (k : Below w.heap.size w w') : RpV w' b room l V := h.only (Only.of_below k (fun _ => False)) fun _ _ x => x
theorem RpV.len (h : RpV w b room l V) : ∃ oa oc, w.cell? ⟨b, 1, none⟩ = some (.slice oa l.length oc) := by
  obtain ⟨v, h1, h2, h3⟩ := h.p
  obtain ⟨oa, oc, rfl⟩ := owns_form h2
  exact ⟨oa, oc, by rw [cell_blk h1]; rfl⟩
def growV (F : Nat → Prop) (w w' : World) (k : Nat) : Prop := F k ∨ (w.heap.size ≤ k ∧ k < w'.heap.size)
theorem RpV.of {l' : List ByteArray} (h : RpV w b room l V) (p : IsRPB w' b room l' false w.heap.size) (on : Only (fun k => k = b) w w') : RpV w' b room l' (growV V w w') ∧ Only V w w' := by
  obtain ⟨v, h1, h2⟩ := p
  refine ⟨⟨⟨v, h1, own_base h2, fun g hg => .inr ⟨(h2.lt g hg).1, (h2.lt g hg).2⟩⟩, .inl h.vb, ?_⟩, on.mono fun k _ e => e ▸ h.vb⟩
  rintro k (q | q)
  · exact Nat.lt_of_lt_of_le (h.foot k q) on.size
  · exact q.2
theorem RpV.rpb (h : RpV w b room l V) : IsRPB w b room l false 0 := by
  obtain ⟨v, h1, h2, _⟩ := h.p
  exact ⟨v, h1, h2⟩
theorem voffer_any (h : RpV w b room l V) (hn : l.length < room) (hl : room ≤ 64) (x : ByteArray) :
    Calls Try.prog 47 #[.pointer (some ⟨b, 0, none⟩), .string x] w fun e w' => e = .returned (.bool true) ∧ RpV w' b room (l ++ [x]) (growV V w w') ∧ Only V w w' := by
  refine (roffer_yesV h.rpb hn hl x).mono ?_
  rintro e w1 ⟨rfl, p, on⟩
  exact ⟨rfl, h.of p on⟩
theorem vtake_some {x : ByteArray} (h : RpV w b room (x :: l) V) (hl : (x :: l).length ≤ 64) :
    Calls Try.prog 49 #[.pointer (some ⟨b, 0, none⟩)] w fun e w' => e = .returned (.tuple #[.string x, .bool true]) ∧ RpV w' b room l (growV V w w') ∧ Only V w w' := by
  refine (rtake_someV h.rpb hl).mono ?_
  rintro e w1 ⟨rfl, p, on⟩
  exact ⟨rfl, h.of p on⟩
theorem vtake_none (h : RpV w b room [] V) :
    Calls Try.prog 49 #[.pointer (some ⟨b, 0, none⟩)] w fun e w' => e = .returned (.tuple #[.string ⟨#[]⟩, .bool false]) ∧ w = w' := by
  obtain ⟨v, h1, h2, _⟩ := h.p
  exact rtake_none ⟨v, h1, h2⟩
end
/-! ### pipe.Feed -/
theorem feed_none {w : World} {b c room hb : Nat} (h : IsPipe w b c room [] false) :
    Calls Try.prog 48 #[.pointer (some ⟨b, 0, none⟩), .pointer (some ⟨hb, 0, none⟩)] w fun e w' => e = .returned (.tuple #[.slice none 0 0, .bool false]) ∧ IsPipe w' b c room [] false ∧ Only (fun k => k = c) w w' := by
  have ht := take_none h
  go_enter Try.func48, Try.ntmps48
  go_wp2_with ((go_at_call 52; (refine ht.mono ?_); rintro e w1 ⟨rfl, hp, on⟩))
  go_ret2
  exact ⟨rfl, hp, on⟩
def PFeedPost (w : World) (b c room : Nat) (l : List ByteArray) (hb tb : Nat) (T : ByteArray) (G R : HS) (a : Ending) (w' : World) : Prop :=
  ∃ ao cap its, a = .returned (.tuple #[.slice ao its.length cap, .bool true]) ∧ R.its = G.its ++ its.map Itm.p ∧ ItIn w' w.heap.size (.slice ao its.length cap) its ∧ Fed w' hb tb T R false ∧ IsPipe w' b c room l false ∧ Only (fun k => k = c ∨ k = hb) w w'
theorem feed_some {w : World} {b c room hb tb : Nat} {x : ByteArray} {l : List ByteArray} {T : ByteArray} {G : HS} (h : IsPipe w b c room (x :: l) false) (hF : Fed w hb tb T G false) (hT : IsTab w tb) (h1 : hb ≠ c) (h2 : tb ≠ c) (h3 : tb ≠ hb) (h4 : b ≠ hb) (hs : T.size + x.size ≤ 1000000000) :
    Calls Try.prog 48 #[.pointer (some ⟨b, 0, none⟩), .pointer (some ⟨hb, 0, none⟩)] w (PFeedPost w b c room l hb tb (T ++ x) G (hfin (T ++ x) false G)) := by
  have ht := take_some h
  go_enter Try.func48, Try.ntmps48
  go_upto_region 2 with ((go_at_call 52; (refine ht.mono ?_); rintro e w1 ⟨rfl, hp, on⟩))
  have hf := feed_abs (hF.only on h1) x (hT.only on h2) h3 hs
  have HP := Lib.hid (And.intro hp on)
  clear ht hp on hF hT
  go_wp2_with ((go_at_call 33; (refine hf.mono ?_); rintro e w2 ⟨ao, cap, its, rfl, q1, q2, q3, q4⟩))
  go_ret2
  obtain ⟨hp, on⟩ := HP.out
  exact ⟨ao, cap, its, rfl, q1, q2.mono on.size, q3, hp.only q4 h4 h1.symm, (on.mono fun k _ e => show k = c ∨ k = hb from .inl e).trans (q4.mono fun k _ e => show k = c ∨ k = hb from .inr e) fun k _ q => q⟩
/-! ### A turn -/
structure TuR where
  k : Int
  n : Int
  s : ByteArray
instance : Inhabited TuR := ⟨⟨0, 0, ⟨#[]⟩⟩⟩
def TuR.f (o : TuR) : Nat → Value
  | 0 => .int .i64 o.k
  | 1 => .int .i64 o.n
  | _ => .string o.s
structure TuR.Wf (o : TuR) : Prop where
  k0 : -9223372036854775808 ≤ o.k
  k1 : o.k ≤ 9223372036854775807
  n0 : -9223372036854775808 ≤ o.n
  n1 : o.n ≤ 9223372036854775807
  s : o.s.size ≤ maxLen
end Go.Proofs.Ytbfipgeoecbpaaa
