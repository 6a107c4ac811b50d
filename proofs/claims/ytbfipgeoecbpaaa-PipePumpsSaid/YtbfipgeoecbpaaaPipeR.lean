/- The document's pipe (package taffrailref24): its calls' contracts. -/
import Derived.Test.YtbfipgeoecbpaaaPipe
namespace Go.Proofs.Ytbfipgeoecbpaaa
open Go.RowKit
set_option maxRecDepth 20000
def sv (l : List ByteArray) : List Value := l.map Value.string
theorem sv_length (l : List ByteArray) : (sv l).length = l.length := by simp [sv]
theorem sv_one (l : List ByteArray) : ∀ u ∈ sv l, u.oneCell' = true := by
  intro u hu
  simp only [sv, List.mem_map] at hu
  obtain ⟨x, _, rfl⟩ := hu
  rfl
theorem info_str : (Try.prog.info? 9).map (fun i => (i.zero, i.size, i.bytes)) = some (some (.string ⟨#[]⟩), 1, 16) := by kernel_rfl
theorem info_partsS {P : Program} {e : TypeId} {z : Value} {s b : Nat} (h : (P.info? e).map (fun i => (i.zero, i.size, i.bytes)) = some (some z, s, b)) : ∃ i, P.info? e = some i ∧ i.zero = some z ∧ i.size = s ∧ i.bytes = b := by
  obtain ⟨i, h1, h2⟩ := Option.map_eq_some_iff.1 h
  simp only [Prod.mk.injEq] at h2
  exact ⟨i, h1, h2.1, h2.2.1, h2.2.2⟩
theorem ul_strs : Try.prog.underlying 62 = some (.slice 9) := by kernel_rfl
/-- Block b is the document's pipe. -/
def IsRP (w : World) (b room : Nat) (l : List ByteArray) (closed : Bool) : Prop :=
  ∃ v, w.heap[b]? = some (.cells #[.int .i64 room, v, .bool closed] 82 (0, 0)) ∧ w.ownsRow 0 9 1 v l.length (sv l)
theorem own_base {w : World} {base e size : Nat} {v : Value} {n : Nat} {xs : List Value} (h : w.ownsRow base e size v n xs) : w.ownsRow 0 e size v n xs := by
  obtain ⟨h1, h2⟩ := h
  refine ⟨h1, ?_⟩
  rcases h2 with h | ⟨g, cap, cur, h3, h4, h5⟩
  · exact .inl h
  · exact .inr ⟨g, cap, cur, h3, Nat.zero_le _, h5⟩
theorem IsRP.only {S : Nat → Prop} {w w' : World} {b room : Nat} {l : List ByteArray} {closed : Bool} (h : IsRP w b room l closed) (o : Only S w w') (hb : ¬ S b)
    (hS : ∀ k, S k → ∀ cur, w.heap[k]? ≠ some (.cells cur 9 (0, 0))) : IsRP w' b room l closed := by
  obtain ⟨v, h1, h2, h3⟩ := h
  refine ⟨v, o.keeps h1 hb, h2, ?_⟩
  rcases h3 with h | ⟨g, cap, cur, h3, h4, h5, h6⟩
  · exact .inl h
  · exact .inr ⟨g, cap, cur, h3, h4, o.keeps h5 (fun hs => hS g hs cur h5), h6⟩
theorem psrc_own {w : World} {base e : Nat} {v : Value} {n : Nat} {xs : List Value} (h : w.ownsRow base e 1 v n xs) : Src w v n xs := by
  have h0 := fun g (hg : v.ownBlock = some g) => h.cells hg
  obtain ⟨h1, h2⟩ := h
  rcases h2 with ⟨rfl, rfl⟩ | ⟨g, cap, cur, rfl, _⟩
  · refine .inl ⟨rfl, rfl, ?_⟩
    simpa using h1
  · exact .inr ⟨_, _, rfl, h0 _ rfl⟩
theorem src_str {w : World} {b : Nat} (x : ByteArray) (h : w.heap[b]? = some (.cells #[.string x] 9 (0, 0))) : Src w (.slice (some ⟨b, 0, none⟩) 1 1) 1 (sv [x]) := by
  refine .inr ⟨_, _, rfl, fun j u hj => ?_⟩
  match j, hj with
  | 0, hj =>
    simp [sv] at hj; subst hj
    rw [show (⟨b, 0, none⟩ : Addr).add 0 = ⟨b, 0, none⟩ from by simp [Addr.add], cell_blk h]
    rfl
  | j + 1, hj => simp [sv] at hj
theorem rtake_none {w : World} {b room : Nat} {closed : Bool} (h : IsRP w b room [] closed) :
    Calls Try.prog 49 #[.pointer (some ⟨b, 0, none⟩)] w fun e w' => e = .returned (.tuple #[.string ⟨#[]⟩, .bool false]) ∧ w = w' := by
  obtain ⟨v, h1, h2⟩ := h
  obtain ⟨ao, cap, rfl⟩ := owns_form h2
  have c1 : w.cell? ⟨b, 1, none⟩ = some (.slice ao 0 cap) := by rw [cell_blk h1]; rfl
  go_enter Try.func49, Try.ntmps49
  go_wp2
  go_ret2
  exact ⟨rfl, rfl⟩
set_option maxHeartbeats 1000000 in
theorem roffer_no {w : World} {b room : Nat} {l : List ByteArray} {closed : Bool} (h : IsRP w b room l closed) (hn : closed = true ∨ room ≤ l.length) (hl : l.length ≤ 64) (x : ByteArray) :
    Calls Try.prog 47 #[.pointer (some ⟨b, 0, none⟩), .string x] w fun e w' => e = .returned (.bool false) ∧ ∃ n, w.drewN n = w' := by
  obtain ⟨v, h1, h2⟩ := h
  obtain ⟨ao, cap, rfl⟩ := owns_form h2
  have c0 : w.cell? ⟨b, 0, none⟩ = some (.int .i64 room) := by rw [cell_blk h1]; rfl
  have c1 : w.cell? ⟨b, 1, none⟩ = some (.slice ao l.length cap) := by rw [cell_blk h1]; rfl
  have c2 : w.cell? ⟨b, 2, none⟩ = some (.bool closed) := by rw [cell_blk h1]; rfl
  cases closed
  · have hn : room ≤ l.length := by simpa using hn
    have d1 : decide ((room : Int) ≤ l.length) = true := by simp; omega
    have d2 : decide (room ≤ l.length) = true := by simp; omega
    go_enter Try.func47, Try.ntmps47
    go_wp2
    go_quiet (fail)
    go_wp2
    go_ret
    exact ⟨rfl, _, rfl⟩
  · go_enter Try.func47, Try.ntmps47
    go_wp2
    go_quiet (fail)
    go_wp2
    go_ret
    exact ⟨rfl, _, rfl⟩
set_option maxHeartbeats 1000000 in
theorem roffer_yes {w : World} {b room : Nat} {l : List ByteArray} (h : IsRP w b room l false) (hn : l.length < room) (hl : room ≤ 64) (x : ByteArray) :
    Calls Try.prog 47 #[.pointer (some ⟨b, 0, none⟩), .string x] w fun e w' => e = .returned (.bool true) ∧ IsRP w' b room (l ++ [x]) false ∧ Only (fun k => k = b) w w' := by
  obtain ⟨v, h1, h2⟩ := h
  obtain ⟨ao, cap, rfl⟩ := owns_form h2
  have c0 : w.cell? ⟨b, 0, none⟩ = some (.int .i64 room) := by rw [cell_blk h1]; rfl
  have c1 : w.cell? ⟨b, 1, none⟩ = some (.slice ao l.length cap) := by rw [cell_blk h1]; rfl
  have c2 : w.cell? ⟨b, 2, none⟩ = some (.bool false) := by rw [cell_blk h1]; rfl
  have d1 : decide ((room : Int) ≤ l.length) = false := by simp; omega
  have d2 : decide (room ≤ l.length) = false := by simp; omega
  obtain ⟨i0, hi, hz0, hz1, hz2⟩ := info_partsS info_str
  go_enter Try.func47, Try.ntmps47
  go_wp2
  go_quiet (fail)
  have h1 := blk_drewN h1 nq
  have h2 : (w.drewN nq).ownsRow 0 9 1 (.slice ao l.length cap) l.length (sv l) := h2
  have c1 : (w.drewN nq).cell? ⟨b, 1, none⟩ = some (.slice ao l.length cap) := c1
  have hB := (Only.ofDrewN (fun _ => False) w nq).below (Nat.le_refl _) (fun _ _ x => x)
  have hsz : w.heap.size = (w.drewN nq).heap.size := rfl
  generalize w.drewN nq = w1 at h1 h2 c1 hB hsz ⊢
  have hlit := World.ownsRow_lit (e := 9) (base := w1.heap.size) (size := 1) w1 #[] 0 (Nat.le_refl _) (by decide) rfl
  have hsrc := psrc_own (h2.alloc (.cells #[] 9))
  have h1a : (w1.alloc (.cells #[] 9)).heap[b]? = some (.cells #[.int .i64 room, .slice ao l.length cap, .bool false] 82 (0, 0)) := (Below.heap_alloc _ _ _ (blk_lt h1)).trans h1
  have c1a : (w1.alloc (.cells #[] 9)).cell? ⟨b, 1, none⟩ = some (.slice ao l.length cap) := by rw [cell_blk h1a]; rfl
  have hbw := blk_lt h1
  go_wp2_with (first | (at_builtin; (refine list_append rfl (.tmp 22) (.tmp 26) 62 rfl w1.heap.size (by simp) 9 i0 (.string ⟨#[]⟩) 1 16 ul_strs hi hz0 hz1 hz2 rfl (by decide) (.slice (some ⟨w1.heap.size, 0, none⟩) 0 0) 0 [] rfl hlit _ l.length (sv l) rfl (by simp [sv]) hsrc (sv_one _) (by unfold maxLen; omega) (by omega) ?_); intro ao2 cap2 w2 hown' hg hat; have hB2 := below_append ((Below.refl w1.heap.size w1).alloc (Nat.le_refl _) _) hlit hg (by simp); have hs2 := hB2.size; simp only [Nat.zero_add, List.nil_append] at hown'; have hsr := src_str x (heap_alloc_new w2 (.cells #[.string x] 9)); have hB3 := hB2.alloc hs2 (.cells #[.string x] 9); have hown3 := hown'.alloc (.cells #[.string x] 9)) | (at_builtin; (refine list_append rfl (.tmp 27) (.tmp 29) 62 rfl w1.heap.size (by simp; omega) 9 i0 (.string ⟨#[]⟩) 1 16 ul_strs hi hz0 hz1 hz2 rfl (by decide) (.slice _ l.length cap2) l.length (sv l) rfl hown3 _ 1 (sv [x]) rfl rfl hsr (sv_one _) (by unfold maxLen; omega) (by omega) ?_); intro ao3 cap3 w3 hown4 hg4 hat4; have hB4 := below_append hB3 hown3 hg4 (by simp; omega); have h1c := (hB4.block b hbw).trans h1; have hf := frozen_blk h1c 1; have c1c : w3.cell? ⟨b, 1, none⟩ = some (.slice ao l.length cap) := (cell_blk h1c 1).trans rfl))
  go_ret
  refine ⟨rfl, ⟨_, blk_setCell h1c (i := 1) _, ?_⟩, (Only.of_below (hB.trans (hB4.mono (by omega))) (fun k => k = b)).setCell ⟨b, 1, none⟩ _ (fun _ => rfl)⟩
  have hlen : (l ++ [x]).length = l.length + 1 := by simp
  have hsv : sv (l ++ [x]) = sv l ++ sv [x] := by simp [sv]
  rw [hlen, hsv]
  exact own_base (ownsRow_setCell_below hown4 hbw _)
set_option maxHeartbeats 1000000 in
theorem rtake_some {w : World} {b room : Nat} {x : ByteArray} {l : List ByteArray} {closed : Bool} (h : IsRP w b room (x :: l) closed) (hl : (x :: l).length ≤ 64) :
    Calls Try.prog 49 #[.pointer (some ⟨b, 0, none⟩)] w fun e w' => e = .returned (.tuple #[.string x, .bool true]) ∧ IsRP w' b room l closed ∧ Only (fun k => k = b) w w' := by
  obtain ⟨v, h1, h2⟩ := h
  have h2' := h2
  obtain ⟨_, hv⟩ := h2'
  rcases hv with ⟨_, hv⟩ | ⟨g, cap, cur, rfl, _, _, hcap, _⟩
  · simp at hv
  have hcells := h2.cells (g := g) rfl
  have hx0 := hcells 0 (.string x) rfl
  rw [show (⟨g, 0, none⟩ : Addr).add 0 = ⟨g, 0, none⟩ from by simp [Addr.add]] at hx0
  rw [List.length_cons] at h2 hl h1 hcap
  have c1 : w.cell? ⟨b, 1, none⟩ = some (.slice (some ⟨g, 0, none⟩) (l.length + 1) cap) := by rw [cell_blk h1]; rfl
  obtain ⟨i0, hi, hz0, hz1, hz2⟩ := info_partsS info_str
  have hlit := World.ownsRow_lit (e := 9) (base := w.heap.size) (size := 1) w #[] 0 (Nat.le_refl _) (by decide) rfl
  have h1a : (w.alloc (.cells #[] 9)).heap[b]? = some (.cells #[.int .i64 room, .slice (some ⟨g, 0, none⟩) (l.length + 1) cap, .bool closed] 82 (0, 0)) := (Below.heap_alloc _ _ _ (blk_lt h1)).trans h1
  have c1a : (w.alloc (.cells #[] 9)).cell? ⟨b, 1, none⟩ = some (.slice (some ⟨g, 0, none⟩) (l.length + 1) cap) := by rw [cell_blk h1a]; rfl
  have hbw := blk_lt h1
  by_cases hc1 : cap = 1
  · obtain rfl : l = [] := List.eq_nil_of_length_eq_zero (by omega)
    subst hc1
    have hsrc : Src (w.alloc (.cells #[] 9)) (.slice (some ⟨g, 0, none⟩) 0 0) 0 (sv []) := .inr ⟨_, _, rfl, fun j u hj => by simp [sv] at hj⟩
    go_enter Try.func49, Try.ntmps49
    go_wp2_with (at_builtin; (refine list_append rfl (.tmp 18) (.tmp 23) 62 rfl w.heap.size (by simp) 9 i0 (.string ⟨#[]⟩) 1 16 ul_strs hi hz0 hz1 hz2 rfl (by decide) (.slice (some ⟨w.heap.size, 0, none⟩) 0 0) 0 [] rfl hlit _ 0 (sv []) rfl (by simp [sv]) hsrc (sv_one _) (by unfold maxLen; omega) (by omega) ?_); intro ao2 cap2 w2 hown' hg hat; have hB2 := below_append ((Below.refl w.heap.size w).alloc (Nat.le_refl _) _) hlit hg (by simp); have hs2 := hB2.size; simp only [Nat.zero_add, List.nil_append] at hown'; have h1c := (hB2.block b hbw).trans h1; have hf := frozen_blk h1c 1; have c1c := cell_blk h1c 1; simp only [List.getElem?_toArray, List.getElem?_cons_succ, List.getElem?_cons_zero] at c1c)
    go_ret2
    exact ⟨rfl, ⟨_, blk_setCell h1c (i := 1) _, own_base (ownsRow_setCell_below hown' hbw _)⟩, (Only.of_below hB2 (fun k => k = b)).setCell ⟨b, 1, none⟩ _ (fun _ => rfl)⟩
  · have hsrc : Src (w.alloc (.cells #[] 9)) (.slice (some ⟨g, 1, none⟩) l.length (cap - 1)) l.length (sv l) := by
      refine .inr ⟨_, _, rfl, fun j u hj => ?_⟩
      have h := hcells (j + 1) u (by simpa [sv] using hj)
      rw [show (⟨g, 0, none⟩ : Addr).add (j + 1) = (⟨g, 1, none⟩ : Addr).add j from by rw [Go.WideShapes.add_plain, Go.WideShapes.add_plain, show 0 + (j + 1) = 1 + j from by omega]] at h
      rw [← h]
      exact World.cell?_of_block (Below.heap_alloc _ _ _ (World.block_lt_of_cell? w _ h))
    go_enter Try.func49, Try.ntmps49
    go_wp2_with (at_builtin; (refine list_append rfl (.tmp 18) (.tmp 23) 62 rfl w.heap.size (by simp) 9 i0 (.string ⟨#[]⟩) 1 16 ul_strs hi hz0 hz1 hz2 rfl (by decide) (.slice (some ⟨w.heap.size, 0, none⟩) 0 0) 0 [] rfl hlit _ l.length (sv l) rfl (by simp [sv]) hsrc (sv_one _) (by unfold maxLen; omega) (by omega) ?_); intro ao2 cap2 w2 hown' hg hat; have hB2 := below_append ((Below.refl w.heap.size w).alloc (Nat.le_refl _) _) hlit hg (by simp); have hs2 := hB2.size; simp only [Nat.zero_add, List.nil_append] at hown'; have h1c := (hB2.block b hbw).trans h1; have hf := frozen_blk h1c 1; have c1c := cell_blk h1c 1; simp only [List.getElem?_toArray, List.getElem?_cons_succ, List.getElem?_cons_zero] at c1c)
    go_ret2
    exact ⟨rfl, ⟨_, blk_setCell h1c (i := 1) _, own_base (ownsRow_setCell_below hown' hbw _)⟩, (Only.of_below hB2 (fun k => k = b)).setCell ⟨b, 1, none⟩ _ (fun _ => rfl)⟩
end Go.Proofs.Ytbfipgeoecbpaaa
