/- A pipe (package pipe): its calls' contracts. Channels in one goroutine. -/
import Derived.Test.YtbfipgeoecbpaaaCore
import Derived.Test.YtbfipgeoecbpaaaRows
import Derived.ProofKit
import Derived.Conc.LoneCalls
import Derived.Conc.LoneSelect
import Derived.Conc.LoneSelectN
import Derived.Deep.DeepMust
namespace Go.Proofs.Ytbfipgeoecbpaaa
open Go.Conc Go.RowKit
set_option maxRecDepth 20000
def chs (l : List ByteArray) : Array Value := (l.map Value.string).toArray
/-- Block b is a pipe over the channel in block c. -/
structure IsPipe (w : World) (b c room : Nat) (l : List ByteArray) (closed : Bool) : Prop where
  blk : w.heap[b]? = some (.cells #[.chan (some c), .bool closed] 122 (0, 0))
  ch : ∃ s r, w.heap[c]? = some (.chan room (chs l) closed s r false)
theorem IsPipe.ne {w : World} {b c room : Nat} {l : List ByteArray} {closed : Bool} (h : IsPipe w b c room l closed) : c ≠ b := by
  rintro rfl
  obtain ⟨s, r, h2⟩ := h.ch
  rw [h.blk] at h2
  simp at h2
theorem chs_size (l : List ByteArray) : (chs l).size = l.length := by simp [chs]
theorem IsPipe.only {S : Nat → Prop} {w w' : World} {b c room : Nat} {l : List ByteArray} {closed : Bool} (h : IsPipe w b c room l closed) (o : Only S w w') (hb : ¬ S b) (hc : ¬ S c) : IsPipe w' b c room l closed := by
  obtain ⟨s, r, h2⟩ := h.ch
  exact ⟨o.keeps h.blk hb, s, r, o.keeps h2 hc⟩
theorem pipeLen_any {w : World} {b c room : Nat} {l : List ByteArray} {closed : Bool} (h : IsPipe w b c room l closed) :
    Calls Try.prog 42 #[.pointer (some ⟨b, 0, none⟩)] w fun e w' => e = .returned (.int .i64 l.length) ∧ w = w' := by
  have h0 : w.cell? ⟨b, 0, none⟩ = some (.chan (some c)) := by rw [cell_blk h.blk]; rfl
  obtain ⟨s, r, h2⟩ := h.ch
  have hlen := fun ty => run_len_chan (P := Try.prog) 120 ty Try.underlying120 h2
  rw [chs_size] at hlen
  go_enter Try.func42, Try.ntmps42
  go_wp2
  go_ret
  exact ⟨rfl, rfl⟩
theorem pipeOver_any {w : World} {b c room : Nat} {l : List ByteArray} {closed : Bool} (h : IsPipe w b c room l closed) :
    Calls Try.prog 54 #[.pointer (some ⟨b, 0, none⟩)] w fun e w' => e = .returned (.bool (closed && decide (l.length = 0))) ∧ w = w' := by
  have h0 : w.cell? ⟨b, 0, none⟩ = some (.chan (some c)) := by rw [cell_blk h.blk]; rfl
  have h1 : w.cell? ⟨b, 1, none⟩ = some (.bool closed) := by rw [cell_blk h.blk]; rfl
  obtain ⟨s, r, h2⟩ := h.ch
  have hlen := fun ty => run_len_chan (P := Try.prog) 120 ty Try.underlying120 h2
  rw [chs_size] at hlen
  have hd : decide (l.length = 0) = ((l.length : Int) == 0) := by rw [Bool.eq_iff_iff]; simp
  rw [hd]
  clear hd
  cases closed
  · go_enter Try.func54, Try.ntmps54
    go_wp2
    go_ret
    exact ⟨rfl, rfl⟩
  · go_enter Try.func54, Try.ntmps54
    go_wp2
    go_ret
    exact ⟨rfl, rfl⟩
theorem mk_chan (w : World) (n : Nat) (h1 : n ≤ 64) : (Instr.makeChan 120 (.int .i64 n)).run Try.prog w = .ok (.chan (some w.heap.size)) (w.alloc (.chan n #[] false 0 0 false)) := by
  have h : (Try.prog.info? 9).map (·.bytes) = some 16 := by kernel_rfl
  obtain ⟨i, hi, hb⟩ := Option.map_eq_some_iff.1 h
  simpa using run_makeChan (P := Try.prog) (w := w) Try.underlying120 hi .i64 n (by omega) (by rw [hb]; omega)
theorem pnew_any (n : Nat) (h0 : 1 ≤ n) (h1 : n ≤ 64) (w : World) :
    Calls Try.prog 38 #[.int .i64 n] w fun e w' => ∃ b c, e = .returned (.tuple #[.pointer (some ⟨b, 0, none⟩), .int .i64 0]) ∧ IsPipe w' b c n [] false ∧ w.heap.size ≤ b ∧ w.heap.size ≤ c ∧ Below w.heap.size w w' := by
  have hmk := fun x : World => mk_chan x n h1
  have d0 : (1 : Int) ≤ n := by omega
  have d1 : (n : Int) ≤ 64 := by omega
  go_enter Try.func38, Try.ntmps38
  go_wp2
  go_ret2
  have hc := heap_alloc_new w (.chan n #[] false 0 0 false)
  have hb := heap_alloc_new (w.alloc (.chan n #[] false 0 0 false)) (.cells #[.chan (some w.heap.size), .bool false] 122)
  rw [World.size_alloc] at hb
  refine ⟨w.heap.size + 1, w.heap.size, rfl, ⟨hb, 0, 0, ?_⟩, Nat.le_succ _, Nat.le_refl _, ((Below.refl _ w).alloc (Nat.le_refl _) _).alloc (by simp) _⟩
  rw [Below.heap_alloc _ _ _ (by simp), hc]
  rfl
theorem only_setChan {S : Nat → Prop} {a w : World} (h : Only S a w) {c : Nat} (hc : S c) (cap : Nat) (buf : Array Value) (cl : Bool) (s r : Nat) (tm : Bool) : Only S a (w.setChan c cap buf cl s r tm) :=
  ⟨h.os, h.tape, h.output, by have := h.size; simp [World.setChan]; omega, fun k hk hn => by
    simp only [World.setChan]
    rw [Array.getElem?_setIfInBounds_ne (fun e => hn (by rw [← e]; exact hc))]
    exact h.block k hk hn⟩
theorem setChan_other (w : World) (c c' cap : Nat) (buf : Array Value) (closed : Bool) (s r : Nat) (tm : Bool) (h : c ≠ c') : (w.setChan c cap buf closed s r tm).heap[c']? = w.heap[c']? := by
  simp [World.setChan, Array.getElem?_setIfInBounds_ne h]
theorem IsPipe.put {w : World} {b c room : Nat} {l l' : List ByteArray} {closed : Bool} (h : IsPipe w b c room l closed) (s r : Nat) : IsPipe (w.setChan c room (chs l') closed s r false) b c room l' closed := by
  obtain ⟨s0, r0, h2⟩ := h.ch
  exact ⟨(setChan_other _ _ _ _ _ _ _ _ _ h.ne).trans h.blk, s, r, heap_setChan w c room (chs l') closed s r false (blk_lt h2)⟩
set_option maxRecDepth 100000 in
theorem offer_room {w : World} {b c room : Nat} {l : List ByteArray} (h : IsPipe w b c room l false) (hr : l.length < room) (x : ByteArray) :
    Calls Try.prog 53 #[.pointer (some ⟨b, 0, none⟩), .string x] w fun e w' => e = .returned (.bool true) ∧ IsPipe w' b c room (l ++ [x]) false ∧ Only (fun k => k = c) w w' := by
  have h0 : w.cell? ⟨b, 0, none⟩ = some (.chan (some c)) := by rw [cell_blk h.blk]; rfl
  have h1 : w.cell? ⟨b, 1, none⟩ = some (.bool false) := by rw [cell_blk h.blk]; rfl
  obtain ⟨s, r, h2⟩ := h.ch
  refine calls_of_loneTo fun cs => ?_
  have e : Frame.enter Try.prog 53 #[.pointer (some ⟨b, 0, none⟩), .string x] .normal = (base 53).at ⟨#[.pointer (some ⟨b, 0, none⟩), .string x, undef, undef, undef, undef, undef, undef, undef, undef, undef, undef, undef, undef, undef, undef, undef, undef, undef, undef, undef], []⟩ [.code (Try.f53.body.getD .skip)] := by
    simp [Frame.enter, Frame.at, Try.func53, base, Try.f53]
  rw [e]
  refine LoneTo.goes (n := 100) ?_
  simp only [Try.f53, Option.getD_some]
  repeat (first | s_op | (s_in; rw [stepG_unwanted rfl rfl]; simp only [goes_go]; refine ⟨trivial, ?_⟩) | s_c stepG_region_end | s_c stepG_seq | s_reg | s_c stepG_block | s_c stepG_skip | s_c stepG_inBlock | s_cond false | s_cond true | s_exit | s_c stepG_ret' | s_c stepG_end)
  s_stop
  refine LoneTo.step (step_lone_select_send_room (c := c) (v := .string x) (cap := room) (buf := chs l) (s := s) (r := r) (tm := false) (stepG_comm (cases := #[scase c (.string x) (.string ⟨#[]⟩)]) (blocking := false) (shape := .select) (w' := w) rfl rfl (by decide) (by simp [go_sem, execOp, scase, Act.eval])) h2 (by rw [chs_size]; exact hr)) ?_
  rw [Frame.finish_at]
  walk_nrm
  refine LoneTo.goes (n := 100) ?_
  repeat (first | s_op | (s_in; rw [stepG_unwanted rfl rfl]; simp only [goes_go]; refine ⟨trivial, ?_⟩) | s_c stepG_region_end | s_c stepG_seq | s_reg | s_c stepG_block | s_c stepG_skip | s_c stepG_inBlock | s_cond false | s_cond true | s_exit | s_c stepG_ret' | s_c stepG_end)
  s_stop
  refine LoneTo.done ⟨.returned (.bool true), _, rfl, ⟨rfl, ?_⟩, rfl, rfl, rfl, rfl, _, Try.func53, by simp [results, Try.f53, Frame.at]⟩
  have e2 : (chs l).push (.string x) = chs (l ++ [x]) := by simp [chs]
  rw [e2]
  exact ⟨h.put _ _, only_setChan (S := fun k => k = c) (Only.refl _ _) rfl _ _ _ _ _ _⟩
theorem offer_closed {w : World} {b c room : Nat} {l : List ByteArray} (h : IsPipe w b c room l true) (x : ByteArray) :
    Calls Try.prog 53 #[.pointer (some ⟨b, 0, none⟩), .string x] w fun e w' => e = .returned (.bool false) ∧ IsPipe w' b c room l true ∧ Only (fun k => k = c) w w' := by
  have h1 : w.cell? ⟨b, 1, none⟩ = some (.bool true) := by rw [cell_blk h.blk]; rfl
  go_enter Try.func53, Try.ntmps53
  go_wp2
  go_ret
  exact ⟨rfl, h, Only.refl _ _⟩
set_option maxRecDepth 100000 in
theorem offer_full {w : World} {b c room : Nat} {l : List ByteArray} (h : IsPipe w b c room l false) (hr : room ≤ l.length) (x : ByteArray) :
    Calls Try.prog 53 #[.pointer (some ⟨b, 0, none⟩), .string x] w fun e w' => e = .returned (.bool false) ∧ IsPipe w' b c room l false ∧ Only (fun k => k = c) w w' := by
  have h0 : w.cell? ⟨b, 0, none⟩ = some (.chan (some c)) := by rw [cell_blk h.blk]; rfl
  have h1 : w.cell? ⟨b, 1, none⟩ = some (.bool false) := by rw [cell_blk h.blk]; rfl
  obtain ⟨s, r, h2⟩ := h.ch
  refine calls_of_loneTo fun cs => ?_
  have e : Frame.enter Try.prog 53 #[.pointer (some ⟨b, 0, none⟩), .string x] .normal = (base 53).at ⟨#[.pointer (some ⟨b, 0, none⟩), .string x, undef, undef, undef, undef, undef, undef, undef, undef, undef, undef, undef, undef, undef, undef, undef, undef, undef, undef, undef], []⟩ [.code (Try.f53.body.getD .skip)] := by
    simp [Frame.enter, Frame.at, Try.func53, base, Try.f53]
  rw [e]
  refine LoneTo.goes (n := 100) ?_
  simp only [Try.f53, Option.getD_some]
  repeat (first | s_op | (s_in; rw [stepG_unwanted rfl rfl]; simp only [goes_go]; refine ⟨trivial, ?_⟩) | s_c stepG_region_end | s_c stepG_seq | s_reg | s_c stepG_block | s_c stepG_skip | s_c stepG_inBlock | s_cond false | s_cond true | s_exit | s_c stepG_ret' | s_c stepG_end)
  s_stop
  refine LoneTo.step (step_lone_select_send_full (c := c) (v := .string x) (cap := room) (buf := chs l) (s := s) (r := r) (tm := false) (stepG_comm (cases := #[scase c (.string x) (.string ⟨#[]⟩)]) (blocking := false) (shape := .select) (w' := w) rfl rfl (by decide) (by simp [go_sem, execOp, scase, Act.eval])) h2 (by rw [chs_size]; exact hr)) ?_
  rw [Frame.finish_at]
  walk_nrm
  refine LoneTo.goes (n := 100) ?_
  repeat (first | s_op | (s_in; rw [stepG_unwanted rfl rfl]; simp only [goes_go]; refine ⟨trivial, ?_⟩) | s_c stepG_region_end | s_c stepG_seq | s_reg | s_c stepG_block | s_c stepG_skip | s_c stepG_inBlock | s_cond false | s_cond true | s_exit | s_c stepG_ret' | s_c stepG_end)
  s_stop
  refine LoneTo.done ⟨.returned (.bool false), _, rfl, ⟨rfl, ?_⟩, rfl, rfl, rfl, rfl, _, Try.func53, by simp [results, Try.f53, Frame.at]⟩
  exact ⟨h, Only.refl _ _⟩
set_option maxRecDepth 100000 in
theorem take_some {w : World} {b c room : Nat} {x : ByteArray} {l : List ByteArray} {closed : Bool} (h : IsPipe w b c room (x :: l) closed) :
    Calls Try.prog 52 #[.pointer (some ⟨b, 0, none⟩)] w fun e w' => e = .returned (.tuple #[.string x, .bool true]) ∧ IsPipe w' b c room l closed ∧ Only (fun k => k = c) w w' := by
  have h0 : w.cell? ⟨b, 0, none⟩ = some (.chan (some c)) := by rw [cell_blk h.blk]; rfl
  have h1 : w.cell? ⟨b, 1, none⟩ = some (.bool closed) := by rw [cell_blk h.blk]; rfl
  obtain ⟨s, r, h2⟩ := h.ch
  refine calls_of_loneTo fun cs => ?_
  have e : Frame.enter Try.prog 52 #[.pointer (some ⟨b, 0, none⟩)] .normal = (base 52).at ⟨#[.pointer (some ⟨b, 0, none⟩), undef, undef, undef, undef, undef, undef, undef, undef, undef, undef, undef, undef, undef, undef, undef, undef, undef, undef], []⟩ [.code (Try.f52.body.getD .skip)] := by
    simp [Frame.enter, Frame.at, Try.func52, base, Try.f52]
  rw [e]
  refine LoneTo.goes (n := 100) ?_
  simp only [Try.f52, Option.getD_some]
  repeat (first | s_op | (s_in; rw [stepG_unwanted rfl rfl]; simp only [goes_go]; refine ⟨trivial, ?_⟩) | s_c stepG_region_end | s_c stepG_seq | s_reg | s_c stepG_block | s_c stepG_skip | s_c stepG_inBlock | s_cond false | s_cond true | s_exit | s_c stepG_ret' | s_c stepG_end)
  s_stop
  refine LoneTo.step (step_lone_select_recv_buf (c := c) (z := .string ⟨#[]⟩) (cap := room) (buf := chs (x :: l)) (closed := closed) (s := s) (r := r) (tm := false) (stepG_comm (cases := #[rcase c (.string ⟨#[]⟩)]) (blocking := false) (shape := .select) (w' := w) rfl rfl (by decide) (by simp [go_sem, execOp, rcase, Act.eval])) h2 (by simp [chs])) ?_
  have e1 : (chs (x :: l)).getD 0 undef = .string x := by simp [chs]
  have e2 : (chs (x :: l)).extract 1 (chs (x :: l)).size = chs l := by simp [chs, List.take_of_length_le]
  rw [e1, e2]
  rw [Frame.finish_at]
  walk_nrm
  refine LoneTo.goes (n := 100) ?_
  repeat (first | s_op | (s_in; rw [stepG_unwanted rfl rfl]; simp only [goes_go]; refine ⟨trivial, ?_⟩) | s_c stepG_region_end | s_c stepG_seq | s_reg | s_c stepG_block | s_c stepG_skip | s_c stepG_inBlock | s_cond false | s_cond true | s_exit | s_c stepG_ret' | s_c stepG_end)
  s_stop
  refine LoneTo.done ⟨.returned (.tuple #[.string x, .bool true]), _, rfl, ⟨rfl, ?_⟩, rfl, rfl, rfl, rfl, _, Try.func52, by simp [results, Try.f52, Frame.at]⟩
  exact ⟨h.put _ _, only_setChan (S := fun k => k = c) (Only.refl _ _) rfl _ _ _ _ _ _⟩
set_option maxRecDepth 100000 in
theorem take_none {w : World} {b c room : Nat} {closed : Bool} (h : IsPipe w b c room [] closed) :
    Calls Try.prog 52 #[.pointer (some ⟨b, 0, none⟩)] w fun e w' => e = .returned (.tuple #[.string ⟨#[]⟩, .bool false]) ∧ IsPipe w' b c room [] closed ∧ Only (fun k => k = c) w w' := by
  have h0 : w.cell? ⟨b, 0, none⟩ = some (.chan (some c)) := by rw [cell_blk h.blk]; rfl
  have h1 : w.cell? ⟨b, 1, none⟩ = some (.bool closed) := by rw [cell_blk h.blk]; rfl
  obtain ⟨s, r, h2⟩ := h.ch
  refine calls_of_loneTo fun cs => ?_
  have e : Frame.enter Try.prog 52 #[.pointer (some ⟨b, 0, none⟩)] .normal = (base 52).at ⟨#[.pointer (some ⟨b, 0, none⟩), undef, undef, undef, undef, undef, undef, undef, undef, undef, undef, undef, undef, undef, undef, undef, undef, undef, undef], []⟩ [.code (Try.f52.body.getD .skip)] := by
    simp [Frame.enter, Frame.at, Try.func52, base, Try.f52]
  rw [e]
  refine LoneTo.goes (n := 100) ?_
  simp only [Try.f52, Option.getD_some]
  repeat (first | s_op | (s_in; rw [stepG_unwanted rfl rfl]; simp only [goes_go]; refine ⟨trivial, ?_⟩) | s_c stepG_region_end | s_c stepG_seq | s_reg | s_c stepG_block | s_c stepG_skip | s_c stepG_inBlock | s_cond false | s_cond true | s_exit | s_c stepG_ret' | s_c stepG_end)
  s_stop
  cases closed
  · refine LoneTo.step (step_lone_select_default (c := c) (z := .string ⟨#[]⟩) (cap := room) (s := s) (r := r) (tm := false) (stepG_comm (cases := #[rcase c (.string ⟨#[]⟩)]) (blocking := false) (shape := .select) (w' := w) rfl rfl (by decide) (by simp [go_sem, execOp, rcase, Act.eval])) h2) ?_
    rw [Frame.finish_at]
    walk_nrm
    refine LoneTo.goes (n := 100) ?_
    repeat (first | s_op | (s_in; rw [stepG_unwanted rfl rfl]; simp only [goes_go]; refine ⟨trivial, ?_⟩) | s_c stepG_region_end | s_c stepG_seq | s_reg | s_c stepG_block | s_c stepG_skip | s_c stepG_inBlock | s_cond false | s_cond true | s_exit | s_c stepG_ret' | s_c stepG_end)
    s_stop
    refine LoneTo.done ⟨.returned (.tuple #[.string ⟨#[]⟩, .bool false]), _, rfl, ⟨rfl, ?_⟩, rfl, rfl, rfl, rfl, _, Try.func52, by simp [results, Try.f52, Frame.at]⟩
    exact ⟨h, Only.refl _ _⟩
  · refine LoneTo.step (step_lone_select_recv_shut (c := c) (z := .string ⟨#[]⟩) (cap := room) (s := s) (r := r) (tm := false) (stepG_comm (cases := #[rcase c (.string ⟨#[]⟩)]) (blocking := false) (shape := .select) (w' := w) rfl rfl (by decide) (by simp [go_sem, execOp, rcase, Act.eval])) h2) ?_
    rw [Frame.finish_at]
    walk_nrm
    refine LoneTo.goes (n := 100) ?_
    repeat (first | s_op | (s_in; rw [stepG_unwanted rfl rfl]; simp only [goes_go]; refine ⟨trivial, ?_⟩) | s_c stepG_region_end | s_c stepG_seq | s_reg | s_c stepG_block | s_c stepG_skip | s_c stepG_inBlock | s_cond false | s_cond true | s_exit | s_c stepG_ret' | s_c stepG_end)
    s_stop
    refine LoneTo.done ⟨.returned (.tuple #[.string ⟨#[]⟩, .bool false]), _, rfl, ⟨rfl, ?_⟩, rfl, rfl, rfl, rfl, _, Try.func52, by simp [results, Try.f52, Frame.at]⟩
    exact ⟨h, Only.refl _ _⟩
theorem close_open {w : World} {b c room : Nat} {l : List ByteArray} (h : IsPipe w b c room l false) :
    Calls Try.prog 43 #[.pointer (some ⟨b, 0, none⟩)] w fun e w' => e = .returned (.tuple #[]) ∧ IsPipe w' b c room l true ∧ Only (fun k => k = b ∨ k = c) w w' := by
  have h0 : w.cell? ⟨b, 0, none⟩ = some (.chan (some c)) := by rw [cell_blk h.blk]; rfl
  have h1 : w.cell? ⟨b, 1, none⟩ = some (.bool false) := by rw [cell_blk h.blk]; rfl
  have hf1 : w.frozen? ⟨b, 1, none⟩ = false := frozen_blk h.blk 1
  obtain ⟨s, r, h2⟩ := h.ch
  have h3 : (w.setCell ⟨b, 1, none⟩ (.bool true)).heap[c]? = some (.chan room (chs l) false s r false) := blk_setCell_other (p := ⟨b, 1, none⟩) h2 h.ne _
  have hcl := fun ats ty => run_close_open (P := Try.prog) (w := w.setCell ⟨b, 1, none⟩ (.bool true)) ats ty h3
  go_enter Try.func43, Try.ntmps43
  go_wp2
  go_end0
  exact ⟨rfl, ⟨(setChan_other _ _ _ _ _ _ _ _ _ h.ne).trans (blk_setCell h.blk (i := 1) (.bool true)), s, r, heap_setChan (w.setCell ⟨b, 1, none⟩ (.bool true)) c room (chs l) true s r false (blk_lt h3)⟩, only_setChan (S := fun k => k = b ∨ k = c) ((Only.refl _ w).setCell ⟨b, 1, none⟩ (.bool true) (fun _ => .inl rfl)) (.inr rfl) _ _ _ _ _ _⟩
theorem close_closed {w : World} {b c room : Nat} {l : List ByteArray} (h : IsPipe w b c room l true) :
    Calls Try.prog 43 #[.pointer (some ⟨b, 0, none⟩)] w fun e w' => e = .returned (.tuple #[]) ∧ IsPipe w' b c room l true ∧ Only (fun k => k = b ∨ k = c) w w' := by
  have h1 : w.cell? ⟨b, 1, none⟩ = some (.bool true) := by rw [cell_blk h.blk]; rfl
  go_enter Try.func43, Try.ntmps43
  go_wp2
  go_end0
  exact ⟨rfl, h, Only.refl _ _⟩
end Go.Proofs.Ytbfipgeoecbpaaa
