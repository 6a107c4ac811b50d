/- Contracts of package ring: New, Used, Put where there is room. No condition but those that each names. -/
import Derived.Test.YtbfipgeoecbpaaaRgA
import Derived.WalkMore
namespace Go.Proofs.Ytbfipgeoecbpaaa
open Go.RowKit
set_option linter.unusedVariables false
set_option linter.unusedSimpArgs false
set_option maxRecDepth 20000
def rg0 (rb n : Nat) (p : Int) : Rg := ⟨rb, n, p, 0, .slice none 0 0, 0, false, 0⟩
theorem rgNew {w : World} (n : Nat) (p : Int) (h1 : 179 ≤ n) (h2 : n ≤ 1048576) : RgSt ((w.alloc (.cells (madeCells #[.int .u8 0] n) 5)).alloc (.cells (rg0 w.heap.size n p).cells 100)) (w.heap.size + 1) (rg0 w.heap.size n p) (fun _ => 0) [] := by
  have e : (w.alloc (.cells (madeCells #[.int .u8 0] n) 5)).heap.size = w.heap.size + 1 := by simp
  have hb := heap_alloc_new (w.alloc (.cells (madeCells #[.int .u8 0] n) 5)) (.cells (rg0 w.heap.size n p).cells 100)
  rw [e] at hb
  refine { me := hb, room := (IsRoom.made w n).keep (Below.heap_alloc _ _ _ (by rw [e]; exact Nat.lt_succ_self _)), sz := .inl ⟨rfl, rfl⟩, hd := ?_, cap := ⟨h1, h2⟩, used := Nat.zero_le _, sum := rfl, pos := (fun x hx => by cases hx), lo := Nat.zero_le _ }
  show 0 < n
  omega
theorem rnew_any (n : Nat) (p : Int) (hp : p = 0 ∨ p = 1) (h1 : 179 ≤ n) (h2 : n ≤ 1048576) (w : World) :
    Calls Try.prog 12 #[.int .i64 n, .int .i64 p] w fun x w' => x = .returned (.tuple #[.pointer (some ⟨w.heap.size + 1, 0, none⟩), .int .i64 0]) ∧ RgSt w' (w.heap.size + 1) (rg0 w.heap.size n p) (fun _ => 0) [] ∧ Below w.heap.size w w' := by
  have st := rgNew (w := w) n p h1 h2
  have hB := ((Below.refl w.heap.size w).alloc (Nat.le_refl _) (.cells (madeCells #[.int .u8 0] n) 5)).alloc (by simp) (.cells (rg0 w.heap.size n p).cells 100)
  have hmk := run_make_row' (P := Try.prog) 97 5 (.int .u8 0) 1 (by kernel_rfl) (by kernel_rfl) rfl .i64 .i64 n (by omega) (by omega) w
  unfold rg0 Rg.cells at st hB
  have n1 : ¬ (n : Int) < 179 := by omega
  have n2 : ¬ (1048576 : Int) < n := by omega
  rcases hp with rfl | rfl
  · go_enter Try.func12, Try.ntmps12
    go_wp2_with fail
    go_ret2
    refine ⟨?_, ?_, ?_⟩
    · simp
    · exact st
    · exact hB
  · go_enter Try.func12, Try.ntmps12
    go_wp2_with fail
    go_ret2
    refine ⟨?_, ?_, ?_⟩
    · simp
    · exact st
    · exact hB
theorem rused_any {w : World} {b : Nat} {X : Rg} {R : Nat → UInt8} {l : List Nat} (h : RgSt w b X R l) : Calls Try.prog 26 #[.pointer (some ⟨b, 0, none⟩)] w fun x w' => x = .returned (.int .i64 X.used) ∧ w = w' := by
  obtain ⟨y0, y1, y2, y3, y4, y5, y6⟩ := h.cells
  go_enter Try.func26, Try.ntmps26
  go_wp2_with fail
  go_ret
  exact ⟨rfl, rfl⟩
theorem rused_nil (w : World) : Calls Try.prog 26 #[.pointer none] w fun x w' => x = .returned (.int .i64 0) ∧ w = w' := by
  go_enter Try.func26, Try.ntmps26
  go_wp2_with fail
  go_ret
  exact ⟨rfl, rfl⟩
theorem RgSt.setUsed {w : World} {b : Nat} {X : Rg} {R : Nat → UInt8} {l : List Nat} (h : RgSt w b X R l) (u : Nat) : (w.setCell ⟨b, 4, none⟩ (.int .i64 u)).heap[b]? = some (.cells ({ X with used := u } : Rg).cells 100 (0, 0)) ∧ IsRoom (w.setCell ⟨b, 4, none⟩ (.int .i64 u)) X.rb X.cap R ∧ SzIn (w.setCell ⟨b, 4, none⟩ (.int .i64 u)) X.sv l :=
  ⟨(blk_setCell h.me (i := 4) _).trans (by simp [Rg.cells]), h.room.keep (Below.heap_setCell _ _ _ _ h.b_rb.symm), h.sz.keep fun g hg => Below.heap_setCell _ _ _ _ (fun e => h.sv_b (by rw [hg, show b = g from Eq.symm e]))⟩
theorem list_app_run {P : Program} {w : World} {ops : Array Oper} {o : Oper} {a : Act} {Q : Exit → Act → World → Prop} {rest : List Oper}
    (hg : o.guard = none) (s x : Operand) (t : TypeId) (hop : o.op = Op.call { callee := Callee.builtin Builtin.append, args := #[s, x], argTypes := #[t, t] })
    (v xv : Value) (hs : a.eval s = v) (hx : a.eval x = xv) (v' : Value) (w' : World) (hrun : (Builtin.append_ #[t, t] o.type #[v, xv]).run P w = .ok v' w')
    (hK : wpList P ops Q rest (a.put o.dst v') w') : wpList P ops Q (o :: rest) a w := by
  refine wpList_plain hg fun K hK' => ?_
  unfold Oper.wp
  simp [execOp, hop, resolve, invoke, builtin, hs, hx, hrun, Result.andThen]
  exact hK' _ _ hK
set_option maxHeartbeats 2000000 in
theorem rput_room {w : World} {b : Nat} {X : Rg} {R : Nat → UInt8} {l : List Nat} (h : RgSt w b X R l) (s : ByteArray) (h1 : 1 ≤ s.size) (h2 : s.size ≤ 179) (hr : X.used + s.size ≤ X.cap) :
    Calls Try.prog 40 #[.pointer (some ⟨b, 0, none⟩), .string s] w fun x w' => x = .returned (.int .i64 0) ∧ ∃ X' R', X'.rb = X.rb ∧ X'.cap = X.cap ∧ X'.pol = X.pol ∧ X'.hd = X.hd ∧ X'.used = X.used + s.size ∧ X'.bg = X.bg ∧ X'.lo = X.lo ∧ (X'.sv.ownBlock = X.sv.ownBlock ∨ ∃ k, X'.sv.ownBlock = some k ∧ w.heap.size ≤ k) ∧ cont R' X.cap X.hd (X.used + s.size) = cont R X.cap X.hd X.used ++ s.data.toList ∧ RgSt w' b X' R' (l ++ [s.size]) ∧ Only (rgS b X) w w' := by
  have hcap := h.cap
  have hus := h.used
  have n1 : ¬ (s.size : Int) < 1 := by omega
  have n2 : ¬ (179 : Int) < s.size := by omega
  obtain ⟨y0, y1, y2, y3, y4, y5, y6⟩ := h.cells
  go_enter Try.func40, Try.ntmps40
  go_wp2_with fail
  go_step3
  go_wp2_with fail
  go_step3
  go_wp2_with fail
  go_loopg [54] (0) (fun g u wr => wr = w)
  case atStart => rfl
  case round =>
    subst hrel
    have n3 : ¬ (X.cap : Int) - X.used < s.size := by omega
    obtain ⟨d, hd⟩ : ∃ d : Nat, d = X.cap - X.used := ⟨_, rfl⟩
    have hd2 : (X.cap : Int) - X.used = d := by omega
    have hd3 : ¬ (d : Int) < s.size := by omega
    go_upto_region 5 with fail
    go_region
    have hla := fun n => lay_any (h.below (kept_drewN wr n)) X.used s (by omega) (by omega)
    go_upto_region 13 with (go_at_call 67; (refine (hla _).mono ?_); rintro x w2 ⟨rfl, st2, on2⟩)
    have on3 : Only (rgS b X) wr w2 := (Only.ofDrewN _ wr 1).trans (on2.mono fun k _ e => show rgS b X k from .inr (.inl e)) fun _ _ x => x
    clear on2 hla y0 y1 y2 y3 y4 y5 y6
    obtain ⟨z0, z1, z2, z3, z4, z5, z6⟩ := st2.cells
    have hz := st2.frozen 4
    have hlen := st2.len
    obtain ⟨m3, r3, s3⟩ := st2.setUsed (X.used + s.size)
    go_upto_region 14 with fail
    try rw [show ((X.used : Int) + (s.size : Int)) = ((X.used + s.size : Nat) : Int) by omega]
    have on4 := on3.setCell ⟨b, 4, none⟩ (.int .i64 ((X.used + s.size : Nat) : Int)) fun _ => .inl rfl
    have hsz3 : wr.heap.size ≤ (w2.setCell ⟨b, 4, none⟩ (.int .i64 ((X.used + s.size : Nat) : Int))).heap.size := on4.size
    generalize w2.setCell ⟨b, 4, none⟩ (.int .i64 ((X.used + s.size : Nat) : Int)) = w3 at *
    clear z0 z1 z2 z3 z4 z5 z6 hz
    have z3 : w3.cell? ⟨b, 3, none⟩ = some X.sv := by rw [cell_blk m3]; rfl
    have hal := (Below.refl w3.heap.size w3).alloc (Nat.le_refl _) (.cells #[.int .i64 s.size] 3)
    have m4 := (hal.block _ (blk_lt m3)).trans m3
    have r4 := r3.keep (hal.block _ r3.lt)
    have s4 := s3.keep fun g hg => hal.block _ (s3.lt hg)
    have ha : (w3.alloc (.cells #[.int .i64 s.size] 3)).cell? ⟨w3.heap.size, 0, none⟩ = some (.int .i64 s.size) := by rw [cell_blk (heap_alloc_new w3 _)]; rfl
    obtain ⟨v', w4, hrun, hs5, hg5, hv5⟩ := append_sz s4 s.size w3.heap.size 1 ha 98 (by omega)
    obtain ⟨ao5, cp5, hvv⟩ := hs5.form
    rw [List.length_append, List.length_singleton] at hvv
    subst hvv
    have m5 := (hg5.block _ (blk_lt m4) fun x => st2.sv_b x.symm).trans m4
    have r5 := r4.keep (hg5.block _ r4.lt fun x => st2.sv_rb x.symm)
    have z5 : w4.cell? ⟨b, 3, none⟩ = some X.sv := by rw [cell_blk m5]; rfl
    have hz5 : w4.frozen? ⟨b, 3, none⟩ = false := frozen_blk m5 3
    have on5 := ((on4.alloc (.cells #[.int .i64 s.size] 3)).grown hg5 fun k hk _ => show rgS b X k from .inr (.inr hk)).setCell ⟨b, 3, none⟩ (.slice ao5 (l.length + 1) cp5) fun _ => .inl rfl
    have hne5 : (Value.slice ao5 (l.length + 1) cp5).ownBlock ≠ some b := by
      intro e
      rcases hv5 with h9 | h9
      · exact st2.sv_b (h9.symm.trans e)
      · have := blk_lt m3
        rw [h9, World.size_alloc] at e
        simp only [Option.some.injEq] at e
        omega
    clear hal m3 r3 s3 s4 r4
    go_upto_region 15 with (at_builtin; (refine list_app_run rfl (.tmp 82) (.tmp 85) 98 rfl X.sv (.slice (some ⟨w3.heap.size, 0, none⟩) 1 1) rfl rfl (.slice ao5 (l.length + 1) cp5) w4 hrun ?_))
    go_wp2_with fail
    simp only [Exit.noGoto]
    go_ret
    refine ⟨rfl, { X with used := X.used + s.size, sv := .slice ao5 (l.length + 1) cp5 }, layR R X.cap (X.hd + X.used) s.data.toList s.size, rfl, rfl, rfl, rfl, rfl, rfl, rfl, ?_, ?_, ?_, on5⟩
    · rcases hv5 with h9 | h9
      · exact .inl h9
      · exact .inr ⟨_, h9, Nat.le_trans hsz3 (by simp)⟩
    · have e : s.data.toList.length = s.size := by simp
      have := cont_lay R (cap := X.cap) (h := X.hd) (n := X.used) (s := s.data.toList) (by omega)
      rw [e] at this
      exact this
    · exact { me := (blk_setCell m5 (i := 3) _).trans (by simp [Rg.cells])
              room := r5.keep (Below.heap_setCell _ _ _ _ h.b_rb.symm)
              sz := hs5.keep fun g hg => Below.heap_setCell _ _ _ _ (fun e => hne5 (by rw [hg, show b = g from Eq.symm e]))
              hd := h.hd, cap := h.cap, used := hr
              sum := by rw [List.sum_append, h.sum]; simp
              pos := fun x hx => by
                rcases List.mem_append.1 hx with hx | hx
                · exact h.pos x hx
                · obtain rfl := List.mem_singleton.1 hx
                  exact h1
              lo := h.lo }
end Go.Proofs.Ytbfipgeoecbpaaa
