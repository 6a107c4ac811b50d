/- The walk of PipePlays. -/
import Derived.Test.YtkopkljbofneeaaW24
import Derived.Deep.RegionHeld3
namespace Go.Proofs.Ytkopkljbofneeaa
open Go.RowKit
set_option maxRecDepth 20000
/-- A call of the script. -/
structure OpP where
  k : Int
  t : ByteArray
instance : Inhabited OpP := ⟨⟨0, ⟨#[]⟩⟩⟩
def OpP.f (o : OpP) : Nat → Value
  | 0 => .int .i64 o.k
  | _ => .string o.t
theorem slArg_struct33 {H : Type} {enc : TypeId × Value → H} {W : World} {base : Nat} {held : Bool} {v : Value} {d : DataW H} {ps : List MemPlace}
    (hv : ∃ a len cap, v = .slice a len cap) (h : DataW.Trod enc Try.prog W base (fun _ => true) held 22 v d ps) :
    ∃ (oa : Option Addr) (len cap : Nat) (z : Nat → OpP), v = .slice oa len cap ∧ SlArgN W oa len cap 2 (fun i j => (z i).f j) ∧ SlLen d cap ∧ ∀ i, i < len → (z i).t.size ≤ maxLen := by
  obtain ⟨oa, len, cap, L, rfl, hs, hd, hx⟩ := slArgN_any (c := 2) Try.underlying22 (by kernel_rfl) (by decide) hv h
  have key : ∀ i, i < len → ∃ o : OpP, (∀ j, j < 2 → (L i).getD j (.bool false) = o.f j) ∧ o.t.size ≤ maxLen := by
    intro i hi
    obtain ⟨hl, n, x, hn⟩ := hx i hi
    match hL : L i, hl with
    | [c0, c1], _ =>
      rw [hL] at hn
      obtain ⟨ys, n', _, _, _, hyl, hf⟩ := DataW.trod_struct Try.underlying33 hn
      have hyl : ys.length = 2 := hyl
      have k1 : Try.prog.cellsOf 3 = 1 := by kernel_rfl
      have k2 : Try.prog.cellsOf 9 = 1 := by kernel_rfl
      have h0 : DataW.trod enc Try.prog W base (fun _ => true) held n' 3 (List.take (Try.prog.cellsOf 3) [c0, c1]) = ys[0]? := hf 0 _ rfl
      have h1 : DataW.trod enc Try.prog W base (fun _ => true) held n' 9 (List.take (Try.prog.cellsOf 9) [c1]) = ys[1]? := hf 1 _ rfl
      rw [k1, List.getElem?_eq_getElem (by omega)] at h0
      rw [k2, List.getElem?_eq_getElem (by omega)] at h1
      obtain ⟨z0, e0, _, w0⟩ := DataW.trod_int Try.underlying3 h0
      obtain ⟨z1, e1, _, w1⟩ := DataW.trod_string Try.underlying9 h1
      simp at e0 e1
      subst e0 e1
      refine ⟨⟨z0, z1⟩, fun j hj => ?_, w1⟩
      match j, hj with
      | 0, _ => rfl
      | 1, _ => rfl
  obtain ⟨z, hz⟩ := Go.Deep.choose_lt (α := OpP) (p := fun i o => (∀ j, j < 2 → (L i).getD j (.bool false) = o.f j) ∧ o.t.size ≤ maxLen) key
  exact ⟨oa, len, cap, z, rfl, hs.congr fun i hi => (hz i hi).1, hd, fun i hi => (hz i hi).2⟩
/-- The two pipes, side by side. -/
structure Both (w : World) (B b c b2 room : Nat) (l : List ByteArray) (closed : Bool) : Prop where
  p : IsPipe w b c room l closed
  m : IsRP w b2 room l closed
  hb : B ≤ b
  hc : B ≤ c
  hb2 : B ≤ b2
  n1 : b2 ≠ b
  n2 : b2 ≠ c
theorem both_alloc {w : World} {B b c b2 room : Nat} {l : List ByteArray} {closed : Bool} (h : Both w B b c b2 room l closed) (o : Obj) : Both (w.alloc o) B b c b2 room l closed :=
  ⟨h.p.only ((Only.refl (fun _ => False) w).alloc o) (fun x => x) (fun x => x), h.m.only ((Only.refl (fun _ => False) w).alloc o) (fun x => x) (fun _ x => x.elim), h.hb, h.hc, h.hb2, h.n1, h.n2⟩
theorem both_p {w w' : World} {b c b2 room : Nat} {l l2 : List ByteArray} {closed : Bool} {cl2 : Bool} (hp : IsPipe w b c room l closed) (hm : IsRP w b2 room l2 cl2) (n1 : b2 ≠ b) (n2 : b2 ≠ c) (o : Only (fun k => k = b ∨ k = c) w w') : IsRP w' b2 room l2 cl2 :=
  hm.only o (fun x => by rcases x with x | x; exact n1 x; exact n2 x) (fun k hk cur e => by
    rcases hk with rfl | rfl
    · rw [hp.blk] at e; simp at e
    · obtain ⟨s, r, h2⟩ := hp.ch
      rw [h2] at e; simp at e)
theorem both_m {w w' : World} {b c b2 room : Nat} {l : List ByteArray} {closed : Bool} (hp : IsPipe w b c room l closed) (n1 : b2 ≠ b) (n2 : b2 ≠ c) (o : Only (fun k => k = b2) w w') : IsPipe w' b c room l closed :=
  hp.only o (fun x => n1 x.symm) (fun x => n2 x.symm)
theorem pipe_below' {w w1 w' : World} {b c : Nat} (h : Below w.heap.size w w1) (hb : w.heap.size ≤ b) (hc : w.heap.size ≤ c) (o : Only (fun k => k = b ∨ k = c) w1 w') : Below w.heap.size w w' := pipe_below h hb hc o
theorem pipe_below1 {w w1 w' : World} {b : Nat} (h : Below w.heap.size w w1) (hb : w.heap.size ≤ b) (o : Only (fun k => k = b) w1 w') : Below w.heap.size w w' :=
  h.trans (o.below h.size (fun i hi hs => by omega))
theorem roffer_no' {w : World} {b room : Nat} {l : List ByteArray} {closed : Bool} (h : IsRP w b room l closed) (hn : closed = true ∨ room ≤ l.length) (hl : l.length ≤ 64) (x : ByteArray) :
    Calls Try.prog 8 #[.pointer (some ⟨b, 0, none⟩), .string x] w fun e w' => e = .returned (.bool false) ∧ IsRP w' b room l closed ∧ Only (fun k => k = b) w w' :=
  (roffer_no h hn hl x).mono fun e w' ⟨h1, n, h2⟩ => ⟨h1, h2 ▸ h.only (Only.ofDrewN (fun _ => False) w n) (fun x => x) (fun _ x => x.elim), h2 ▸ Only.ofDrewN _ w n⟩
theorem own_setCell_row {w : World} {b base : Nat} {cs : Array Value} {t e : TypeId} {fz : Nat × Nat} {v : Value} {n : Nat} {xs : List Value} (h1 : w.heap[b]? = some (.cells cs t fz)) (h : w.ownsRow base e 1 v n xs) (hne : t ≠ e := by decide) (i : Nat) (x : Value) : (w.setCell ⟨b, i, none⟩ x).ownsRow base e 1 v n xs := by
  obtain ⟨h2, h3⟩ := h
  refine ⟨h2, ?_⟩
  rcases h3 with h | ⟨g, cap, cur, h3, h4, h5, h6⟩
  · exact .inl h
  · refine .inr ⟨g, cap, cur, h3, h4, blk_setCell_other h5 (fun e' => ?_) _, h6⟩
    simp only at e'
    subst e'
    rw [h1] at h5
    simp at h5
    exact hne h5.2.1
theorem bel_start24 {w w' w'' : World} (h : Below w.heap.size w w') (k : Below w'.heap.size w' w'') : Below w.heap.size w w'' := h.trans (k.mono h.size)
set_option maxHeartbeats 4000000 in
theorem pipePlays_law (n : Int) (oa : Option Addr) (len cap : Nat) (z : Nat → OpP) (w : World) (_hn : (Lit.int .i64 n).wf = true) (hsl : SlArgN w oa len cap 2 (fun i j => (z i).f j)) (_hr : cap * 24 ≤ 140737488351232) (_hz : ∀ i, i < len → (z i).t.size ≤ maxLen) :
    Calls Try.prog 3 #[.int .i64 n, .slice oa len cap] w fun e w' => e = .returned (.bool true) ∧ Below w.heap.size w w' := by
  have hB := Below.refl w.heap.size w
  by_cases h0 : n < 1 ∨ 64 < n
  · have e0 : (decide (1 ≤ n) && decide (n ≤ 64)) = false := by rcases h0 with h | h <;> simp <;> omega
    by_cases h1 : n < 1
    · go_enter Try.func3, Try.ntmps3
      go_wp2_with (first | (go_at_call 5; (with_reducible refine (new_bad _ h0 _).mono ?_); rintro e w1 ⟨rfl, rfl⟩) | (go_at_call 6; (with_reducible refine (awake24 _).mono ?_); rintro e w2 ⟨rfl, hk⟩))
      go_ret
      exact ⟨rfl, hk⟩
    · have h2 : 64 < n := by omega
      have h3 : 1 ≤ n := by omega
      go_enter Try.func3, Try.ntmps3
      go_wp2_with (first | (go_at_call 5; (with_reducible refine (new_bad _ h0 _).mono ?_); rintro e w1 ⟨rfl, rfl⟩) | (go_at_call 6; (with_reducible refine (awake24 _).mono ?_); rintro e w2 ⟨rfl, hk⟩))
      go_ret
      exact ⟨rfl, hk⟩
  · obtain ⟨room, rfl⟩ : ∃ room : Nat, n = room := ⟨n.toNat, by omega⟩
    have r1 : 1 ≤ room := by omega
    have r2 : room ≤ 64 := by omega
    have r1' : (1 : Int) ≤ room := by omega
    have r2' : (room : Int) ≤ 64 := by omega
    clear h0
    by_cases hl : len ≤ 400
    · have hd : decide ((400 : Int) < len) = false := by simp; omega
      go_enter Try.func3, Try.ntmps3
      go_wp2_with fail
      refine (new_any room r1 r2 _).mono ?_
      rintro e w1 ⟨b, c, rfl, hP, hb, hc, hk⟩
      have hk1 := hk.size
      go_wp2_with fail
      refine (awake24 _).mono ?_
      rintro e w2 ⟨rfl, hk2⟩
      have hP2 := hP.only (Only.of_below hk2 (fun _ => False)) (fun x => x) (fun x => x)
      have hB2 := bel_start24 hk hk2
      have hs2 := hB2.size
      clear hB hk hk2 hP
      go_wp2
      obtain ⟨b2, hb2⟩ : ∃ b2, b2 = w2.heap.size := ⟨_, rfl⟩
      have hM : IsRP (w2.alloc (.cells #[.int .i64 room, .slice none 0 0, .bool false] 31)) b2 room [] false := ⟨.slice none 0 0, by rw [hb2]; exact heap_alloc_new w2 _, World.ownsRow_nil _ _ _ _⟩
      have hP := hP2.only ((Only.refl (fun _ => False) w2).alloc (.cells #[.int .i64 room, .slice none 0 0, .bool false] 31)) (fun x => x) (fun x => x)
      have hB := hB2.alloc hs2 (.cells #[.int .i64 room, .slice none 0 0, .bool false] 31)
      have hbs : w.heap.size ≤ b2 := by omega
      have n1 : b2 ≠ b := by have := blk_lt hP2.blk; omega
      have n2 : b2 ≠ c := by obtain ⟨_, _, q⟩ := hP2.ch; have := blk_lt q; omega
      rw [← hb2]
      generalize w2.alloc (.cells #[.int .i64 room, .slice none 0 0, .bool false] 31) = w3 at hM hP hB ⊢
      clear hP2 hB2 hs2 hb2 hk1
      go_loopw [60] (fun x wr => ∃ (i : Nat) (l : List ByteArray) (cl : Bool), x = .int .i64 i ∧ i ≤ len ∧ l.length ≤ room ∧ IsPipe wr b c room l cl ∧ IsRP wr b2 room l cl ∧ Below w.heap.size w wr) (fun x _ => len - (intOf x).toNat)
      case atStart => exact ⟨0, [], false, rfl, by omega, Nat.zero_le _, hP, hM, hB⟩
      case round =>
        clear hP hM hB
        obtain ⟨i, l, cl, rfl, hi, hll, hP, hM, hB⟩ := hrel
        have hx := hB.size
        by_cases hlt : i < len
        · obtain ⟨g, off, rfl, hg, hc'⟩ := hsl.below hB (Nat.le_refl _) hlt
          have hlt' : (i : Int) < len := by omega
          have hc0 := hc' 0 (by decide)
          have hc1 := hc' 1 (by decide)
          simp only [OpP.f, Nat.add_zero] at hc0 hc1
          clear hc'
          generalize (z i).k = k at hc0
          generalize (z i).t = t at hc1
          have hB2 := hB.alloc hx (.cells #[.int .i64 k, .string t] 33)
          have hO : (wr.alloc (.cells #[.int .i64 k, .string t] 33)).heap[wr.heap.size]? = some (.cells #[.int .i64 k, .string t] 33 (0, 0)) := heap_alloc_new wr _
          have hP2 := hP.only ((Only.refl (fun _ => False) wr).alloc (.cells #[.int .i64 k, .string t] 33)) (fun x => x) (fun x => x)
          have hM2 := hM.only ((Only.refl (fun _ => False) wr).alloc (.cells #[.int .i64 k, .string t] 33)) (fun x => x) (fun _ x => x.elim)
          have g1 : wr.heap.size ≠ b := by have := blk_lt hP.blk; omega
          have g2 : wr.heap.size ≠ c := by obtain ⟨_, _, q⟩ := hP.ch; have := blk_lt q; omega
          have g3 : wr.heap.size ≠ b2 := by obtain ⟨_, q, _⟩ := hM; have := blk_lt q; omega
          have hk1 : (wr.alloc (.cells #[.int .i64 k, .string t] 33)).cell? ⟨wr.heap.size, 1, none⟩ = some (.string t) := by rw [cell_blk hO]; rfl
          clear hB hP hM
          by_cases k1 : k = 1
          · subst k1
            go_wp2_with fail
            generalize wr.alloc (.cells #[.int .i64 1, .string t] 33) = W at hB2 hO hP2 hM2 hk1 ⊢
            generalize wr.heap.size = o at hO hk1 g1 g2 g3 ⊢
            clear hc0 hc1
            have hoff : ∃ (r : Bool) (l2 : List ByteArray), l2.length ≤ room ∧ (Calls Try.prog 7 #[.pointer (some ⟨b, 0, none⟩), .string t] W.drew fun e w' => e = .returned (.bool r) ∧ IsPipe w' b c room l2 cl ∧ Only (fun k => k = c) W.drew w') ∧
                ∀ w9, IsRP w9 b2 room l cl → Calls Try.prog 8 #[.pointer (some ⟨b2, 0, none⟩), .string t] w9 fun e w' => e = .returned (.bool r) ∧ IsRP w' b2 room l2 cl ∧ Only (fun k => k = b2) w9 w' := by
              cases cl
              · by_cases hfull : l.length < room
                · exact ⟨true, l ++ [t], by simp; omega, offer_room (w := W.drew) ⟨hP2.blk, hP2.ch⟩ hfull t, fun w9 h => roffer_yes h hfull r2 t⟩
                · exact ⟨false, l, hll, offer_full (w := W.drew) ⟨hP2.blk, hP2.ch⟩ (by omega) t, fun w9 h => roffer_no' h (.inr (by omega)) (by omega) t⟩
              · exact ⟨false, l, hll, offer_closed (w := W.drew) ⟨hP2.blk, hP2.ch⟩ t, fun w9 h => roffer_no' h (.inl rfl) (by omega) t⟩
            obtain ⟨r, l2, hl2, hof, hrf⟩ := hoff
            go_region_held3 (fun w' => w'.cell? ⟨o, 1, none⟩ = some (.string t)) (first | assumption | exact hk1) (first | (go_at_call 7; (refine hof.mono ?_); rintro e w9 ⟨rfl, hP3, hO3'⟩; have hO3 : Only (fun k => k = c) W w9 := ⟨hO3'.os, hO3'.tape, hO3'.output, hO3'.size, hO3'.block⟩; have hM3 := both_p hP2 hM2 n1 n2 (Only.c (b := b) hO3); have hB3 := pipe_below' hB2 hb hc (Only.c (b := b) hO3); have hO9 := hO3.keeps hO g2; have hk1 : w9.cell? ⟨o, 1, none⟩ = some (.string t) := ((cell_blk hO9 1).trans rfl)) | (go_at_call 8; (refine (hrf _ hM3).mono ?_); rintro e w10 ⟨rfl, hM4, hO4'⟩; have hO4 : Only (fun k => k = b2) w9 w10 := ⟨hO4'.os, hO4'.tape, hO4'.output, hO4'.size, hO4'.block⟩; have hP4 := both_m hP3 n1 n2 hO4; have hB4 := pipe_below1 hB3 hbs hO4; have hO10 := hO4.keeps hO9 g3; have hk1 : w10.cell? ⟨o, 1, none⟩ = some (.string t) := ((cell_blk hO10 1).trans rfl)))
            go_wp2_with fail
            clear hof hrf
            cases cl
            · obtain ⟨v4, q1, q2⟩ := hM4
              obtain ⟨ao4, cap4, rfl⟩ := owns_form q2
              have c1 : w10.cell? ⟨b2, 1, none⟩ = some (.slice ao4 l2.length cap4) := by rw [cell_blk q1]; rfl
              have c2 : w10.cell? ⟨b2, 2, none⟩ = some (.bool false) := by rw [cell_blk q1]; rfl
              have hlen := fun (n : Nat) => (pipeLen_any (w := w10.drewN n) ⟨hP4.blk, hP4.ch⟩).mono fun e w' ⟨h1, h2⟩ => (⟨h1, n, h2.symm⟩ : _ ∧ ∃ m, w' = w10.drewN m)
              have hov := fun (n : Nat) => (pipeOver_any (w := w10.drewN n) ⟨hP4.blk, hP4.ch⟩).mono fun e w' ⟨h1, h2⟩ => (⟨h1, n, h2.symm⟩ : _ ∧ ∃ m, w' = w10.drewN m)
              simp only [Bool.false_and] at hov
              go_quiet (first | exact hlen _ | exact hov _)
              go_wp2_with fail
              go_roundw
              case rel => exact ⟨i + 1, l2, false, by go_num, by omega, hl2, ⟨hP4.blk, hP4.ch⟩, ⟨_, q1, q2⟩, below_drewN hB4 _⟩
              case measure => simp [intOf]; omega
            · obtain ⟨v4, q1, q2⟩ := hM4
              obtain ⟨ao4, cap4, rfl⟩ := owns_form q2
              have c1 : w10.cell? ⟨b2, 1, none⟩ = some (.slice ao4 l2.length cap4) := by rw [cell_blk q1]; rfl
              have c2 : w10.cell? ⟨b2, 2, none⟩ = some (.bool true) := by rw [cell_blk q1]; rfl
              have hlen := fun (n : Nat) => (pipeLen_any (w := w10.drewN n) ⟨hP4.blk, hP4.ch⟩).mono fun e w' ⟨h1, h2⟩ => (⟨h1, n, h2.symm⟩ : _ ∧ ∃ m, w' = w10.drewN m)
              have hov := fun (n : Nat) => (pipeOver_any (w := w10.drewN n) ⟨hP4.blk, hP4.ch⟩).mono fun e w' ⟨h1, h2⟩ => (⟨h1, n, h2.symm⟩ : _ ∧ ∃ m, w' = w10.drewN m)
              by_cases he : l2.length = 0
              · have he1 : decide (l2.length = 0) = true := by simp only [he]; rfl
                have he2 : ((l2.length : Int) == 0) = true := by rw [he]; rfl
                simp only [Bool.true_and, he1] at hov
                go_quiet (first | exact hlen _ | exact hov _)
                go_wp2_with fail
                go_roundw
                case rel => exact ⟨i + 1, l2, true, by go_num, by omega, hl2, ⟨hP4.blk, hP4.ch⟩, ⟨_, q1, q2⟩, below_drewN hB4 _⟩
                case measure => simp [intOf]; omega
              · have he1 : decide (l2.length = 0) = false := by simp only [he]; rfl
                have he2 : ((l2.length : Int) == 0) = false := by rw [beq_eq_false_iff_ne]; omega
                simp only [Bool.true_and, he1] at hov
                go_quiet (first | exact hlen _ | exact hov _)
                go_wp2_with fail
                go_roundw
                case rel => exact ⟨i + 1, l2, true, by go_num, by omega, hl2, ⟨hP4.blk, hP4.ch⟩, ⟨_, q1, q2⟩, below_drewN hB4 _⟩
                case measure => simp [intOf]; omega
          · have kk1 : (k == 1) = false := by simp [k1]
            by_cases k2 : k = 2
            · subst k2
              go_wp2_with fail
              generalize wr.alloc (.cells #[.int .i64 2, .string t] 33) = W at hB2 hO hP2 hM2 hk1 ⊢
              generalize wr.heap.size = o at hO hk1 g1 g2 g3 ⊢
              clear hc0 hc1
              have htk : ∃ (s : ByteArray) (r : Bool) (l2 : List ByteArray), l2.length ≤ room ∧ (Calls Try.prog 9 #[.pointer (some ⟨b, 0, none⟩)] W fun e w' => e = .returned (.tuple #[.string s, .bool r]) ∧ IsPipe w' b c room l2 cl ∧ Only (fun k => k = c) W w') ∧
                  ∀ w9, IsRP w9 b2 room l cl → Calls Try.prog 10 #[.pointer (some ⟨b2, 0, none⟩)] w9 fun e w' => e = .returned (.tuple #[.string s, .bool r]) ∧ IsRP w' b2 room l2 cl ∧ Only (fun k => k = b2) w9 w' := by
                cases l with
                | nil => exact ⟨⟨#[]⟩, false, [], Nat.zero_le _, take_none hP2, fun w9 h => (rtake_none h).mono fun e w' ⟨h1, h2⟩ => ⟨h1, h2 ▸ h, h2 ▸ Only.refl _ _⟩⟩
                | cons x l => exact ⟨x, true, l, by simp at hll; omega, take_some hP2, fun w9 h => rtake_some h (by omega)⟩
              obtain ⟨s, r, l2, hl2, htk, hrt⟩ := htk
              refine htk.mono ?_
              rintro e w9 ⟨rfl, hP3, hO3⟩
              have hM3 := both_p hP2 hM2 n1 n2 (Only.c (b := b) hO3)
              have hB3 := pipe_below' hB2 hb hc (Only.c (b := b) hO3)
              go_wp2_with fail
              refine (hrt _ hM3).mono ?_
              rintro e w10 ⟨rfl, hM4, hO4⟩
              have hP4 := both_m hP3 n1 n2 hO4
              have hB4 := pipe_below1 hB3 hbs hO4
              clear htk hrt
              go_wp2_with fail
              cases cl
              · obtain ⟨v4, q1, q2⟩ := hM4
                obtain ⟨ao4, cap4, rfl⟩ := owns_form q2
                have c1 : w10.cell? ⟨b2, 1, none⟩ = some (.slice ao4 l2.length cap4) := by rw [cell_blk q1]; rfl
                have c2 : w10.cell? ⟨b2, 2, none⟩ = some (.bool false) := by rw [cell_blk q1]; rfl
                have hlen := fun (n : Nat) => (pipeLen_any (w := w10.drewN n) ⟨hP4.blk, hP4.ch⟩).mono fun e w' ⟨h1, h2⟩ => (⟨h1, n, h2.symm⟩ : _ ∧ ∃ m, w' = w10.drewN m)
                have hov := fun (n : Nat) => (pipeOver_any (w := w10.drewN n) ⟨hP4.blk, hP4.ch⟩).mono fun e w' ⟨h1, h2⟩ => (⟨h1, n, h2.symm⟩ : _ ∧ ∃ m, w' = w10.drewN m)
                simp only [Bool.false_and] at hov
                go_quiet (first | exact hlen _ | exact hov _)
                go_wp2_with fail
                go_roundw
                case rel => exact ⟨i + 1, l2, false, by go_num, by omega, hl2, ⟨hP4.blk, hP4.ch⟩, ⟨_, q1, q2⟩, below_drewN hB4 _⟩
                case measure => simp [intOf]; omega
              · obtain ⟨v4, q1, q2⟩ := hM4
                obtain ⟨ao4, cap4, rfl⟩ := owns_form q2
                have c1 : w10.cell? ⟨b2, 1, none⟩ = some (.slice ao4 l2.length cap4) := by rw [cell_blk q1]; rfl
                have c2 : w10.cell? ⟨b2, 2, none⟩ = some (.bool true) := by rw [cell_blk q1]; rfl
                have hlen := fun (n : Nat) => (pipeLen_any (w := w10.drewN n) ⟨hP4.blk, hP4.ch⟩).mono fun e w' ⟨h1, h2⟩ => (⟨h1, n, h2.symm⟩ : _ ∧ ∃ m, w' = w10.drewN m)
                have hov := fun (n : Nat) => (pipeOver_any (w := w10.drewN n) ⟨hP4.blk, hP4.ch⟩).mono fun e w' ⟨h1, h2⟩ => (⟨h1, n, h2.symm⟩ : _ ∧ ∃ m, w' = w10.drewN m)
                by_cases he : l2.length = 0
                · have he1 : decide (l2.length = 0) = true := by simp only [he]; rfl
                  have he2 : ((l2.length : Int) == 0) = true := by rw [he]; rfl
                  simp only [Bool.true_and, he1] at hov
                  go_quiet (first | exact hlen _ | exact hov _)
                  go_wp2_with fail
                  go_roundw
                  case rel => exact ⟨i + 1, l2, true, by go_num, by omega, hl2, ⟨hP4.blk, hP4.ch⟩, ⟨_, q1, q2⟩, below_drewN hB4 _⟩
                  case measure => simp [intOf]; omega
                · have he1 : decide (l2.length = 0) = false := by simp only [he]; rfl
                  have he2 : ((l2.length : Int) == 0) = false := by rw [beq_eq_false_iff_ne]; omega
                  simp only [Bool.true_and, he1] at hov
                  go_quiet (first | exact hlen _ | exact hov _)
                  go_wp2_with fail
                  go_roundw
                  case rel => exact ⟨i + 1, l2, true, by go_num, by omega, hl2, ⟨hP4.blk, hP4.ch⟩, ⟨_, q1, q2⟩, below_drewN hB4 _⟩
                  case measure => simp [intOf]; omega
            · have kk2 : (k == 2) = false := by simp [k2]
              by_cases k3 : k = 3
              · subst k3
                go_wp2_with fail
                generalize wr.alloc (.cells #[.int .i64 3, .string t] 33) = W at hB2 hO hP2 hM2 hk1 ⊢
                generalize wr.heap.size = o at hO hk1 g1 g2 g3 ⊢
                clear hc0 hc1
                have hcl : Calls Try.prog 11 #[.pointer (some ⟨b, 0, none⟩)] W fun e w' => e = .returned (.tuple #[]) ∧ IsPipe w' b c room l true ∧ Only (fun k => k = b ∨ k = c) W w' := by
                  cases cl
                  · exact close_open hP2
                  · exact close_closed hP2
                refine hcl.mono ?_
                rintro e w9 ⟨rfl, hP3, hO3⟩
                have hM3 := both_p hP2 hM2 n1 n2 hO3
                have hB3 := pipe_below' hB2 hb hc hO3
                clear hcl
                obtain ⟨v3, p1, p2⟩ := hM3
                have hf3 := frozen_blk p1 2
                have c3 : w9.cell? ⟨b2, 2, none⟩ = some (.bool cl) := by rw [cell_blk p1]; rfl
                go_wp2_with fail
                have hO4 : Only (fun k => k = b2) w9 (w9.setCell ⟨b2, 2, none⟩ (.bool true)) := (Only.refl _ w9).setCell ⟨b2, 2, none⟩ (.bool true) (fun _ => rfl)
                have hM4 : IsRP (w9.setCell ⟨b2, 2, none⟩ (.bool true)) b2 room l true := ⟨v3, blk_setCell p1 (i := 2) (.bool true), own_setCell_row p1 p2 (by decide) 2 (.bool true)⟩
                have hP4 := both_m hP3 n1 n2 hO4
                have hB4 := pipe_below1 hB3 hbs hO4
                generalize w9.setCell ⟨b2, 2, none⟩ (.bool true) = w10 at hO4 hM4 hP4 hB4 ⊢
                obtain ⟨v4, q1, q2⟩ := hM4
                obtain ⟨ao4, cap4, rfl⟩ := owns_form q2
                have c1 : w10.cell? ⟨b2, 1, none⟩ = some (.slice ao4 l.length cap4) := by rw [cell_blk q1]; rfl
                have c2 : w10.cell? ⟨b2, 2, none⟩ = some (.bool true) := by rw [cell_blk q1]; rfl
                have hlen := fun (n : Nat) => (pipeLen_any (w := w10.drewN n) ⟨hP4.blk, hP4.ch⟩).mono fun e w' ⟨h1, h2⟩ => (⟨h1, n, h2.symm⟩ : _ ∧ ∃ m, w' = w10.drewN m)
                have hov := fun (n : Nat) => (pipeOver_any (w := w10.drewN n) ⟨hP4.blk, hP4.ch⟩).mono fun e w' ⟨h1, h2⟩ => (⟨h1, n, h2.symm⟩ : _ ∧ ∃ m, w' = w10.drewN m)
                by_cases he : l.length = 0
                · have he1 : decide (l.length = 0) = true := by simp only [he]; rfl
                  have he2 : ((l.length : Int) == 0) = true := by rw [he]; rfl
                  simp only [Bool.true_and, he1] at hov
                  go_quiet (first | exact hlen _ | exact hov _)
                  go_wp2_with fail
                  go_roundw
                  case rel => exact ⟨i + 1, l, true, by go_num, by omega, hll, ⟨hP4.blk, hP4.ch⟩, ⟨_, q1, q2⟩, below_drewN hB4 _⟩
                  case measure => simp [intOf]; omega
                · have he1 : decide (l.length = 0) = false := by simp only [he]; rfl
                  have he2 : ((l.length : Int) == 0) = false := by rw [beq_eq_false_iff_ne]; omega
                  simp only [Bool.true_and, he1] at hov
                  go_quiet (first | exact hlen _ | exact hov _)
                  go_wp2_with fail
                  go_roundw
                  case rel => exact ⟨i + 1, l, true, by go_num, by omega, hll, ⟨hP4.blk, hP4.ch⟩, ⟨_, q1, q2⟩, below_drewN hB4 _⟩
                  case measure => simp [intOf]; omega
              · have kk3 : (k == 3) = false := by simp [k3]
                go_wp2_with fail
                generalize wr.alloc (.cells #[.int .i64 k, .string t] 33) = W at hB2 hO hP2 hM2 hk1 ⊢
                cases cl
                · obtain ⟨v4, q1, q2⟩ := hM2
                  obtain ⟨ao4, cap4, rfl⟩ := owns_form q2
                  have c1 : W.cell? ⟨b2, 1, none⟩ = some (.slice ao4 l.length cap4) := by rw [cell_blk q1]; rfl
                  have c2 : W.cell? ⟨b2, 2, none⟩ = some (.bool false) := by rw [cell_blk q1]; rfl
                  have hlen := fun (n : Nat) => (pipeLen_any (w := W.drewN n) ⟨hP2.blk, hP2.ch⟩).mono fun e w' ⟨h1, h2⟩ => (⟨h1, n, h2.symm⟩ : _ ∧ ∃ m, w' = W.drewN m)
                  have hov := fun (n : Nat) => (pipeOver_any (w := W.drewN n) ⟨hP2.blk, hP2.ch⟩).mono fun e w' ⟨h1, h2⟩ => (⟨h1, n, h2.symm⟩ : _ ∧ ∃ m, w' = W.drewN m)
                  simp only [Bool.false_and] at hov
                  go_quiet (first | exact hlen _ | exact hov _)
                  go_wp2_with fail
                  go_roundw
                  case rel => exact ⟨i + 1, l, false, by go_num, by omega, hll, ⟨hP2.blk, hP2.ch⟩, ⟨_, q1, q2⟩, below_drewN hB2 _⟩
                  case measure => simp [intOf]; omega
                · obtain ⟨v4, q1, q2⟩ := hM2
                  obtain ⟨ao4, cap4, rfl⟩ := owns_form q2
                  have c1 : W.cell? ⟨b2, 1, none⟩ = some (.slice ao4 l.length cap4) := by rw [cell_blk q1]; rfl
                  have c2 : W.cell? ⟨b2, 2, none⟩ = some (.bool true) := by rw [cell_blk q1]; rfl
                  have hlen := fun (n : Nat) => (pipeLen_any (w := W.drewN n) ⟨hP2.blk, hP2.ch⟩).mono fun e w' ⟨h1, h2⟩ => (⟨h1, n, h2.symm⟩ : _ ∧ ∃ m, w' = W.drewN m)
                  have hov := fun (n : Nat) => (pipeOver_any (w := W.drewN n) ⟨hP2.blk, hP2.ch⟩).mono fun e w' ⟨h1, h2⟩ => (⟨h1, n, h2.symm⟩ : _ ∧ ∃ m, w' = W.drewN m)
                  by_cases he : l.length = 0
                  · have he1 : decide (l.length = 0) = true := by simp only [he]; rfl
                    have he2 : ((l.length : Int) == 0) = true := by rw [he]; rfl
                    simp only [Bool.true_and, he1] at hov
                    go_quiet (first | exact hlen _ | exact hov _)
                    go_wp2_with fail
                    go_roundw
                    case rel => exact ⟨i + 1, l, true, by go_num, by omega, hll, ⟨hP2.blk, hP2.ch⟩, ⟨_, q1, q2⟩, below_drewN hB2 _⟩
                    case measure => simp [intOf]; omega
                  · have he1 : decide (l.length = 0) = false := by simp only [he]; rfl
                    have he2 : ((l.length : Int) == 0) = false := by rw [beq_eq_false_iff_ne]; omega
                    simp only [Bool.true_and, he1] at hov
                    go_quiet (first | exact hlen _ | exact hov _)
                    go_wp2_with fail
                    go_roundw
                    case rel => exact ⟨i + 1, l, true, by go_num, by omega, hll, ⟨hP2.blk, hP2.ch⟩, ⟨_, q1, q2⟩, below_drewN hB2 _⟩
                    case measure => simp [intOf]; omega
        · obtain rfl : i = len := by omega
          go_wp2
          go_ret
          exact ⟨rfl, hB⟩
    · have hd : (400 : Int) < len := by omega
      clear hl
      go_enter Try.func3, Try.ntmps3
      go_wp2_with fail
      refine (new_any room r1 r2 _).mono ?_
      rintro e w1 ⟨b, c, rfl, hP, hb, hc, hk⟩
      go_wp2_with fail
      refine (awake24 _).mono ?_
      rintro e w2 ⟨rfl, hk2⟩
      go_wp2_with fail
      go_ret
      exact ⟨rfl, bel_start24 hk hk2⟩
end Go.Proofs.Ytkopkljbofneeaa
