/- The walk of PipeAll. -/
import Derived.Test.YtkopkljbofneeaaW24P
namespace Go.Proofs.Ytkopkljbofneeaa
open Go.RowKit
set_option maxRecDepth 20000
theorem own_only {S : Nat → Prop} {w w' : World} {base e size : Nat} {v : Value} {n : Nat} {xs : List Value} (h : w.ownsRow base e size v n xs) (o : Only S w w') (hS : ∀ g, v.ownBlock = some g → ¬ S g) : w'.ownsRow base e size v n xs := by
  obtain ⟨h1, h2⟩ := h
  refine ⟨h1, ?_⟩
  rcases h2 with h | ⟨g, cap, cur, rfl, h4, h5, h6⟩
  · exact .inl h
  · exact .inr ⟨g, cap, cur, rfl, h4, o.keeps h5 (hS g rfl), h6⟩
theorem own_type {w : World} {base e size : Nat} {v : Value} {n : Nat} {xs : List Value} (h : w.ownsRow base e size v n xs) {g : Nat} (hg : v.ownBlock = some g) : ∃ cur, w.heap[g]? = some (.cells cur e (0, 0)) := by
  rcases h.2 with ⟨rfl, _⟩ | ⟨g', cap, cur, rfl, _, h5, _⟩
  · simp [Value.ownBlock] at hg
  · simp only [Value.ownBlock, Option.some.injEq] at hg; subst hg; exact ⟨cur, h5⟩
/-- What went in, what came out, and what is in between. -/
structure AllRel (w wr : World) (b c room : Nat) (v1 v2 : Value) (l ins outs : List ByteArray) (cl : Bool) : Prop where
  p : IsPipe wr b c room l cl
  eq : ins = outs ++ l
  ll : l.length ≤ room
  o1 : wr.ownsRow w.heap.size 9 1 v1 ins.length (sv ins)
  o2 : wr.ownsRow w.heap.size 9 1 v2 outs.length (sv outs)
  dis : ∀ g, v1.ownBlock = some g → v2.ownBlock ≠ some g
  bel : Below w.heap.size w wr
theorem own_ne_b {w : World} {b c room : Nat} {l : List ByteArray} {cl : Bool} {base size : Nat} {v : Value} {n : Nat} {xs : List Value} (hp : IsPipe w b c room l cl) (h : w.ownsRow base 9 size v n xs) : ∀ g, v.ownBlock = some g → g ≠ b ∧ g ≠ c := by
  intro g hg
  obtain ⟨cur, hc⟩ := own_type h hg
  constructor
  · rintro rfl
    rw [hp.blk] at hc; simp at hc
  · rintro rfl
    obtain ⟨s, r, h2⟩ := hp.ch
    rw [h2] at hc; simp at hc
theorem AllRel.alloc {w wr : World} {b c room : Nat} {v1 v2 : Value} {l ins outs : List ByteArray} {cl : Bool} (h : AllRel w wr b c room v1 v2 l ins outs cl) (o : Obj) : AllRel w (wr.alloc o) b c room v1 v2 l ins outs cl :=
  ⟨h.p.only ((Only.refl (fun _ => False) wr).alloc o) (fun x => x) (fun x => x), h.eq, h.ll, h.o1.alloc o, h.o2.alloc o, h.dis, h.bel.alloc h.bel.size o⟩
theorem AllRel.pipe {w wr w' : World} {b c room : Nat} {v1 v2 : Value} {l l' ins ins' outs : List ByteArray} {cl cl' : Bool} (h : AllRel w wr b c room v1 v2 l ins outs cl) (hb : w.heap.size ≤ b) (hc : w.heap.size ≤ c)
    (hp : IsPipe w' b c room l' cl') (o : Only (fun k => k = b ∨ k = c) wr w') :
    IsPipe w' b c room l' cl' ∧ w'.ownsRow w.heap.size 9 1 v1 ins.length (sv ins) ∧ w'.ownsRow w.heap.size 9 1 v2 outs.length (sv outs) ∧ Below w.heap.size w w' :=
  ⟨hp, own_only h.o1 o (fun g hg x => by have := own_ne_b h.p h.o1 g hg; rcases x with x | x; exact this.1 x; exact this.2 x), own_only h.o2 o (fun g hg x => by have := own_ne_b h.p h.o2 g hg; rcases x with x | x; exact this.1 x; exact this.2 x), pipe_below h.bel hb hc o⟩
/-- What an append leaves: the row that was appended to has grown, the other one is as it was. -/
theorem app_keep {B : Nat} {w w' : World} {b c room : Nat} {v v' u : Value} {l : List ByteArray} {cl : Bool} {n n' m : Nat} {xs xs' ys : List Value} (hp : IsPipe w b c room l cl)
    (h1 : w.ownsRow B 9 1 v n xs) (h2 : w.ownsRow B 9 1 u m ys) (hd : ∀ g, v.ownBlock = some g → u.ownBlock ≠ some g) (_hown : w'.ownsRow B 9 1 v' n' xs') (hg : w.grownBy w' v.ownBlock) (hat : v'.ownBlock = v.ownBlock ∨ v'.ownBlock = some w.heap.size) :
    IsPipe w' b c room l cl ∧ w'.ownsRow B 9 1 u m ys ∧ (∀ g, v'.ownBlock = some g → u.ownBlock ≠ some g) := by
  have ho : Only (fun k => v.ownBlock = some k) w w' := (Only.refl _ w).grown hg (fun k hk _ => hk)
  refine ⟨hp.only ho (fun hx => (own_ne_b hp h1 _ hx).1 rfl) (fun hx => (own_ne_b hp h1 _ hx).2 rfl), own_only h2 ho (fun g hg hx => hd g hx hg), fun g hg => ?_⟩
  rcases hat with h | h
  · exact hd g (h ▸ hg)
  · intro hu
    rw [h] at hg
    simp only [Option.some.injEq] at hg
    subst hg
    have := (h2.lt _ hu).2
    omega
set_option maxHeartbeats 4000000 in
theorem pipeAll_law (n : Int) (oa : Option Addr) (len cap : Nat) (z : Nat → OpP) (w : World) (_hn : (Lit.int .i64 n).wf = true) (hsl : SlArgN w oa len cap 2 (fun i j => (z i).f j)) (_hr : cap * 24 ≤ 140737488351232) (_hz : ∀ i, i < len → (z i).t.size ≤ maxLen) :
    Calls Try.prog 4 #[.int .i64 n, .slice oa len cap] w fun e w' => e = .returned (.bool true) ∧ Below w.heap.size w w' := by
  have hB := Below.refl w.heap.size w
  by_cases h0 : n < 1 ∨ 64 < n
  · go_enter Try.func4, Try.ntmps4
    go_wp2_with fail
    refine (new_bad _ h0 _).mono ?_
    rintro e w1 ⟨rfl, rfl⟩
    go_wp2_with fail
    refine (awake24 _).mono ?_
    rintro e w2 ⟨rfl, hk⟩
    go_wp2_with fail
    refine (awake24 _).mono ?_
    rintro e w3 ⟨rfl, hk2⟩
    go_wp2_with fail
    go_ret
    exact ⟨rfl, bel_start24 hk hk2⟩
  · obtain ⟨room, rfl⟩ : ∃ room : Nat, n = room := ⟨n.toNat, by omega⟩
    have r1 : 1 ≤ room := by omega
    have r2 : room ≤ 64 := by omega
    clear h0
    by_cases hl : len ≤ 400
    · have hd : decide ((400 : Int) < len) = false := by simp; omega
      obtain ⟨i0, hi0, hz0, hz1, hz2⟩ := info_partsS info_str
      go_enter Try.func4, Try.ntmps4
      go_wp2_with fail
      refine (new_any room r1 r2 _).mono ?_
      rintro e w1 ⟨b, c, rfl, hP, hb, hc, hk⟩
      have hk1 := hk.size
      go_wp2_with fail
      refine (awake24 _).mono ?_
      rintro e w2 ⟨rfl, hk2⟩
      have hP2 := hP.only (Only.of_below hk2 (fun _ => False)) (fun x => x) (fun x => x)
      have hB2 := bel_start24 hk hk2
      clear hB hk hk2 hP hk1
      go_wp2_with fail
      go_loopw [7, 8, 39] (fun u7 u8 x wr => ∃ (i : Nat) (l ins outs : List ByteArray) (cl : Bool), x = .int .i64 i ∧ i ≤ len ∧ ins.length ≤ i ∧ AllRel w wr b c room u7 u8 l ins outs cl) (fun _ _ x _ => len - (intOf x).toNat)
      case atStart => exact ⟨0, [], [], [], false, rfl, by omega, Nat.zero_le _, ⟨hP2, rfl, Nat.zero_le _, World.ownsRow_nil _ _ _ _, World.ownsRow_nil _ _ _ _, fun g hg => by simp [Value.ownBlock] at hg, hB2⟩⟩
      case round =>
        clear hP2 hB2
        obtain ⟨i, l, ins, outs, cl, rfl, hi, hil, hR⟩ := hrel
        by_cases hlt : i < len
        · obtain ⟨g, off, rfl, hg, hc'⟩ := hsl.below hR.bel (Nat.le_refl _) hlt
          have hlt' : (i : Int) < len := by omega
          have hc0 := hc' 0 (by decide)
          have hc1 := hc' 1 (by decide)
          simp only [OpP.f, Nat.add_zero] at hc0 hc1
          clear hc'
          generalize (z i).k = k at hc0
          generalize (z i).t = t at hc1
          have hR2 := hR.alloc (.cells #[.int .i64 k, .string t] 33)
          have hO : (wr.alloc (.cells #[.int .i64 k, .string t] 33)).heap[wr.heap.size]? = some (.cells #[.int .i64 k, .string t] 33 (0, 0)) := heap_alloc_new wr _
          have hk1 : (wr.alloc (.cells #[.int .i64 k, .string t] 33)).cell? ⟨wr.heap.size, 1, none⟩ = some (.string t) := by rw [cell_blk hO]; rfl
          have g1 : wr.heap.size ≠ b := by have := blk_lt hR.p.blk; omega
          have g2 : wr.heap.size ≠ c := by obtain ⟨_, _, q⟩ := hR.p.ch; have := blk_lt q; omega
          clear hR
          by_cases k1 : k = 1
          · subst k1
            go_wp2_with fail
            generalize wr.alloc (.cells #[.int .i64 1, .string t] 33) = W at hR2 hO hk1 ⊢
            generalize wr.heap.size = o at hO hk1 g1 g2 ⊢
            clear hc0 hc1
            by_cases hyes : cl = false ∧ l.length < room
            · obtain ⟨rfl, hroom⟩ := hyes
              refine (offer_room hR2.p hroom t).mono ?_
              rintro e w9 ⟨rfl, hP3, hO3⟩
              obtain ⟨hP4, q1, q2, hB4⟩ := hR2.pipe (ins' := ins) hb hc hP3 (Only.c (b := b) hO3)
              have hO9 := hO3.keeps hO g2
              have hk9 : w9.cell? ⟨o, 1, none⟩ = some (.string t) := ((cell_blk hO9 1).trans rfl)
              have hdis := hR2.dis
              have heq := Lib.hid hR2.eq
              clear hR2 hP3 hO3 hk1 hO
              have q1a := q1.alloc (.cells #[.string t] 9)
              have hsr := src_str t (heap_alloc_new w9 (.cells #[.string t] 9))
              have hs9 := hB4.size
              have hll2 : (l ++ [t]).length ≤ room := by simp; omega
              go_wp2_with (at_builtin; (refine list_append rfl (.tmp 51) (.tmp 54) 29 rfl w.heap.size (by simp; omega) 9 i0 (.string ⟨#[]⟩) 1 16 ul_strs hi0 hz0 hz1 hz2 rfl (by decide) u7 ins.length (sv ins) rfl q1a _ 1 (sv [t]) rfl rfl hsr (sv_one _) (by unfold maxLen; omega) (by omega) ?_); intro ao3 cap3 w10 hown4 hg4 hat4)
              have hpa := hP4.only ((Only.refl (fun _ => False) w9).alloc (.cells #[.string t] 9)) (fun x => x) (fun x => x)
              obtain ⟨hP5, q5, d5⟩ := app_keep hpa q1a (q2.alloc _) hdis hown4 hg4 hat4
              have hB5 := below_append (hB4.alloc hs9 (.cells #[.string t] 9)) q1a hg4 (by simp; omega)
              go_roundw
              case rel =>
                refine ⟨i + 1, l ++ [t], ins ++ [t], outs, false, by go_num, by omega, by simp; omega, ⟨hP5, by rw [heq.out]; simp, hll2, ?_, q5, d5, hB5⟩⟩
                have hlen : (ins ++ [t]).length = ins.length + 1 := by simp
                have hsv : sv (ins ++ [t]) = sv ins ++ sv [t] := by simp [sv]
                rw [hlen, hsv]
                exact hown4
              case measure => simp [intOf]; omega
            · have hoff : Calls Try.prog 7 #[.pointer (some ⟨b, 0, none⟩), .string t] W fun e w' => e = .returned (.bool false) ∧ IsPipe w' b c room l cl ∧ Only (fun k => k = c) W w' := by
                cases cl
                · exact offer_full hR2.p (by simp at hyes; omega) t
                · exact offer_closed hR2.p t
              clear hyes
              refine hoff.mono ?_
              rintro e w9 ⟨rfl, hP3, hO3⟩
              obtain ⟨hP4, q1, q2, hB4⟩ := hR2.pipe (ins' := ins) hb hc hP3 (Only.c (b := b) hO3)
              have hR3 : AllRel w w9 b c room u7 u8 l ins outs cl := ⟨hP4, hR2.eq, hR2.ll, q1, q2, hR2.dis, hB4⟩
              clear hR2 hP3 hO3 hk1 hO hoff hP4 q1 q2 hB4
              go_wp2_with fail
              go_roundw
              case rel => exact ⟨i + 1, l, ins, outs, cl, by go_num, by omega, by omega, hR3⟩
              case measure => simp [intOf]; omega
          · have kk1 : (k == 1) = false := by simp [k1]
            by_cases k2 : k = 2
            · subst k2
              go_wp2_with fail
              generalize wr.alloc (.cells #[.int .i64 2, .string t] 33) = W at hR2 hO hk1 ⊢
              generalize wr.heap.size = o at hO hk1 g1 g2 ⊢
              clear hc0 hc1
              cases l with
              | nil =>
                refine (take_none hR2.p).mono ?_
                rintro e w9 ⟨rfl, hP3, hO3⟩
                obtain ⟨hP4, q1, q2, hB4⟩ := hR2.pipe (ins' := ins) hb hc hP3 (Only.c (b := b) hO3)
                have hR3 : AllRel w w9 b c room u7 u8 [] ins outs cl := ⟨hP4, hR2.eq, hR2.ll, q1, q2, hR2.dis, hB4⟩
                clear hR2 hP3 hO3 hk1 hO hP4 q1 q2 hB4
                go_wp2_with fail
                go_roundw
                case rel => exact ⟨i + 1, [], ins, outs, cl, by go_num, by omega, by omega, hR3⟩
                case measure => simp [intOf]; omega
              | cons y l =>
                refine (take_some hR2.p).mono ?_
                rintro e w9 ⟨rfl, hP3, hO3⟩
                obtain ⟨hP4, q1, q2, hB4⟩ := hR2.pipe (ins' := ins) hb hc hP3 (Only.c (b := b) hO3)
                have hol : outs.length ≤ 400 := by have := congrArg List.length hR2.eq; simp at this; omega
                have hdis := hR2.dis
                have heq := Lib.hid hR2.eq
                have hll2 : l.length ≤ room := by have := hR2.ll; simp at this; omega
                clear hR2 hP3 hO3 hk1 hO
                have q2a := q2.alloc (.cells #[.string y] 9)
                have hsr := src_str y (heap_alloc_new w9 (.cells #[.string y] 9))
                have hs9 := hB4.size
                go_wp2_with (at_builtin; (refine list_append rfl (.tmp 64) (.tmp 66) 29 rfl w.heap.size (by simp; omega) 9 i0 (.string ⟨#[]⟩) 1 16 ul_strs hi0 hz0 hz1 hz2 rfl (by decide) u8 outs.length (sv outs) rfl q2a _ 1 (sv [y]) rfl rfl hsr (sv_one _) (by unfold maxLen; omega) (by omega) ?_); intro ao3 cap3 w10 hown4 hg4 hat4)
                have hpa := hP4.only ((Only.refl (fun _ => False) w9).alloc (.cells #[.string y] 9)) (fun x => x) (fun x => x)
                obtain ⟨hP5, q5, d5⟩ := app_keep hpa q2a (q1.alloc _) (fun g hg hx => hdis g hx hg) hown4 hg4 hat4
                have hB5 := below_append (hB4.alloc hs9 (.cells #[.string y] 9)) q2a hg4 (by simp; omega)
                go_roundw
                case rel =>
                  refine ⟨i + 1, l, ins, outs ++ [y], cl, by go_num, by omega, by omega, ⟨hP5, by rw [heq.out]; simp, hll2, q5, ?_, fun g hg hx => d5 g hx hg, hB5⟩⟩
                  have hlen : (outs ++ [y]).length = outs.length + 1 := by simp
                  have hsv : sv (outs ++ [y]) = sv outs ++ sv [y] := by simp [sv]
                  rw [hlen, hsv]
                  exact hown4
                case measure => simp [intOf]; omega
            · have kk2 : (k == 2) = false := by simp [k2]
              by_cases k3 : k = 3
              · subst k3
                go_wp2_with fail
                generalize wr.alloc (.cells #[.int .i64 3, .string t] 33) = W at hR2 hO hk1 ⊢
                generalize wr.heap.size = o at hO hk1 g1 g2 ⊢
                clear hc0 hc1
                have hcl : Calls Try.prog 11 #[.pointer (some ⟨b, 0, none⟩)] W fun e w' => e = .returned (.tuple #[]) ∧ IsPipe w' b c room l true ∧ Only (fun k => k = b ∨ k = c) W w' := by
                  have := hR2.p
                  cases cl
                  · exact close_open this
                  · exact close_closed this
                refine hcl.mono ?_
                rintro e w9 ⟨rfl, hP3, hO3⟩
                obtain ⟨hP4, q1, q2, hB4⟩ := hR2.pipe (ins' := ins) hb hc hP3 hO3
                have hR3 : AllRel w w9 b c room u7 u8 l ins outs true := ⟨hP4, hR2.eq, hR2.ll, q1, q2, hR2.dis, hB4⟩
                clear hR2 hP3 hO3 hk1 hO hcl hP4 q1 q2 hB4
                go_wp2_with fail
                go_roundw
                case rel => exact ⟨i + 1, l, ins, outs, true, by go_num, by omega, by omega, hR3⟩
                case measure => simp [intOf]; omega
              · have kk3 : (k == 3) = false := by simp [k3]
                go_wp2_with fail
                go_roundw
                case rel => exact ⟨i + 1, l, ins, outs, cl, by go_num, by omega, by omega, hR2⟩
                case measure => simp [intOf]; omega
        · obtain rfl : i = len := by omega
          clear hlt hd
          go_wp2_with fail
          have hcl : Calls Try.prog 11 #[.pointer (some ⟨b, 0, none⟩)] wr fun e w' => e = .returned (.tuple #[]) ∧ IsPipe w' b c room l true ∧ Only (fun k => k = b ∨ k = c) wr w' := by
            have := hR.p
            cases cl
            · exact close_open this
            · exact close_closed this
          refine hcl.mono ?_
          rintro e w9 ⟨rfl, hP3, hO3⟩
          obtain ⟨hP4, q1, q2, hB4⟩ := hR.pipe (ins' := ins) hb hc hP3 hO3
          have hR3 : AllRel w w9 b c room u7 u8 l ins outs true := ⟨hP4, hR.eq, hR.ll, q1, q2, hR.dis, hB4⟩
          clear hR hP3 hO3 hcl hP4 q1 q2 hB4
          go_wp2_with fail
          refine (pipeLen_any hR3.p).mono ?_
          rintro e w10 ⟨rfl, rfl⟩
          obtain ⟨N, hN⟩ : ∃ N, l.length = N := ⟨_, rfl⟩
          have hN2 : N ≤ 64 := by have := hR3.ll; omega
          have HN := Lib.hid hN
          rw [hN]
          clear hN
          obtain ⟨ao1, cap1, rfl⟩ := owns_form hR3.o1
          go_wp2_with fail
          go_loopw [8, 77] (fun u8 x wr => ∃ (j : Nat) (l outs : List ByteArray), x = .int .i64 j ∧ j + l.length = N ∧ AllRel w wr b c room (.slice ao1 ins.length cap1) u8 l ins outs true) (fun _ x _ => N - (intOf x).toNat)
          case atStart => exact ⟨0, l, outs, rfl, by have := HN.out; omega, hR3⟩
          case round =>
            clear hR3 HN
            obtain ⟨j, l2, outs2, rfl, hj, hR⟩ := hrel
            cases l2 with
            | cons y l3 =>
              have hj' : j < N := by simp at hj; omega
              have hj2 : (j : Int) < N := by omega
              have HJ := Lib.hid hj
              clear hj
              go_wp2_with fail
              refine (take_some hR.p).mono ?_
              rintro e w11 ⟨rfl, hP3, hO3⟩
              obtain ⟨hP4, q1, q2, hB4⟩ := hR.pipe (ins' := ins) hb hc hP3 (Only.c (b := b) hO3)
              have hol : outs2.length ≤ 400 := by have := congrArg List.length hR.eq; simp at this; omega
              have hdis := hR.dis
              have heq := Lib.hid hR.eq
              have hll2 : l3.length ≤ room := by have := hR.ll; simp at this; omega
              clear hR hP3 hO3
              have q2a := q2.alloc (.cells #[.string y] 9)
              have hsr := src_str y (heap_alloc_new w11 (.cells #[.string y] 9))
              have hs9 := hB4.size
              go_wp2_with (at_builtin; (refine list_append rfl (.tmp 86) (.tmp 88) 29 rfl w.heap.size (by simp; omega) 9 i0 (.string ⟨#[]⟩) 1 16 ul_strs hi0 hz0 hz1 hz2 rfl (by decide) u8 outs2.length (sv outs2) rfl q2a _ 1 (sv [y]) rfl rfl hsr (sv_one _) (by unfold maxLen; omega) (by omega) ?_); intro ao3 cap3 w12 hown4 hg4 hat4)
              have hpa := hP4.only ((Only.refl (fun _ => False) w11).alloc (.cells #[.string y] 9)) (fun x => x) (fun x => x)
              obtain ⟨hP5, q5, d5⟩ := app_keep hpa q2a (q1.alloc _) (fun g hg hx => hdis g hx hg) hown4 hg4 hat4
              have hB5 := below_append (hB4.alloc hs9 (.cells #[.string y] 9)) q2a hg4 (by simp; omega)
              go_roundw
              case rel =>
                refine ⟨j + 1, l3, outs2 ++ [y], by go_num, by have := HJ.out; simp at this; omega, ⟨hP5, by rw [heq.out]; simp, hll2, q5, ?_, fun g hg hx => d5 g hx hg, hB5⟩⟩
                have hlen : (outs2 ++ [y]).length = outs2.length + 1 := by simp
                have hsv : sv (outs2 ++ [y]) = sv outs2 ++ sv [y] := by simp [sv]
                rw [hlen, hsv]
                exact hown4
              case measure => simp [intOf]; omega
            | nil =>
              obtain rfl : j = N := by simpa using hj
              clear hj
              have heq : ins = outs2 := by simpa using hR.eq
              subst heq
              have hP := hR.p
              have q1 := hR.o1
              have q2 := hR.o2
              have hB := hR.bel
              clear hR
              obtain ⟨ao2, cap2, rfl⟩ := owns_form q2
              go_wp2_with fail
              refine (pipeOver_any hP).mono ?_
              rintro e w11 ⟨rfl, rfl⟩
              have hov : (true && decide (([] : List ByteArray).length = 0)) = true := rfl
              rw [hov]
              clear hov
              go_wp2_with fail
              go_loopw [103] (fun x wr3 => ∃ (j : Nat) (nd : Nat), x = .int .i64 j ∧ j ≤ ins.length ∧ wr3 = wr.drewN nd) (fun x _ => ins.length - (intOf x).toNat)
              case atStart => exact ⟨0, 0, rfl, Nat.zero_le _, rfl⟩
              case round =>
                obtain ⟨j, nd, rfl, hj, rfl⟩ := hrel
                by_cases hjl : j < ins.length
                · have hj1 : (j : Int) < ins.length := by omega
                  have a1 : ∃ g1 g2, ao1 = some ⟨g1, 0, none⟩ ∧ ao2 = some ⟨g2, 0, none⟩ ∧ wr.cell? ⟨g1, j, none⟩ = some (.string ins[j]) ∧ wr.cell? ⟨g2, j, none⟩ = some (.string ins[j]) := by
                    have key : ∀ (ao : Option Addr) (cap : Nat), wr.ownsRow w.heap.size 9 1 (.slice ao ins.length cap) ins.length (sv ins) → ∃ g, ao = some ⟨g, 0, none⟩ ∧ wr.cell? ⟨g, j, none⟩ = some (.string ins[j]) := by
                      intro ao cap q
                      have h0 := fun g (hg : (Value.slice ao ins.length cap).ownBlock = some g) => q.cells hg
                      rcases q.2 with ⟨h1, h2⟩ | ⟨g, cp, cur, h1, _⟩
                      · exact absurd h2 (by omega)
                      · simp only [Value.slice.injEq] at h1
                        obtain ⟨rfl, _, _⟩ := h1
                        refine ⟨g, rfl, ?_⟩
                        have h3 := h0 g rfl j (.string ins[j]) (by simp [sv, hjl])
                        rw [Go.WideShapes.add_plain, Nat.zero_add] at h3
                        exact h3
                    obtain ⟨g1, e1, f1⟩ := key _ _ q1
                    obtain ⟨g2, e2, f2⟩ := key _ _ q2
                    exact ⟨g1, g2, e1, e2, f1, f2⟩
                  obtain ⟨g1, g2, rfl, rfl, f1, f2⟩ := a1
                  generalize ins[j] = X at f1 f2
                  go_wp2_with fail
                  go_quiet (fail)
                  go_wp2_with fail
                  go_roundw
                  case rel => exact ⟨j + 1, nd + nq, by go_num, by omega, by first | rfl | exact (World.drewN_drewN _ _ _) | simp⟩
                  case measure => simp [intOf]; omega
                · obtain rfl : j = ins.length := by omega
                  go_wp2_with fail
                  go_ret
                  exact ⟨rfl, below_drewN hB _⟩
    · have hd : (400 : Int) < len := by omega
      clear hl
      go_enter Try.func4, Try.ntmps4
      go_wp2_with fail
      refine (new_any room r1 r2 _).mono ?_
      rintro e w1 ⟨b, c, rfl, hP, hb, hc, hk⟩
      go_wp2_with fail
      refine (awake24 _).mono ?_
      rintro e w2 ⟨rfl, hk2⟩
      go_wp2_with fail
      refine (awake24 _).mono ?_
      rintro e w3 ⟨rfl, hk3⟩
      go_wp2_with fail
      go_ret
      exact ⟨rfl, bel_start24 (bel_start24 hk hk2) hk3⟩
end Go.Proofs.Ytkopkljbofneeaa
