/- Contract of listing.Read. Conditions: the library's variables' data. -/
import Derived.Test.YtghfkpddkmaflaaDoorIy
import Derived.WalkMore
import Derived.Deep.DeepCutAuto
namespace Go.Proofs.YtghfkpddkmaflaaDoor
open Go Go.RowKit
set_option linter.unusedVariables false
set_option linter.unusedSimpArgs false
set_option maxRecDepth 20000
theorem idx_nl : ∀ l : List UInt8, (∃ x r, (∀ c ∈ x, c ≠ (10 : UInt8)) ∧ l = x ++ 10 :: r ∧ Lib.index l [10] = x.length) ∨ ((∀ c ∈ l, c ≠ (10 : UInt8)) ∧ Lib.index l [10] = -1)
  | [] => Or.inr ⟨(fun c hc => by cases hc), by rw [Lib.index]; rfl⟩
  | c :: r => by
    by_cases h : c = 10
    · subst h
      exact Or.inl ⟨[], r, (fun c hc => by cases hc), rfl, by rw [Lib.index]; simp [List.isPrefixOf]⟩
    · have hp : ([10] : List UInt8).isPrefixOf (c :: r) = false := by simp [List.isPrefixOf, Ne.symm h]
      have hix : Lib.index (c :: r) [10] = if Lib.index r [10] == -1 then -1 else Lib.index r [10] + 1 := by rw [Lib.index, hp]; simp
      rcases idx_nl r with ⟨x, t, h1, h2, h3⟩ | ⟨h1, h2⟩
      · refine Or.inl ⟨c :: x, t, ?_, by rw [h2]; rfl, ?_⟩
        · intro d hd
          rcases List.mem_cons.1 hd with rfl | hd
          · exact h
          · exact h1 d hd
        · rw [hix, h3, if_neg (by rw [beq_iff_eq]; omega), List.length_cons]
          omega
      · refine Or.inr ⟨?_, by rw [hix, h2]; rfl⟩
        intro d hd
        rcases List.mem_cons.1 hd with rfl | hd
        · exact h
        · exact h1 d hd
theorem cut_nl (l : List UInt8) : (∃ x r, (∀ c ∈ x, c ≠ (10 : UInt8)) ∧ l = x ++ 10 :: r ∧ Lib.cut l [10] = (x, r, true)) ∨ ((∀ c ∈ l, c ≠ (10 : UInt8)) ∧ Lib.cut l [10] = (l, [], false)) := by
  rcases idx_nl l with ⟨x, r, h1, h2, h3⟩ | ⟨h1, h2⟩
  · refine Or.inl ⟨x, r, h1, h2, ?_⟩
    unfold Lib.cut
    rw [h3, if_pos (by omega), Int.toNat_natCast, h2]
    simp
  · refine Or.inr ⟨h1, ?_⟩
    unfold Lib.cut
    rw [h2, if_neg (by decide)]
/-- Instructions as cells. -/
def insCells (l : List Ins) : List Value := l.flatMap Ins.cells
theorem insCells_length (l : List Ins) : (insCells l).length = l.length * 6 := by
  induction l with
  | nil => rfl
  | cons i l ih =>
    show (i.cells ++ insCells l).length = _
    rw [List.length_append, ih, List.length_cons]
    show 6 + _ = _
    omega
theorem insCells_snoc (l : List Ins) (i : Ins) : insCells (l ++ [i]) = insCells l ++ i.cells := by simp [insCells]
theorem ins_one (i : Ins) : ∀ u ∈ i.cells, u.oneCell' = true := by
  intro u hu
  simp only [Ins.cells, List.mem_cons, List.not_mem_nil, or_false] at hu
  rcases hu with rfl | rfl | rfl | rfl | rfl | rfl <;> rfl
theorem ins_info : ∃ i, Tryd.prog.info? 24 = some i ∧ i.zero = some (.agg #[.int .i64 0, .int .i64 0, .int .i64 0, .int .i64 0, .int .i64 0, .int .u32 0]) ∧ i.size = 6 ∧ i.bytes = 48 := by
  have h : Tryd.prog.info? 24 = some ((Tryd.prog.info? 24).get (by kernel_rfl)) := (Option.some_get _).symm
  exact ⟨_, h, by kernel_rfl, by kernel_rfl, by kernel_rfl⟩
theorem ul_ins : Tryd.prog.underlying 36 = some (.slice 24) := by kernel_rfl
/-- What Read answers. -/
def LReadPost (w : World) (r : List Ins × Nat × Int) (x : Ending) (w' : World) : Prop :=
  ∃ ao cap, x = .returned (.tuple #[.slice ao r.1.length cap, .int .i64 r.2.1, .int .i64 r.2.2]) ∧ w'.ownsRow w.heap.size 24 6 (.slice ao r.1.length cap) r.1.length (insCells r.1) ∧ Below w.heap.size w w'
theorem lread_none {w w' : World} {r : List Ins × Nat × Int} (h : r.1 = []) (k : Below w.heap.size w w') : LReadPost w r (.returned (.tuple #[.slice none 0 0, .int .i64 r.2.1, .int .i64 r.2.2])) w' := by
  obtain ⟨l, a, e⟩ := r
  obtain rfl : l = [] := h
  exact ⟨none, 0, rfl, World.ownsRow_nil _ _ _ _, k⟩
/-- How the answer hangs on what is left. -/
def Rel (R : List Ins × Nat × Int) (T : List UInt8) (l : List Ins) : Prop := R = if (rdP (spl T).1 (spl T).2 l.length).2.2 = 0 then (l ++ (rdP (spl T).1 (spl T).2 l.length).1, 0, 0) else rdP (spl T).1 (spl T).2 l.length
theorem Rel.done {R : List Ins × Nat × Int} {l : List Ins} (h : Rel R [] l) : R = (l, 0, 0) := by
  unfold Rel at h
  rw [h]
  show (if (0 : Int) = 0 then (l ++ [], 0, 0) else _) = _
  rw [if_pos rfl, List.append_nil]
theorem Rel.next {R : List Ins × Nat × Int} {x r : List UInt8} {l : List Ins} (h : Rel R (x ++ 10 :: r) l) (hx : ∀ c ∈ x, c ≠ (10 : UInt8)) (hn : ¬ 256 < l.length + 1) (h0 : (ins x).2 = 0) : Rel R r (l ++ [(ins x).1]) := by
  unfold Rel at h ⊢
  rw [spl_line x hx r] at h
  simp only at h
  rw [rdP, if_neg hn, if_pos h0] at h
  rw [List.length_append, List.length_singleton, List.append_assoc]
  rw [h]
  by_cases hz : (rdP (spl r).1 (spl r).2 (l.length + 1)).2.2 = 0
  · rw [if_pos hz, if_pos hz]; rfl
  · rw [if_neg hz, if_neg hz, if_neg hz]
theorem Rel.long {R : List Ins × Nat × Int} {T : List UInt8} {l : List Ins} (h : Rel R T l) (hT : T ≠ []) (hn : 256 < l.length + 1) : R = ([], l.length + 1, 4) := by
  unfold Rel at h
  have hs := (spl_back T).1
  cases hL : (spl T).1 with
  | nil =>
    cases hO : (spl T).2 with
    | nil => rw [hL, hO] at hs; exact absurd hs.symm hT
    | cons c o =>
      rw [hL, hO, rdP, if_pos hn, if_neg (show ¬ (4 : Int) = 0 by decide)] at h
      exact h
  | cons x L =>
    rw [hL, rdP, if_pos hn, if_neg (show ¬ (4 : Int) = 0 by decide)] at h
    exact h
theorem Rel.open {R : List Ins × Nat × Int} {T : List UInt8} {l : List Ins} (h : Rel R T l) (hT : T ≠ []) (hx : ∀ c ∈ T, c ≠ (10 : UInt8)) (hn : ¬ 256 < l.length + 1) : R = ([], l.length + 1, 3) := by
  unfold Rel at h
  rw [spl_open T hx] at h
  cases T with
  | nil => exact absurd rfl hT
  | cons c o =>
    simp only at h
    rw [rdP, if_neg hn, if_neg (show ¬ (3 : Int) = 0 by decide)] at h
    exact h
theorem Rel.bad {R : List Ins × Nat × Int} {x r : List UInt8} {l : List Ins} (h : Rel R (x ++ 10 :: r) l) (hx : ∀ c ∈ x, c ≠ (10 : UInt8)) (hn : ¬ 256 < l.length + 1) (h0 : (ins x).2 ≠ 0) : R = ([], l.length + 1, (ins x).2) := by
  unfold Rel at h
  rw [spl_line x hx r] at h
  simp only at h
  rw [rdP, if_neg hn, if_neg h0, if_neg h0] at h
  exact h
theorem lread_bad {w w' : World} {R : List Ins × Nat × Int} {n : Nat} {e : Int} (h : R = ([], n, e)) (k : Below w.heap.size w w') : LReadPost w R (.returned (.tuple #[.slice none 0 0, .int .i64 n, .int .i64 e])) w' := by
  subst h
  exact lread_none rfl k
theorem src_ins (w : World) (i : Ins) : Src (w.alloc (.cells i.cells.toArray 24)) (.slice (some ⟨w.heap.size, 0, none⟩) 1 1) 1 i.cells := by
  refine .inr ⟨_, _, rfl, fun j u hj => ?_⟩
  have hb := heap_alloc_new w (.cells i.cells.toArray 24)
  show (w.alloc (.cells i.cells.toArray 24)).cell? ((⟨w.heap.size, 0, none⟩ : Addr).add j) = some u
  rw [show (⟨w.heap.size, 0, none⟩ : Addr).add j = ⟨w.heap.size, j, none⟩ by (simp [Addr.add]; intro h; exact h.symm), cell_blk hb]
  simpa using hj
theorem tx_ne {T : List UInt8} (h : T ≠ []) : (txB T).toList.isEmpty = false ∧ ((txB T).toList == []) = false ∧ ((txB T).toList == (⟨#[]⟩ : ByteArray).toList) = false := by
  have e : (txB T).toList = T := by rw [ByteArray.toList_eq]; simp [txB]
  rw [e]
  cases T with
  | nil => exact absurd rfl h
  | cons c r => exact ⟨rfl, rfl, by rw [show (⟨#[]⟩ : ByteArray).toList = [] by rw [ByteArray.toList_eq]]; rfl⟩
theorem wr_drewN_below (w : World) (n : Nat) : Below w.heap.size w (w.drewN n) := ⟨rfl, rfl, rfl, Nat.le_refl _, fun _ _ => rfl⟩
theorem own_ne {S : Nat → Prop} {w w' : World} {base : Nat} {e : TypeId} {size : Nat} {v : Value} {n : Nat} {xs : List Value} (h : w.ownsRow base e size v n xs) (o : Only S w w') (hS : ∀ k, v.ownBlock = some k → ¬ S k) : w'.ownsRow base e size v n xs := by
  rcases h.2 with h0 | ⟨g, cap, cur, rfl, hbg, hb, hr⟩
  · exact ⟨h.1, .inl h0⟩
  · exact ⟨h.1, .inr ⟨g, cap, cur, rfl, hbg, o.keeps hb (hS g rfl), hr⟩⟩
theorem six_only (w : World) (b : Nat) (v0 v1 v2 v3 v4 v5 : Value) : Only (fun k => k = b) w ((((((w.setCell ⟨b, 0, none⟩ v0).setCell ⟨b, 1, none⟩ v1).setCell ⟨b, 2, none⟩ v2).setCell ⟨b, 3, none⟩ v3).setCell ⟨b, 4, none⟩ v4).setCell ⟨b, 5, none⟩ v5) :=
  ((((((Only.refl (fun k => k = b) w).setCell ⟨b, 0, none⟩ v0 (fun _ => rfl)).setCell ⟨b, 1, none⟩ v1 (fun _ => rfl)).setCell ⟨b, 2, none⟩ v2 (fun _ => rfl)).setCell ⟨b, 3, none⟩ v3 (fun _ => rfl)).setCell ⟨b, 4, none⟩ v4 (fun _ => rfl)).setCell ⟨b, 5, none⟩ v5 (fun _ => rfl)
theorem six_blk {w : World} {b : Nat} (h : Iz w b) (i : Ins) : ((((((w.setCell ⟨b, 0, none⟩ (.int .i64 i.o)).setCell ⟨b, 1, none⟩ (.int .i64 i.a)).setCell ⟨b, 2, none⟩ (.int .i64 i.b)).setCell ⟨b, 3, none⟩ (.int .i64 i.c)).setCell ⟨b, 4, none⟩ (.int .i64 i.d)).setCell ⟨b, 5, none⟩ (.int .u32 i.k)).heap[b]? = some (.cells i.cells.toArray 24 (0, 0)) :=
  blk_setCell (blk_setCell (blk_setCell (blk_setCell (blk_setCell (blk_setCell h _) _) _) _) _) _
set_option maxHeartbeats 1000000 in
theorem lread_any (s : ByteArray) (hs : s.size ≤ 90000) (w : World) (g : Gl w) : Calls Tryd.prog 15 #[.string s] w (LReadPost w (rdT s.data.toList)) := by
  obtain ⟨i0, hi, hz0, hz1, hz2⟩ := ins_info
  obtain ⟨R, hR⟩ : ∃ R, R = rdT s.data.toList := ⟨_, rfl⟩
  have HR := Lib.hid (show Rel R s.data.toList [] by
    unfold Rel
    rw [hR]
    show rdT s.data.toList = if (rdT s.data.toList).2.2 = 0 then ([] ++ (rdT s.data.toList).1, 0, 0) else rdT s.data.toList
    by_cases h : (rdT s.data.toList).2.2 = 0
    · rw [if_pos h, List.nil_append]
      have := rdP_at _ _ _ h
      show rdT s.data.toList = ((rdT s.data.toList).1, 0, 0)
      exact Prod.ext rfl (Prod.ext this h)
    · rw [if_neg h])
  rw [← hR]
  clear hR
  have hsl : s.data.toList.length ≤ 90000 := by simpa using hs
  go_enter Tryd.func15, Tryd.ntmps15
  go_wp2_with fail
  go_step3
  go_wp2_with fail
  go_step3
  go_upto_block 0 with fail
  go_cut [0, 5, 6, 7] (fun _ u a b wx => (∃ l : List Ins, Hid (R = (l, 0, 0)) ∧ b = .int .i64 0 ∧ wx.ownsRow w.heap.size 24 6 u l.length (insCells l) ∧ Below w.heap.size w wx) ∨ (∃ (n : Nat) (e : Int), Hid (R = ([], n, e)) ∧ a = .int .i64 n ∧ b = .int .i64 e ∧ e ≠ 0 ∧ Below w.heap.size w wx))
  case first =>
    go_wp2_with fail
    go_loopw [0, 5, 6, 7] (fun t u a b wr => ∃ (T : List UInt8) (l : List Ins), t = .string (txB T) ∧ a = .int .i64 (l.length : Nat) ∧ b = .int .i64 0 ∧ T.length ≤ 90000 ∧ l.length ≤ 256 ∧ Hid (Rel R T l) ∧ wr.ownsRow w.heap.size 24 6 u l.length (insCells l) ∧ Below w.heap.size w wr) (fun t _ _ _ _ => match t with | .string b => b.size | _ => 0)
    case atStart => exact ⟨s.data.toList, [], by show _ = Value.string ⟨s.data.toList.toArray⟩; simp, rfl, rfl, hsl, by decide, HR, World.ownsRow_nil _ _ _ _, Below.refl _ _⟩
    case round =>
      obtain ⟨T, l, rfl, rfl, rfl, hT, hl, HL, hown, hB⟩ := hrel
      clear HR
      obtain ⟨len, hlen⟩ : ∃ n, n = l.length := ⟨_, rfl⟩
      have HLEN := Lib.hid hlen
      rw [← hlen] at hl hown ⊢
      clear hlen
      by_cases hT0 : T = []
      · subst hT0
        have HD := Lib.hid HL.out.done
        have HX := Lib.hid (show txB [] = ⟨#[]⟩ from rfl)
        clear HL
        rw [HX.out]
        go_wp2_with fail
        go_meet
        exact Or.inl ⟨l, HD, rfl, by rw [← HLEN.out]; exact hown, hB⟩
      · obtain ⟨e1, e2, e3⟩ := tx_ne hT0
        have hTz : (txB T).size ≤ 90000 := by rw [txB_size]; exact hT
        have hgr := g.on hB
        obtain ⟨mm, hmm⟩ := hgr.mxl
        have hcut := Tryd.strings_Cut (txB T) ⟨#[10]⟩ mm wr (by omega) hmm
        have eT : (txB T).data.toList = T := by simp [txB]
        have e10 : (⟨#[10]⟩ : ByteArray).data.toList = [10] := rfl
        rw [eT, e10] at hcut
        clear hmm
        have hXz := txB_size T
        obtain ⟨X, hX⟩ : ∃ X, X = txB T := ⟨_, rfl⟩
        rw [← hX] at hXz e1 e2 e3 hTz hcut ⊢
        have HX := Lib.hid hX
        clear hX eT
        rcases cut_nl T with ⟨x, r, hx, hTe, hce⟩ | ⟨hx, hce⟩
        · rw [hce] at hcut
          simp only at hcut
          have hxl : x.length + r.length + 1 = T.length := by rw [hTe, List.length_append, List.length_cons]; omega
          have hcut : Calls Tryd.prog 42 #[.string X, .string ⟨#[10]⟩] wr fun e w' => e = .returned (.tuple #[.string (txB x), .string (txB r), .bool true]) ∧ ∃ n, w' = wr.drewN n := hcut
          clear hce e10
          have hpx := fun w g => lparse_any (txB x) (by rw [txB_size]; omega) w g
          have ex : (txB x).data.toList = x := by simp [txB]
          rw [ex] at hpx
          clear ex
          obtain ⟨X1, hX1⟩ : ∃ X, X = txB x := ⟨_, rfl⟩
          obtain ⟨X2, hX2⟩ : ∃ X, X = txB r := ⟨_, rfl⟩
          have hX2z : X2.size < X.size := by rw [hX2, txB_size, hXz]; omega
          clear hXz
          rw [← hX1] at hcut hpx
          rw [← hX2] at hcut
          have HX2 := Lib.hid hX2
          clear hX1 hX2
          by_cases hn : 256 < len + 1
          · have HQ := Lib.hid (HL.out.long hT0 (by rw [← HLEN.out]; exact hn))
            have hnI : (256 : Int) < (len : Int) + 1 := by omega
            have hw : IntKind.i64.wrap ((len : Int) + 1) = (len : Int) + 1 := IntWalk.i64_in _ (by omega)
            clear hn HL hT0
            go_wp2_with fail
            refine hcut.mono ?_
            rintro e w2 ⟨rfl, n, rfl⟩
            have hB2 := below_drewN hB n
            have hB3 := hB2.alloc hB2.size (.cells #[.int .i64 0, .int .i64 0, .int .i64 0, .int .i64 0, .int .i64 0, .int .u32 0] 24)
            go_wp2_with fail
            go_meet
            exact Or.inr ⟨len + 1, 4, by rw [HLEN.out]; exact HQ, by go_num, rfl, by decide, hB3⟩
          · have hnI : ¬ (256 : Int) < (len : Int) + 1 := by omega
            have hw : IntKind.i64.wrap ((len : Int) + 1) = (len : Int) + 1 := IntWalk.i64_in _ (by omega)
            have HNEXT := Lib.hid (fun h => (show Rel R (x ++ 10 :: r) l by rw [← hTe]; exact HL.out).next hx (by rw [← HLEN.out]; exact hn) h)
            have HBAD := Lib.hid (fun h => (show Rel R (x ++ 10 :: r) l by rw [← hTe]; exact HL.out).bad hx (by rw [← HLEN.out]; exact hn) h)
            clear HL hTe hx
            go_wp2_with fail
            refine hcut.mono ?_
            rintro e w2 ⟨rfl, n, rfl⟩
            have hB2 := below_drewN hB n
            have hown2 : (wr.drewN n).ownsRow w.heap.size 24 6 u5 len (insCells l) := hown
            clear hcut
            obtain ⟨I, hI⟩ : ∃ I, I = (ins x).1 := ⟨_, rfl⟩
            obtain ⟨ck, hck⟩ : ∃ ck, ck = (ins x).2 := ⟨_, rfl⟩
            have HN2 := Lib.hid (show ck = 0 → Rel R r (l ++ [I]) by rw [hck, hI]; exact HNEXT.out)
            have HB2 := Lib.hid (show ck ≠ 0 → R = ([], l.length + 1, ck) by rw [hck]; exact HBAD.out)
            unfold LParsePost at hpx
            rw [← hI, ← hck] at hpx
            clear hI hck HNEXT HBAD
            have hB3 := hB2.alloc hB2.size (.cells #[.int .i64 0, .int .i64 0, .int .i64 0, .int .i64 0, .int .i64 0, .int .u32 0] 24)
            have hownA := hown2.alloc (.cells #[.int .i64 0, .int .i64 0, .int .i64 0, .int .i64 0, .int .i64 0, .int .u32 0] 24)
            have hzA : Iz ((wr.drewN n).alloc (.cells #[.int .i64 0, .int .i64 0, .int .i64 0, .int .i64 0, .int .i64 0, .int .u32 0] 24)) wr.heap.size := heap_alloc_new (wr.drewN n) _
            have hbw : w.heap.size ≤ wr.heap.size := hB.size
            have hob : ∀ k, u5.ownBlock = some k → k ≠ wr.heap.size := fun k hk => Nat.ne_of_lt (hown.lt k hk).2
            have HOB := Lib.hid hob
            clear hob hown hown2 hB hB2 hgr
            go_upto_region 8 with fail
            generalize (wr.drewN n).alloc (.cells #[.int .i64 0, .int .i64 0, .int .i64 0, .int .i64 0, .int .i64 0, .int .u32 0] 24) = w3 at hB3 hownA hzA ⊢
            generalize wr.heap.size = bx at hzA hbw HOB ⊢
            go_wp2_with fail
            refine (hpx _ (g.on hB3)).mono ?_
            rintro e w4 ⟨rfl, hk⟩
            have hz4 : Iz w4 bx := (hk.block _ (blk_lt hzA)).trans hzA
            have hB4 := bel_next hB3 hk
            have hown4 := own_below hownA hk
            clear hB3 hownA hzA hk hpx
            obtain ⟨⟨y0, y1, y2, y3, y4, y5⟩, f0, f1, f2, f3, f4, f5⟩ := hz4.cells
            have hI5 := six_blk hz4 I
            have hO5 := fun a b c d e f => six_only w4 bx a b c d e f
            have hB5 := six_below hB4 hbw (.int .i64 I.o) (.int .i64 I.a) (.int .i64 I.b) (.int .i64 I.c) (.int .i64 I.d) (.int .u32 I.k)
            have hown5 := own_ne hown4 (hO5 (.int .i64 I.o) (.int .i64 I.a) (.int .i64 I.b) (.int .i64 I.c) (.int .i64 I.d) (.int .u32 I.k)) (fun k hk => HOB.out k hk)
            clear hO5 hB4 hown4 hz4
            unfold Ins.val
            go_upto_region 12 with fail
            generalize ((((((w4.setCell ⟨bx, 0, none⟩ (.int .i64 I.o)).setCell ⟨bx, 1, none⟩ (.int .i64 I.a)).setCell ⟨bx, 2, none⟩ (.int .i64 I.b)).setCell ⟨bx, 3, none⟩ (.int .i64 I.c)).setCell ⟨bx, 4, none⟩ (.int .i64 I.d)).setCell ⟨bx, 5, none⟩ (.int .u32 I.k)) = w5 at hI5 hB5 hown5 ⊢
            clear y0 y1 y2 y3 y4 y5 f0 f1 f2 f3 f4 f5
            by_cases h0 : ck = 0
            · have HRL := Lib.hid (HN2.out h0)
              have d0 : (ck != 0) = false := by rw [h0]; rfl
              have d1 : (ck == 0) = true := by rw [h0]; rfl
              have HC := Lib.hid h0
              clear h0 HN2 HB2
              obtain ⟨c0, c1, c2, c3, c4, c5⟩ := ins_cells hI5
              have hzs := hB5.size
              have hownB := hown5.alloc (.cells I.cells.toArray 24)
              have hBB := hB5.alloc hB5.size (.cells I.cells.toArray 24)
              go_wp2_with (at_builtin; (refine list_append rfl (.tmp 35) (.tmp 37) 36 rfl w.heap.size (by simp; omega) 24 i0 _ 6 48 ul_ins hi hz0 hz1 hz2 rfl (by decide) _ len (insCells l) rfl hownB _ 1 I.cells rfl rfl (src_ins _ I) (ins_one I) (by unfold maxLen; omega) (by omega) ?_); intro ao cap w6 hown' hg hat; have hBz := below_append hBB hownB hg (by simp; omega); clear hownB hg hat hBB)
              go_roundw
              case rel => exact ⟨r, l ++ [I], by rw [HX2.out], by rw [List.length_append, ← HLEN.out]; go_num, by rw [HC.out], by omega, by rw [List.length_append, ← HLEN.out]; simp; omega, HRL, by rw [List.length_append, ← HLEN.out, insCells_snoc]; exact hown', hBz⟩
              case measure => simp; omega
            · have HQ := Lib.hid (HB2.out h0)
              have d0 : (ck != 0) = true := by rw [bne_iff_ne]; exact h0
              have d1 : (ck == 0) = false := beqF h0
              go_wp2_with fail
              go_meet
              exact Or.inr ⟨len + 1, ck, by rw [HLEN.out]; exact HQ, by go_num, rfl, h0, hB5⟩
        · rw [hce] at hcut
          simp only at hcut
          have hcut : Calls Tryd.prog 42 #[.string X, .string ⟨#[10]⟩] wr fun e w' => e = .returned (.tuple #[.string (txB T), .string ⟨#[]⟩, .bool false]) ∧ ∃ n, w' = wr.drewN n := hcut
          rw [← HX.out] at hcut
          have hw : IntKind.i64.wrap ((len : Int) + 1) = (len : Int) + 1 := IntWalk.i64_in _ (by omega)
          by_cases hn : 256 < len + 1
          · have HQ := Lib.hid (HL.out.long hT0 (by rw [← HLEN.out]; exact hn))
            have hnI : (256 : Int) < (len : Int) + 1 := by omega
            clear hn HL hT0 hce hx e10
            go_wp2_with fail
            refine hcut.mono ?_
            rintro e w2 ⟨rfl, n, rfl⟩
            have hB2 := below_drewN hB n
            have hB3 := hB2.alloc hB2.size (.cells #[.int .i64 0, .int .i64 0, .int .i64 0, .int .i64 0, .int .i64 0, .int .u32 0] 24)
            go_wp2_with fail
            go_meet
            exact Or.inr ⟨len + 1, 4, by rw [HLEN.out]; exact HQ, by go_num, rfl, by decide, hB3⟩
          · have HQ := Lib.hid (HL.out.open hT0 hx (by rw [← HLEN.out]; exact hn))
            have hnI : ¬ (256 : Int) < (len : Int) + 1 := by omega
            clear hn HL hT0 hce hx e10
            go_wp2_with fail
            refine hcut.mono ?_
            rintro e w2 ⟨rfl, n, rfl⟩
            have hB2 := below_drewN hB n
            have hB3 := hB2.alloc hB2.size (.cells #[.int .i64 0, .int .i64 0, .int .i64 0, .int .i64 0, .int .i64 0, .int .u32 0] 24)
            go_wp2_with fail
            go_meet
            exact Or.inr ⟨len + 1, 3, by rw [HLEN.out]; exact HQ, by go_num, rfl, by decide, hB3⟩
  case rest =>
    rcases hcut with ⟨l, HQ, rfl, hown, hB⟩ | ⟨n, e, HQ, rfl, rfl, he, hB⟩
    · obtain ⟨ao, cap, rfl⟩ := owns_form hown
      go_wp2_with fail
      rw [Exit.noGoto_ret]
      go_ret3
      rw [HQ.out]
      exact ⟨ao, cap, rfl, hown, hB⟩
    · have d0 : (e != 0) = true := by rw [bne_iff_ne]; exact he
      have d1 : (e == 0) = false := beqF he
      clear he
      go_wp2_with fail
      rw [Exit.noGoto_ret]
      go_ret3
      exact lread_bad HQ.out hB
end Go.Proofs.YtghfkpddkmaflaaDoor
