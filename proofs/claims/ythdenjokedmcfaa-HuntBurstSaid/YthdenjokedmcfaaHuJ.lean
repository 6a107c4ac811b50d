/- A slice of frames that came in; law09.rising. No condition but those that each names. -/
import Derived.Test.YthdenjokedmcfaaHuC
import Derived.Deep.DeepCutAuto
namespace Go.Proofs.Ythdenjokedmcfaa
open Go.WideShapes Go.Deep Go.RowKit
set_option linter.unusedVariables false
set_option linter.unusedSimpArgs false
set_option maxRecDepth 20000
instance : Inhabited FrV := ⟨⟨0, none, 0, 0, fun _ => default⟩⟩
def FrV.c (f : FrV) : Nat → Value
  | 0 => .int .u32 f.seq
  | _ => .slice f.oa f.len f.cap
theorem slArg_struct48 {H : Type} {enc : TypeId × Value → H} {W : World} {base : Nat} {held : Bool} {v : Value} {d : DataW H} {ps : List MemPlace}
    (hv : ∃ a len cap, v = .slice a len cap) (h : DataW.Trod enc Try.prog W base (fun _ => true) held 49 v d ps) :
    ∃ (oa : Option Addr) (len cap : Nat) (z : Nat → FrV), v = .slice oa len cap ∧ SlArgN W oa len cap 2 (fun i j => (z i).c j) ∧ SlLen d cap ∧ ∀ i, i < len → (z i).Ok W := by
  obtain ⟨oa, len, cap, L, rfl, hs, hd, hx⟩ := slArgN_any (c := 2) Try.underlying49 (by kernel_rfl) (by decide) hv h
  have key : ∀ i, i < len → ∃ o : FrV, (∀ j, j < 2 → (L i).getD j (.bool false) = o.c j) ∧ o.Ok W := by
    intro i hi
    obtain ⟨hl, n, x, hn⟩ := hx i hi
    have k2 : Try.prog.cellsOf 48 = 2 := by kernel_rfl
    obtain ⟨f, hf, ho⟩ := arg_struct48 (v := .agg (L i).toArray) (d := x.1) (ps := x.2) ⟨_, rfl, by rw [k2]; simpa using hl⟩ ⟨n, by show DataW.trod _ _ _ _ _ _ _ _ (L i).toArray.toList = _; exact hn⟩
    refine ⟨f, fun j hj => ?_, ho⟩
    unfold FrV.val at hf
    simp only [Value.agg.injEq] at hf
    have hf : L i = [.int .u32 f.seq, .slice f.oa f.len f.cap] := by simpa using congrArg Array.toList hf
    rw [hf]
    match j, hj with
    | 0, _ => rfl
    | 1, _ => rfl
  obtain ⟨z, hz⟩ := Go.Deep.choose_lt (α := FrV) (p := fun i o => (∀ j, j < 2 → (L i).getD j (.bool false) = o.c j) ∧ o.Ok W) key
  exact ⟨oa, len, cap, z, rfl, hs.congr fun i hi => (hz i hi).1, hd, fun i hi => (hz i hi).2⟩
/-- A frame that came in, in plain words. -/
def FrV.pf (f : FrV) : PFr := (f.seq, (List.range f.len).map f.z)
theorem pf_z {f : FrV} {i : Nat} (hi : i < f.len) : f.pf.z i = f.z i := by
  show ((List.range f.len).map f.z).getD i default = f.z i
  simp [hi]
theorem prnC_congr {z z' : Nat → Ev} : ∀ n, (∀ i, i < n → z i = z' i) → prnC z n = prnC z' n
  | 0, _ => rfl
  | n + 1, h => by rw [prnC, prnC, prnC_congr n fun i hi => h i (by omega), h n (by omega), h (n - 1) (by omega)]
theorem prnE_congr {z z' : Nat → Ev} : ∀ n, (∀ i, i < n → z i = z' i) → prnE z n = prnE z' n
  | 0, _ => rfl
  | n + 1, h => by rw [prnE, prnE, prnE_congr n fun i hi => h i (by omega), h n (by omega), h (n - 1) (by omega)]
theorem pf_len (f : FrV) : f.pf.2.length = f.len := by simp [FrV.pf]
theorem pf_E (f : FrV) : frE f.pf.z f.pf.2.length = frE f.z f.len := by
  rw [pf_len]
  unfold frE
  rw [prnC_congr f.len fun i hi => pf_z hi, prnE_congr f.len fun i hi => pf_z hi]
theorem pf_T {f : FrV} (h : frE f.z f.len = 0) : frT f.pf = frS f.seq f.z f.len := by
  have hn := (frE_zero h).1
  unfold frT frS
  rw [if_pos h, pf_len]
  unfold frB
  rw [prnC_congr f.len fun i hi => pf_z hi, pf_z (show 0 < f.len by omega)]
  rfl
def frCells (K : List FrV) : List Value := K.flatMap fun f => [.int .u32 f.seq, .slice f.oa f.len f.cap]
theorem frCells_length (K : List FrV) : (frCells K).length = K.length * 2 := by
  induction K with
  | nil => rfl
  | cons e l ih => simp [frCells] at ih ⊢; omega
theorem frCells_append (K M : List FrV) : frCells (K ++ M) = frCells K ++ frCells M := by simp [frCells]
def txCells (K : List FrV) : List Value := K.map fun f => .string ⟨(frT f.pf).toArray⟩
/-- The frames that are kept: right, rising. -/
structure KOk (w : World) (K : List FrV) (nx : Nat) : Prop where
  ok : ∀ f ∈ K, f.Ok w ∧ GoodF f.pf ∧ f.len ≤ 40
  rise : ∀ i, i + 1 < K.length → (K.getD i ⟨0, none, 0, 0, fun _ => default⟩).seq < (K.getD (i + 1) ⟨0, none, 0, 0, fun _ => default⟩).seq
  last : ∀ i, i + 1 = K.length → (K.getD i ⟨0, none, 0, 0, fun _ => default⟩).seq + 1 = nx
  few : K.length ≤ 8
  nx : nx ≤ 5 * K.length
theorem kOk_nil (w : World) : KOk w [] 0 :=
  { ok := (fun f hf => by cases hf), rise := fun i hi => absurd hi (Nat.not_lt_zero _), last := fun i hi => absurd hi (Nat.succ_ne_zero _), few := Nat.zero_le _, nx := Nat.zero_le _ }
theorem KOk.more {w : World} {K : List FrV} {nx : Nat} (h : KOk w K nx) {f : FrV} (h1 : f.Ok w) (h2 : GoodF f.pf) (h3 : f.len ≤ 40) (h4 : nx ≤ f.seq) (h5 : f.seq ≤ nx + 4) (h6 : K.length < 8) (h0 : K = [] → nx = 0) : KOk w (K ++ [f]) (f.seq + 1) := by
  have e1 : ∀ i, i < K.length → (K ++ [f]).getD i ⟨0, none, 0, 0, fun _ => default⟩ = K.getD i ⟨0, none, 0, 0, fun _ => default⟩ := fun i hi => by
    rw [List.getD_eq_getElem?_getD, List.getElem?_append_left hi, ← List.getD_eq_getElem?_getD]
  have e2 : (K ++ [f]).getD K.length ⟨0, none, 0, 0, fun _ => default⟩ = f := by
    rw [List.getD_eq_getElem?_getD, List.getElem?_append_right (Nat.le_refl _), Nat.sub_self]; rfl
  refine ⟨fun x hx => ?_, fun i hi => ?_, fun i hi => ?_, by simp; omega, by have := h.nx; simp; omega⟩
  · rcases List.mem_append.1 hx with hx | hx
    · exact h.ok x hx
    · obtain rfl : x = f := by simpa using hx
      exact ⟨h1, h2, h3⟩
  · rw [List.length_append, List.length_singleton] at hi
    rw [e1 i (by omega)]
    rcases Nat.lt_or_ge (i + 1) K.length with q | q
    · rw [e1 (i + 1) q]; exact h.rise i q
    · obtain q2 : i + 1 = K.length := by omega
      rw [q2, e2]
      have := h.last i q2
      omega
  · rw [List.length_append, List.length_singleton] at hi
    obtain rfl : i = K.length := by omega
    rw [e2]
theorem src_lit (w : World) (C : Array Value) (t : TypeId) (c : Nat) : Src (w.alloc (.cells C t)) (.slice (some ⟨w.heap.size, 0, none⟩) 1 c) 1 C.toList := by
  refine .inr ⟨_, c, rfl, fun j u hj => ?_⟩
  rw [Go.WideShapes.add_plain, cell_blk (heap_alloc_new w _), Nat.zero_add]
  simpa using hj
theorem fr_info : ∃ i, Try.prog.info? 48 = some i ∧ i.zero = some (.agg #[.int .u32 0, .slice none 0 0]) ∧ i.size = 2 ∧ i.bytes = 32 := by
  have h : Try.prog.info? 48 = some ((Try.prog.info? 48).get (by kernel_rfl)) := (Option.some_get _).symm
  exact ⟨_, h, by kernel_rfl, by kernel_rfl, by kernel_rfl⟩
theorem str_info : ∃ i, Try.prog.info? 9 = some i ∧ i.zero = some (.string ⟨#[]⟩) ∧ i.size = 1 ∧ i.bytes = 16 := by
  have h : Try.prog.info? 9 = some ((Try.prog.info? 9).get (by kernel_rfl)) := (Option.some_get _).symm
  exact ⟨_, h, by kernel_rfl, by kernel_rfl, by kernel_rfl⟩
theorem ul_frs : Try.prog.underlying 49 = some (.slice 48) := by kernel_rfl
theorem ul_strs : Try.prog.underlying 22 = some (.slice 9) := by kernel_rfl
/-- Where rising stands. -/
structure RiSt (w : World) (K : List FrV) (nx : Nat) (v4 v5 : Value) (wr : World) : Prop where
  bel : Below w.heap.size w wr
  fr : wr.ownsRow w.heap.size 48 2 v4 K.length (frCells K)
  tx : wr.ownsRow w.heap.size 9 1 v5 K.length (txCells K)
  ok : KOk w K nx
  nil : K = [] → nx = 0
theorem RiSt.below {w : World} {K : List FrV} {nx : Nat} {v4 v5 : Value} {wr w2 : World} (h : RiSt w K nx v4 v5 wr) (k : Below wr.heap.size wr w2) : RiSt w K nx v4 v5 w2 :=
  { h with bel := h.bel.trans (k.mono h.bel.size), fr := own_below h.fr k, tx := own_below h.tx k }
theorem frCells_one (K : List FrV) : ∀ u ∈ frCells K, u.oneCell' = true := by
  intro u hu
  simp only [frCells, List.mem_flatMap] at hu
  obtain ⟨e, he, hc⟩ := hu
  simp only [List.mem_cons, List.not_mem_nil, or_false] at hc
  rcases hc with rfl | rfl <;> rfl
theorem txCells_one (K : List FrV) : ∀ u ∈ txCells K, u.oneCell' = true := by
  intro u hu
  simp only [txCells, List.mem_map] at hu
  obtain ⟨e, he, rfl⟩ := hu
  rfl
/-- What rising answers. -/
def RisPost (w : World) (x : Ending) (w' : World) : Prop :=
  ∃ K nx ao cp ao2 cp2, x = .returned (.tuple #[.slice ao K.length cp, .slice ao2 K.length cp2]) ∧ RiSt w K nx (.slice ao K.length cp) (.slice ao2 K.length cp2) w'
set_option maxHeartbeats 4000000 in
theorem rising_any (w : World) (oa : Option Addr) (len cap : Nat) (z : Nat → FrV) (h : SlArgN w oa len cap 2 (fun i j => (z i).c j)) (ho : ∀ i, i < len → (z i).Ok w) (hl : len ≤ 100) :
    Calls Try.prog 30 #[.slice oa len cap] w (RisPost w) := by
  obtain ⟨i1, hi1, hz11, hz12, hz13⟩ := fr_info
  obtain ⟨i2, hi2, hz21, hz22, hz23⟩ := str_info
  have HH := Lib.hid (And.intro h ho)
  clear h ho
  have st0 : RiSt w [] 0 (.slice none 0 0) (.slice none 0 0) w :=
    { bel := Below.refl _ _, fr := World.ownsRow_nil _ _ _ _, tx := World.ownsRow_nil _ _ _ _, ok := kOk_nil w, nil := fun _ => rfl }
  go_enter Try.func30, Try.ntmps30
  go_upto_region 5 with fail
  go_loopg [4, 5, 6, 8, 9, 10, 13] (len) (fun g v4 v5 v6 u8 u9 u10 i wr => ∃ (j : Nat) (K : List FrV) (nx : Nat) (ao : Option Addr) (cp : Nat) (ao2 : Option Addr) (cp2 : Nat), v4 = .slice ao K.length cp ∧ v5 = .slice ao2 K.length cp2 ∧ v6 = .int .u64 nx ∧ i = .int .i64 j ∧ j ≤ len ∧ RiSt w K nx (.slice ao K.length cp) (.slice ao2 K.length cp2) wr ∧ len - j ≤ g)
  case atStart => exact ⟨0, [], 0, none, 0, none, 0, rfl, rfl, rfl, rfl, Nat.zero_le _, st0, Nat.le_refl _⟩
  case round =>
    clear st0
    obtain ⟨j, K, nx, ao, cp, ao2, cp2, rfl, rfl, rfl, rfl, hj, st, hg⟩ := hrel
    by_cases hlt : j < len
    · have hlt' : (j : Int) < len := by omega
      obtain ⟨bl, off, rfl, hbl, hcell⟩ := HH.out.1.2.2 j hlt
      have c0 : wr.cell? ⟨bl, off + j * 2, none⟩ = some (.int .u32 (z j).seq) := (st.bel.cell hbl).trans (hcell 0 (by decide))
      have c1 : wr.cell? ⟨bl, off + j * 2 + 1, none⟩ = some (.slice (z j).oa (z j).len (z j).cap) := (st.bel.cell hbl).trans (hcell 1 (by decide))
      have hok := HH.out.2 j hlt
      clear hcell
      generalize z j = f at *
      obtain ⟨sq, foa, fl, fc, fz⟩ := f
      simp only at c0 c1
      have hfew := st.ok.few
      have hnx := st.ok.nx
      have hal := (Below.refl wr.heap.size wr).alloc (Nat.le_refl _) (.cells #[.int .u32 sq, .slice foa fl fc] 48)
      have st2 := st.below hal
      have hbx := heap_alloc_new wr (.cells #[.int .u32 sq, .slice foa fl fc] 48)
      have hsz := st.bel.size
      obtain ⟨r, hr⟩ : ∃ r, r = sq % 5 := ⟨_, rfl⟩
      have hri : (sq : Int) % 5 = (r : Int) := by rw [hr]; omega
      have hr5 : r < 5 := by omega
      have hsq := hok.seq
      simp only at hsq
      have hw1 : IntKind.u32.wrap (nx : Int) = (nx : Int) := by rw [IntKind.wrap_u32]; omega
      have hw2 : IntKind.u32.wrap ((nx : Int) + (r : Int)) = ((nx + r : Nat) : Int) := by rw [IntKind.wrap_u32]; omega
      have hw3 : IntKind.u64.wrap ((nx + r : Nat) : Int) = ((nx + r : Nat) : Int) := by rw [IntKind.wrap_u64]; omega
      have hw4 : IntKind.u64.wrap (((nx + r : Nat) : Int) + 1) = ((nx + r + 1 : Nat) : Int) := by rw [IntKind.wrap_u64]; omega
      have hbs := bel_set2 hal ⟨wr.heap.size, 0, none⟩ (.int .u32 ((nx + r : Nat) : Int)) (Nat.le_refl _)
      have st3 := st.below hbs
      have hbx2 := blk_setCell hbx (i := 0) (.int .u32 ((nx + r : Nat) : Int))
      have hlt4 : ∀ k, (Value.slice ao K.length cp).ownBlock = some k → k < wr.heap.size := fun k hk => (st.fr.lt k hk).2
      have hfz := frozen_blk hbx 0
      have HL := Lib.hid hlt4
      have HR := Lib.hid hr
      clear hr hlt4
      go_upto_region 7 with fail
      generalize hgx : wr.heap.size = gx at *
      generalize wr.alloc (.cells #[.int .u32 sq, .slice foa fl fc] 48) = w6 at *
      have x0 := cell_blk hbx 0
      have x1 := cell_blk hbx 1
      simp only [List.getElem?_toArray, List.getElem?_cons_zero, List.getElem?_cons_succ] at x0 x1
      clear c0 c1 hal hbs
      by_cases t1 : 40 < fl
      · have t1' : (40 : Int) < (fl : Int) := by omega
        clear hw1 hw2 hw3 hw4 hri
        go_wp2_with fail
        obtain ⟨g, rfl⟩ : ∃ g, gk = g + 1 := ⟨gk - 1, by omega⟩
        go_roundg g
        case measure => omega
        case rel => exact ⟨j + 1, K, nx, ao, cp, ao2, cp2, rfl, rfl, rfl, by go_num, by omega, st2, by omega⟩
      · have t1' : ¬ (40 : Int) < (fl : Int) := by omega
        by_cases t2 : 8 ≤ K.length
        · have t2' : (8 : Int) ≤ (K.length : Int) := by omega
          clear hw1 hw2 hw3 hw4 hri
          go_wp2_with fail
          obtain ⟨g, rfl⟩ : ∃ g, gk = g + 1 := ⟨gk - 1, by omega⟩
          go_roundg g
          case measure => omega
          case rel => exact ⟨j + 1, K, nx, ao, cp, ao2, cp2, rfl, rfl, rfl, by go_num, by omega, st2, by omega⟩
        · have t2' : ¬ (8 : Int) ≤ (K.length : Int) := by omega
          go_upto_region 9 with fail
          rw [show ((nx : Int) + (r : Int)) = ((nx + r : Nat) : Int) by omega]
          generalize w6.setCell ⟨gx, 0, none⟩ (.int .u32 ((nx + r : Nat) : Int)) = w7 at *
          clear st2 hbx x0 x1 hfz
          have hbx3 : w7.heap[gx]? = some (.cells #[.int .u32 ((nx + r : Nat) : Int), .slice foa fl fc] 48 (0, 0)) := hbx2
          clear hbx2
          have x0 := cell_blk hbx3 0
          have x1 := cell_blk hbx3 1
          simp only [List.getElem?_toArray, List.getElem?_cons_zero, List.getElem?_cons_succ] at x0 x1
          have hp := rfprint_any w7 (nx + r) (by omega) foa fl fc fz (hok.sl.kept st3.bel) hok.wf (by omega)
          obtain ⟨E, hE⟩ : ∃ E, E = frE fz fl := ⟨_, rfl⟩
          obtain ⟨S, hS⟩ : ∃ S : ByteArray, S = ⟨(frS (nx + r) fz fl).toArray⟩ := ⟨_, rfl⟩
          rw [← hE, ← hS] at hp
          have HES := Lib.hid (And.intro hE (And.intro hS hok))
          clear hE hS hok
          obtain ⟨sn, hsn⟩ : ∃ sn, sn = nx + r := ⟨_, rfl⟩
          have hsn1 : nx ≤ sn ∧ sn ≤ nx + 4 := by omega
          rw [← hsn] at HES hp hbx3 x0 hw3 hw4 ⊢
          clear hsn hw1 hw2 hri hr5
          go_upto_region 10 with ((go_at_call 29; (refine hp.mono ?_); rintro x wP ⟨rfl, hkP⟩))
          have st4 := st3.below hkP
          have hbx4 := (hkP.block _ (blk_lt hbx3)).trans hbx3
          clear st3 hbx3 x0 x1 hp
          by_cases hE : E = 0
          · have hE' : (E == 0) = true := by rw [hE]; rfl
            have hal5 := (Below.refl wP.heap.size wP).alloc (Nat.le_refl _) (.cells #[.int .u32 sn, .slice foa fl fc] 48)
            have st5 := st4.below hal5
            have hbx5 := (hal5.block _ (blk_lt hbx4)).trans hbx4
            have hsr5 := src_lit wP #[.int .u32 sn, .slice foa fl fc] 48 1
            have hone5 : ∀ u ∈ [Value.int .u32 sn, .slice foa fl fc], u.oneCell' = true := by
              intro u hu
              simp only [List.mem_cons, List.not_mem_nil, or_false] at hu
              rcases hu with rfl | rfl <;> rfl
            have hb5 := st5.bel.size
            have hfr5 := st5.fr
            have x0 := cell_blk hbx4 0
            have x1 := cell_blk hbx4 1
            simp only [List.getElem?_toArray, List.getElem?_cons_zero, List.getElem?_cons_succ] at x0 x1
            go_upto_region 12 with (at_builtin; (refine list_append rfl (.tmp 40) (.tmp 42) 49 rfl w.heap.size hb5 48 i1 _ 2 32 ul_frs hi1 hz11 hz12 hz13 rfl (by decide) (.slice ao K.length cp) K.length (frCells K) rfl hfr5 _ 1 [.int .u32 sn, .slice foa fl fc] rfl rfl hsr5 hone5 (by unfold maxLen; omega) (by omega) ?_); intro ao6 cp6 w8 hown6 hg6 hat6; have htx6 := own_grow st5.tx hfr5 (by decide) hg6; have hbx6 := (hg6.block _ (blk_lt hbx5) fun x => by have := HL.out _ x.symm; omega).trans hbx5; have hbel6 := below_append st5.bel hfr5 hg6 hb5; clear hat6 hg6)
            clear st4 hal5 st5 hbx5 hsr5 hone5 hb5 hfr5 x0 x1 hbx4
            have hal7 := (Below.refl w8.heap.size w8).alloc (Nat.le_refl _) (.cells #[.string S] 9)
            have hfr7 := own_below hown6 hal7
            have htx7 := own_below htx6 hal7
            have hbx7 := (hal7.block _ (blk_lt hbx6)).trans hbx6
            have hbel7 := hbel6.trans (hal7.mono hbel6.size)
            have hsr7 := src_lit w8 #[.string S] 9 1
            have hone7 : ∀ u ∈ [Value.string S], u.oneCell' = true := by
              intro u hu
              simp only [List.mem_cons, List.not_mem_nil, or_false] at hu
              rw [hu]; rfl
            have hb7 := hbel7.size
            go_upto_region 13 with (at_builtin; (refine list_append rfl (.tmp 44) (.tmp 46) 22 rfl w.heap.size hb7 9 i2 _ 1 16 ul_strs hi2 hz21 hz22 hz23 rfl (by decide) (.slice ao2 K.length cp2) K.length (txCells K) rfl htx7 _ 1 [.string S] rfl rfl hsr7 hone7 (by unfold maxLen; omega) (by omega) ?_); intro ao9 cp9 w9 hown9 hg9 hat9; have hfr9 := own_grow hfr7 htx7 (by decide) hg9; have hbx9 := own_keep htx7 hbx7 (by decide) hg9; have hbel9 := below_append hbel7 htx7 hg9 hb7; clear hat9 hg9)
            clear hal7 hfr7 htx7 hbx7 hbel7 hsr7 hone7 hb7 hown6 htx6 hbx6 hbel6
            have x0 := cell_blk hbx9 0
            simp only [List.getElem?_toArray, List.getElem?_cons_zero, List.getElem?_cons_succ] at x0
            go_wp2_with fail
            obtain ⟨g, rfl⟩ : ∃ g, gk = g + 1 := ⟨gk - 1, by omega⟩
            go_roundg g
            case measure => omega
            case rel =>
              have hE0 : frE fz fl = 0 := by rw [← HES.out.1]; exact hE
              have hok := HES.out.2.2
              have hT : S = ⟨(frT (FrV.pf ⟨sn, foa, fl, fc, fz⟩)).toArray⟩ := by rw [HES.out.2.1, pf_T (f := ⟨sn, foa, fl, fc, fz⟩) hE0]
              have hkk := st.ok.more (f := ⟨sn, foa, fl, fc, fz⟩) { hok with seq := (by show sn < 4294967296; omega) } ⟨by show sn < 4294967296; omega, by rw [pf_E]; exact hE0, fun i hi => by rw [pf_len] at hi; rw [pf_z hi]; exact hok.wf i hi⟩ (by show fl ≤ 40; omega) hsn1.1 hsn1.2 (by omega) st.nil
              refine ⟨j + 1, K ++ [⟨sn, foa, fl, fc, fz⟩], sn + 1, ao6, cp6, ao9, cp9, by rw [List.length_append]; rfl, by rw [List.length_append]; rfl, by first | rfl | (congr 1; omega), by go_num, by omega, ?_, by omega⟩
              rw [List.length_append]
              exact { bel := hbel9, fr := by rw [frCells_append, List.length_append]; exact hfr9, tx := by rw [List.length_append]; unfold txCells; rw [List.map_append, List.map_singleton, ← hT]; exact hown9, ok := hkk, nil := fun h => absurd h (by simp) }
          · have hE' : (E == 0) = false := by simp [hE]
            go_wp2_with fail
            obtain ⟨g, rfl⟩ : ∃ g, gk = g + 1 := ⟨gk - 1, by omega⟩
            go_roundg g
            case measure => omega
            case rel => exact ⟨j + 1, K, nx, ao, cp, ao2, cp2, rfl, rfl, rfl, by go_num, by omega, st4, by omega⟩
    · have hlt' : ¬ (j : Int) < len := by omega
      obtain rfl : j = len := by omega
      go_wp2_with fail
      go_ret2
      exact ⟨K, nx, ao, cp, ao2, cp2, rfl, st⟩
end Go.Proofs.Ythdenjokedmcfaa
