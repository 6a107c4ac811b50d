/- Words, digits and numbers: the library's and the reference's (layer 5). Conditions: the library's variables' data. -/
import Derived.Test.YtghfkpddkmaflaaDoorGn
import Derived.IntWalk
namespace Go.Proofs.YtghfkpddkmaflaaDoor
open Go Go.RowKit
set_option linter.unusedVariables false
set_option linter.unusedSimpArgs false
set_option maxRecDepth 20000
theorem ba_eq {a b : ByteArray} (h : a = b) : (a.toList == b.toList) = true := by subst h; simp
theorem ba_ne {a b : ByteArray} (h : ¬ a = b) : (a.toList == b.toList) = false := by
  cases hc : (a.toList == b.toList) with
  | false => rfl
  | true =>
    exfalso
    apply h
    have h2 := eq_of_beq hc
    rw [ByteArray.toList_eq, ByteArray.toList_eq] at h2
    cases a; cases b
    exact congrArg ByteArray.mk (Array.toList_inj.1 h2)
theorem bel_next {a b c : World} (h : Below a.heap.size a b) (k : Below b.heap.size b c) : Below a.heap.size a c := h.trans (k.mono h.size)
/-- A number that strconv takes. -/
def FOk (u : Nat) : Prop := u < 18446744073709551616
/-- Its digits. -/
def DB (u : Nat) : ByteArray := ⟨(Lib.decDigits u).toArray⟩
theorem DB_size (u : Nat) (h : FOk u) : (DB u).size ≤ 20 := by
  unfold FOk at h
  show (Lib.decDigits u).toArray.size ≤ 20
  rw [List.size_toArray, Lib.decDigits_length]
  by_cases h1 : 1 ≤ u
  · have := Lib.numDigits_eq u h1 h
    split at this <;> omega
  · obtain rfl : u = 0 := by omega
    rw [Lib.nDigits_small (by decide)]
    decide
theorem fdb_any (u : Nat) (W : World) (h : FOk u) (g : Gl W) : Calls Tryd.prog 25 #[.int .u64 u, .int .i64 10] W fun e w' => e = .returned (.string (DB u)) ∧ Below W.heap.size W w' := fmt_any u h W g
/-- Word i of a line, as a text. -/
def wsB (W : List (List UInt8)) (i : Nat) : ByteArray := ⟨(W.getD i []).toArray⟩
def WsIn (w : World) (q : Nat) (W : List (List UInt8)) : Prop := ∃ cs fz, w.heap[q]? = some (.cells cs 9 (0, 0)) ∧ fz = true ∧ ∀ i, i < W.length → cs[i]? = some (.string (wsB W i))
theorem wds_len : ∀ (l : List UInt8) (w : List UInt8), w ∈ wds l → w.length ≤ l.length
  | [], w, h => by
    obtain rfl : w = [] := by simpa [wds] using h
    exact Nat.le_refl _
  | c :: r, w, h => by
    have hh := wds_cons r
    unfold wds at h
    split at h
    · rcases List.mem_cons.1 h with rfl | h
      · exact Nat.zero_le _
      · have := wds_len r w h
        simp; omega
    · rcases List.mem_cons.1 h with rfl | h
      · have := wds_len r ((wds r).headD []) (by rw [hh]; exact List.mem_cons_self)
        rw [List.length_cons, List.length_cons]; omega
      · have := wds_len r w (by rw [hh]; exact List.mem_cons_of_mem _ h)
        simp; omega
theorem wsB_size (l : List UInt8) (i : Nat) : (wsB (wds l) i).size ≤ l.length := by
  show ((wds l).getD i []).toArray.size ≤ _
  rw [List.size_toArray]
  by_cases h : i < (wds l).length
  · rw [List.getD_eq_getElem?_getD, List.getElem?_eq_getElem h]
    exact wds_len l _ (List.getElem_mem h)
  · rw [List.getD_eq_getElem?_getD, List.getElem?_eq_none (by omega)]
    exact Nat.zero_le _
theorem wds_pos (l : List UInt8) : 1 ≤ (wds l).length := by rw [wds_cons]; simp
theorem wds_le : ∀ l : List UInt8, (wds l).length ≤ l.length + 1
  | [] => by simp [wds]
  | c :: r => by
    have ih := wds_le r
    have hh := wds_pos r
    unfold wds
    split <;> simp <;> omega
theorem split_list (s : ByteArray) : (Lib.splitB ⟨#[32]⟩ 0 (Lib.countB s ⟨#[32]⟩) s).map (·.data.toList) = wds s.data.toList := by
  rw [Lib.splitB_data]
  have : Lib.countB s ⟨#[32]⟩ = Lib.count s.data.toList [32] := rfl
  rw [this]
  exact split_wds _
theorem split_any (s : ByteArray) (hs : s.size ≤ 100000) (w : World) (g : Gl w) :
    Calls Tryd.prog 33 #[.string s, .string ⟨#[32]⟩] w fun e w' => e = .returned (.slice (some ⟨w.heap.size, 0, none⟩) (wds s.data.toList).length (wds s.data.toList).length) ∧ WsIn w' w.heap.size (wds s.data.toList) ∧ Below w.heap.size w w' ∧ w.heap.size < w'.heap.size := by
  obtain ⟨m, hm⟩ := g.mxl
  have hl := split_list s
  have hn : Lib.countB s ⟨#[32]⟩ + 1 = (wds s.data.toList).length := by
    rw [← hl, List.length_map]
    exact (Lib.splitB_all ⟨#[32]⟩ (by decide) 0 _ s rfl).symm
  refine (Tryd.strings_Split s ⟨#[32]⟩ m w (by omega) hm (by decide)).mono ?_
  rintro e w' ⟨rfl, rfl⟩
  rw [hn]
  refine ⟨rfl, ⟨_, true, heap_alloc_new w _, rfl, fun i hi => ?_⟩, (Below.refl _ w).alloc (Nat.le_refl _) _, by simp⟩
  unfold wsB
  rw [← hl] at hi ⊢
  generalize Lib.splitB ⟨#[32]⟩ 0 (Lib.countB s ⟨#[32]⟩) s = L at hi ⊢
  rw [List.length_map] at hi
  rw [List.getD_eq_getElem?_getD, List.getElem?_map, List.getElem?_toArray, List.getElem?_map, List.getElem?_eq_getElem hi]
  rfl
theorem run_str_one {P : Program} {src dst e : Nat} (hs : P.underlying src = some (.slice e)) (he : P.underlying e = some (.int .u8)) (hd : P.underlying dst = some .string) (w : World) (b : Nat) (u : UInt8) (hc : w.cell? ⟨b, 0, none⟩ = some (.int .u8 u.toNat)) :
    (convert src dst (.slice (some ⟨b, 0, none⟩) 1 1)).run P w = .ok (.string ⟨#[u]⟩) w := by
  rw [run_convert_bytes_string w src dst e (some ⟨b, 0, none⟩) 1 1 hs he hd]
  have hcells : ∀ j x, (bv [u])[j]? = some x → w.cell? ((⟨b, 0, none⟩ : Addr).add j) = some x := by
    intro j x hj
    match j, hj with
    | 0, hj => simp [bv] at hj; subst hj; simpa [Addr.add] using hc
    | j + 1, hj => simp [bv] at hj
  have hl := run_loadCells_list (P := P) w ⟨b, 0, none⟩ (bv [u]) hcells
  have hb : bv [u] = ([u].map fun b => (b.toNat : Int)).map (Value.int .u8) := by simp [bv]
  rw [hb, List.length_map, List.length_map] at hl
  refine (run_bytesToString (P := P) w ⟨b, 0, none⟩ 1 1 ([u].map fun b => (b.toNat : Int)) hl).trans ?_
  congr 2
  rw [fold_push]
  rfl
theorem dig_conv (W : World) (v : Value) (b d : Nat) (hd : d < 10) (hc : W.cell? ⟨b, 0, none⟩ = some (.int .u8 (48 + d))) :
    (convert 77 9 (.slice (some ⟨b, 0, none⟩) 1 1)).run Tryd.prog W = .ok (.string ⟨#[UInt8.ofNat (48 + d)]⟩) W :=
  run_str_one Tryd.underlying77 Tryd.underlying5 Tryd.underlying9 W b (UInt8.ofNat (48 + d)) (by rw [hc, UInt8.toNat_ofNat', Nat.mod_eq_of_lt (by omega)]; rfl)
set_option maxHeartbeats 2000000 in
theorem rdig_any (u : Nat) (hu : FOk u) (w : World) : Calls Tryd.prog 32 #[.int .u64 u] w fun e w' => e = .returned (.string (DB u)) ∧ Below w.heap.size w w' := by
  have hbound : u < 18446744073709551616 := hu
  have hD := Lib.hid hu
  clear hu
  have HZ := Lib.hid (fun (n : Nat) (S : ByteArray) (h : Lib.decDigits u = Lib.decDigits n ++ S.data.toList) => show S.size ≤ 20 by
    have h1 := DB_size u hD.out
    have h2 : (DB u).size = (Lib.decDigits u).length := by show (Lib.decDigits u).toArray.size = _; simp
    have h3 : S.size = S.data.toList.length := by simp
    have := congrArg List.length h
    rw [List.length_append] at this
    omega)
  go_enter Tryd.func32, Tryd.ntmps32
  go_wp2_with fail
  go_loopw [0, 3] (fun x y wr => ∃ (n : Nat) (S : ByteArray), x = .int .u64 n ∧ y = .string S ∧ n ≤ u ∧ Hid (Lib.decDigits u = Lib.decDigits n ++ S.data.toList) ∧ Below w.heap.size w wr) (fun x _ _ => (intOf x).toNat)
  case atStart => exact ⟨u, ⟨#[]⟩, rfl, rfl, Nat.le_refl _, Lib.hid (by simp), Below.refl _ _⟩
  case round =>
    obtain ⟨n, S, rfl, rfl, hn, HS, hB⟩ := hrel
    have hz := HZ.out n S HS.out
    by_cases h9 : 9 < n
    · obtain ⟨D, hDD⟩ : ∃ D : ByteArray, D = ⟨#[UInt8.ofNat (48 + n % 10)]⟩ := ⟨_, rfl⟩
      have hcv : (convert 77 9 (.slice (some ⟨wr.heap.size, 0, none⟩) 1 1)).run Tryd.prog (wr.alloc (.cells #[.int .u8 (48 + (n : Int) % 10)] 5)) = .ok (.string D) (wr.alloc (.cells #[.int .u8 (48 + (n : Int) % 10)] 5)) := by
        rw [hDD]
        exact dig_conv _ (.int .u8 0) _ (n % 10) (Nat.mod_lt _ (by decide)) (by rw [World.cell?_alloc_new]; simp)
      have hz1 : D.size = 1 := by rw [hDD]; rfl
      have y1 : ¬ 9223372036854775807 < D.size + S.size := by omega
      have HD := Lib.hid hDD
      clear hDD hz1
      have hB2 := hB.alloc hB.size (.cells #[.int .u8 (48 + (n : Int) % 10)] 5)
      go_wp2_with fail
      go_roundw
      case rel =>
        refine ⟨n / 10, D ++ S, by simp, rfl, by omega, Lib.hid ?_, hB2⟩
        rw [HS.out, Lib.decDigits, dif_neg (by omega), HD.out]
        simp
      case measure => simp [intOf]; omega
    · obtain ⟨D, hDD⟩ : ∃ D : ByteArray, D = ⟨#[UInt8.ofNat (48 + n)]⟩ := ⟨_, rfl⟩
      have hcv : (convert 77 9 (.slice (some ⟨wr.heap.size, 0, none⟩) 1 1)).run Tryd.prog (wr.alloc (.cells #[.int .u8 (48 + (n : Int))] 5)) = .ok (.string D) (wr.alloc (.cells #[.int .u8 (48 + (n : Int))] 5)) := by
        rw [hDD]
        exact dig_conv _ (.int .u8 0) _ n (by omega) (by rw [World.cell?_alloc_new]; simp)
      have hz1 : D.size = 1 := by rw [hDD]; rfl
      have y1 : ¬ 9223372036854775807 < D.size + S.size := by omega
      have HD := Lib.hid hDD
      clear hDD hz1
      have hB2 := hB.alloc hB.size (.cells #[.int .u8 (48 + (n : Int))] 5)
      go_wp2_with fail
      go_ret
      refine ⟨?_, hB2⟩
      have : D ++ S = DB u := by
        unfold DB
        rw [HS.out, Lib.decDigits_one (by omega), HD.out]
        apply ByteArray.ext
        simp
      rw [← this]
      rfl
theorem wds_snoc : ∀ (p : List UInt8) (D : List (List UInt8)) (x : List UInt8), wds p = D ++ [x] → wds (p ++ [32]) = D ++ [x] ++ [[]] ∧ ∀ c, c ≠ 32 → wds (p ++ [c]) = D ++ [x ++ [c]]
  | [], D, x, h => by
    have h : [[]] = D ++ [x] := h
    cases D with
    | nil =>
      obtain rfl : [] = x := by simpa using h
      exact ⟨rfl, fun c hc => by show wds [c] = _; rw [wds, if_neg hc]; rfl⟩
    | cons y D => simp at h
  | d :: p, D, x, h => by
    have hh := wds_cons p
    unfold wds at h
    split at h
    · rename_i hd
      cases D with
      | nil =>
        rw [List.nil_append] at h
        have h2 := (List.cons.inj h).2
        have := wds_pos p
        rw [h2] at this
        exact absurd this (by decide)
      | cons y D =>
        rw [List.cons_append] at h
        obtain ⟨hy, h2⟩ := List.cons.inj h
        subst hy
        obtain ⟨i1, i2⟩ := wds_snoc p D x h2
        refine ⟨?_, fun c hc => ?_⟩
        · rw [List.cons_append, wds, if_pos hd, i1]; rfl
        · rw [List.cons_append, wds, if_pos hd, i2 c hc]; rfl
    · rename_i hd
      cases D with
      | nil =>
        rw [List.nil_append] at h
        obtain ⟨h1, h2⟩ := List.cons.inj h
        have hp : wds p = [] ++ [(wds p).headD []] := by rw [List.nil_append]; rw [h2] at hh; exact hh
        obtain ⟨i1, i2⟩ := wds_snoc p [] _ hp
        refine ⟨?_, fun c hc => ?_⟩
        · rw [List.cons_append, wds, if_neg hd, i1, ← h1]; rfl
        · rw [List.cons_append, wds, if_neg hd, i2 c hc, ← h1]; rfl
      | cons y D =>
        rw [List.cons_append] at h
        obtain ⟨h1, h2⟩ := List.cons.inj h
        have hp : wds p = ((wds p).headD [] :: D) ++ [x] := by rw [List.cons_append, ← h2]; exact hh
        obtain ⟨i1, i2⟩ := wds_snoc p _ _ hp
        refine ⟨?_, fun c hc => ?_⟩
        · rw [List.cons_append, wds, if_neg hd, i1, ← h1]; rfl
        · rw [List.cons_append, wds, if_neg hd, i2 c hc, ← h1]; rfl
theorem wds_last (p : List UInt8) : ∃ D x, wds p = D ++ [x] := by
  have h := wds_pos p
  refine ⟨(wds p).dropLast, (wds p).getLast (fun e => by rw [e] at h; cases h), ?_⟩
  exact (List.dropLast_concat_getLast _).symm
/-- Words as cells. -/
def wv (L : List (List UInt8)) : List Value := L.map fun x => .string ⟨x.toArray⟩
theorem wv_one (L : List (List UInt8)) : ∀ u ∈ wv L, u.oneCell' = true := by
  intro u hu
  obtain ⟨x, _, rfl⟩ := List.mem_map.1 hu
  rfl
theorem wv_length (L : List (List UInt8)) : (wv L).length = L.length := by simp [wv]
theorem wv_snoc (D : List (List UInt8)) (x : List UInt8) : wv (D ++ [x]) = wv D ++ [.string ⟨x.toArray⟩] := by simp [wv]
/-- A row that the code owns, its last cell. -/
theorem own_last {w : World} {base e n : Nat} {v : Value} {xs : List Value} {y : Value} (h : w.ownsRow base e 1 v n (xs ++ [y])) :
    ∃ g cap, v = .slice (some ⟨g, 0, none⟩) n cap ∧ base ≤ g ∧ g < w.heap.size ∧ n = xs.length + 1 ∧ w.cell? ⟨g, xs.length, none⟩ = some y ∧ w.frozen? ⟨g, xs.length, none⟩ = false ∧
      ∀ z, (w.setCell ⟨g, xs.length, none⟩ z).ownsRow base e 1 (.slice (some ⟨g, 0, none⟩) n cap) n (xs ++ [z]) := by
  obtain ⟨hl, h⟩ := h
  rw [List.length_append, Nat.mul_one] at hl
  have hl : xs.length + 1 = n := hl
  rcases h with ⟨_, rfl⟩ | ⟨g, cap, cur, rfl, hb, hg, hc, hm, hs, ht⟩
  · omega
  · rw [Nat.mul_one] at hs ht
    have hcur : cur[xs.length]? = some y := by
      have := congrArg (·[xs.length]?) ht
      simp only [List.getElem?_take, List.getElem?_append_right (Nat.le_refl _), Nat.sub_self] at this
      rw [if_pos (by omega)] at this
      rw [← Array.getElem?_toList, this]
      rfl
    refine ⟨g, cap, rfl, hb, blk_lt hg, hl.symm, by rw [cell_blk hg]; exact hcur, frozen_blk hg _, fun z => ⟨by simp; omega, Or.inr ⟨g, cap, cur.setIfInBounds xs.length z, rfl, hb, blk_setCell hg z, hc, hm, by simp; omega, ?_⟩⟩⟩
    rw [Nat.mul_one, Array.toList_setIfInBounds, ← hl]
    have hlt : xs.length < cur.toList.length := by simp; omega
    rw [List.take_set, ]
    rw [← hl] at ht
    rw [ht]
    simp
theorem ul_strs : Tryd.prog.underlying 54 = some (.slice 9) := by kernel_rfl
theorem info_strs : ∃ i z, Tryd.prog.info? 9 = some i ∧ i.zero = some z ∧ i.size = 1 ∧ i.bytes = 16 ∧ z.cells.size = 1 := by
  have h : Tryd.prog.info? 9 = some ((Tryd.prog.info? 9).get (by kernel_rfl)) := (Option.some_get _).symm
  exact ⟨_, .string ⟨#[]⟩, h, by kernel_rfl, by kernel_rfl, by kernel_rfl, by kernel_rfl⟩
theorem src_empty {w : World} : Src (w.alloc (.cells #[.string ⟨#[]⟩] 9)) (.slice (some ⟨w.heap.size, 0, none⟩) 1 1) 1 (wv [[]]) := by
  refine .inr ⟨_, _, rfl, fun j u hj => ?_⟩
  match j, hj with
  | 0, hj => simp [wv] at hj; subst hj; simp [Addr.add]
  | j + 1, hj => simp [wv] at hj
/-- Where Words stands. -/
structure WdS (w : World) (v : Value) (L : List (List UInt8)) (wr : World) : Prop where
  bel : Below w.heap.size w wr
  own : wr.ownsRow w.heap.size 9 1 v L.length (wv L)
set_option maxHeartbeats 2000000 in
theorem rwords_any (s : ByteArray) (hs : s.size ≤ 100000) (w : World) : Calls Tryd.prog 39 #[.string s] w fun e w' => ∃ v, e = .returned v ∧ WdS w v (wds s.data.toList) w' := by
  obtain ⟨i0, z0, hi, hz0, hz1, hz2, hz3⟩ := info_strs
  have hB0 := (Below.refl w.heap.size w).alloc (Nat.le_refl _) (.cells #[.string ⟨#[]⟩] 9)
  have hO0 : (w.alloc (.cells #[.string ⟨#[]⟩] 9)).ownsRow w.heap.size 9 1 (.slice (some ⟨w.heap.size, 0, none⟩) 1 1) 1 (wv [[]]) :=
    ⟨rfl, Or.inr ⟨w.heap.size, 1, _, rfl, Nat.le_refl _, heap_alloc_new w _, Nat.le_refl _, by decide, rfl, rfl⟩⟩
  go_enter Tryd.func39, Tryd.ntmps39
  go_wp2_with fail
  go_loopw [3, 4] (fun u x wr => ∃ i : Nat, x = .int .i64 i ∧ i ≤ s.size ∧ WdS w u (wds (s.data.toList.take i)) wr) (fun _ x _ => s.size - (intOf x).toNat)
  case atStart => exact ⟨0, rfl, Nat.zero_le _, ⟨hB0, hO0⟩⟩
  case round =>
    obtain ⟨i, rfl, hi', st⟩ := hrel
    obtain ⟨D, y, hD⟩ := wds_last (s.data.toList.take i)
    rw [hD] at st
    have HD := Lib.hid hD
    clear hD
    have hdl : D.length + 1 ≤ 100001 := by
      have h1 := wds_le (s.data.toList.take i)
      rw [HD.out] at h1
      have h2 : (s.data.toList.take i).length ≤ i := List.length_take_le _ _
      rw [List.length_append] at h1
      simp only [List.length_cons, List.length_nil] at h1
      omega
    by_cases hlt : i < s.size
    · have HT := Lib.hid (show s.data.toList.take (i + 1) = s.data.toList.take i ++ [s[i]] by
        rw [List.take_succ_eq_append_getElem (by simpa using hlt)]; rfl)
      have HSN := Lib.hid (wds_snoc _ D y HD.out)
      have h0i : (0 : Int) ≤ i := by omega
      have hltI : (i : Int) < s.size := by omega
      by_cases hc : s[i] = 32
      · have d : ((s[i].toNat : Int) == 32) = true := by rw [hc]; rfl
        have HC := Lib.hid hc
        have hown := st.own.alloc (.cells #[.string ⟨#[]⟩] 9)
        have hB := st.bel.alloc st.bel.size (.cells #[.string ⟨#[]⟩] 9)
        have hz := st.bel.size
        clear hc st
        rw [List.length_append, List.length_cons, List.length_nil] at hown
        go_wp2_with (at_builtin; (refine list_append rfl (.tmp 16) (.tmp 17) 54 rfl w.heap.size (by simp; omega) 9 i0 z0 1 16 ul_strs hi hz0 hz1 hz2 hz3 (by decide) _ (D.length + 1) (wv (D ++ [y])) rfl hown _ 1 (wv [[]]) rfl rfl src_empty (wv_one _) (by unfold maxLen; omega) (by omega) ?_); intro ao cap w2 hown' hg hat; have hB2 := below_append hB hown hg (by simp; omega); clear hown hg hat hB)
        go_roundw
        case rel =>
          refine ⟨i + 1, by go_num, by omega, hB2, ?_⟩
          rw [HT.out, HC.out, HSN.out.1]
          rw [List.length_append, List.length_append]
          have : wv (D ++ [y] ++ [[]]) = wv (D ++ [y]) ++ wv [[]] := by simp [wv]
          rw [this]
          exact hown'
        case measure => simp [intOf]; omega
      · have d : ((s[i].toNat : Int) == 32) = false := by
          rw [beq_eq_false_iff_ne]
          intro e
          apply hc
          apply UInt8.toNat_inj.1
          have : (32 : UInt8).toNat = 32 := rfl
          omega
        have HC := Lib.hid hc
        clear hc
        obtain ⟨hB, hown⟩ := st
        rw [wv_snoc] at hown
        obtain ⟨g, cap, rfl, hg, hgl, hn, hcell, hfz, hset⟩ := own_last hown
        rw [wv_length] at hn hcell hfz hset
        have hlen : (D ++ [y]).length = D.length + 1 := by simp
        rw [hlen] at hset ⊢
        have hy : (ByteArray.mk y.toArray).size ≤ 100000 := by
          have h1 := wds_len (s.data.toList.take i) y (by rw [HD.out]; simp)
          have h2 : (s.data.toList.take i).length ≤ i := List.length_take_le _ _
          show y.toArray.size ≤ _
          rw [List.size_toArray]; omega
        obtain ⟨Y, hY⟩ : ∃ Y, Y = ByteArray.mk y.toArray := ⟨_, rfl⟩
        rw [← hY] at hcell hy
        have HY := Lib.hid hY
        clear hY
        have hw1 : IntKind.i64.wrap ((D.length : Int) + 1 - 1) = D.length := by rw [IntWalk.i64_in _ (by omega)]; omega
        have hw2 : IntKind.i64.wrap ((i : Int) + 1) = (i : Int) + 1 := IntWalk.i64_in _ (by omega)
        have hex : (s.extract i (i + 1)).size = 1 := by rw [ByteArray.size_extract]; omega
        have hdI : (D.length : Int) < (D.length : Int) + 1 := by omega
        clear hn hown
        go_upto_region 7 with fail
        go_region
        have HW := Lib.hid (show wds (s.data.toList.take (i + 1)) = D ++ [y ++ [s[i]]] by rw [HT.out]; exact HSN.out.2 _ HC.out)
        have HE := Lib.hid (show Y ++ s.extract i (i + 1) = ⟨(y ++ [s[i]]).toArray⟩ by
          rw [HY.out]
          apply ByteArray.ext
          apply Array.toList_inj.1
          rw [ByteArray.data_append, Array.toList_append, ByteArray.data_extract, Array.toList_extract]
          simp only [List.extract_eq_take_drop]
          rw [show i + 1 - i = 1 by omega, List.drop_eq_getElem_cons (by simpa using hlt)]
          simp
          rfl)
        have hB9 : Below w.heap.size w (wr.setCell ⟨g, D.length, none⟩ (.string (Y ++ s.extract i (i + 1)))).drew := (hB.setCell hg _).drew
        have hset9 := hset (.string (Y ++ s.extract i (i + 1)))
        clear hB hset hcell hfz
        go_wp2_with fail
        go_roundw
        case rel =>
          refine ⟨i + 1, by go_num, by omega, hB9, ?_⟩
          rw [HW.out, List.length_append, wv_snoc, ← HE.out]
          exact hset9
        case measure => simp [intOf]; omega
    · go_wp2_with fail
      go_ret
      refine ⟨u3, rfl, ?_⟩
      rw [← HD.out, List.take_of_length_le (by simp; omega)] at st
      exact st
def RNumPost (M : Nat) (l : List UInt8) (w : World) (e : Ending) (w' : World) : Prop := ∃ n : Nat, e = .returned (.tuple #[.int .u64 n, .bool (numS M l).isSome]) ∧ (∀ u, numS M l = some u → n = u) ∧ n < 18446744073709551616 ∧ w = w'
theorem rnum_no {M : Nat} {l : List UInt8} (h : numS M l = none) (w : World) : RNumPost M l w (.returned (.tuple #[.int .u64 0, .bool false])) w :=
  ⟨0, by rw [h]; rfl, (fun u hu => by rw [h] at hu; cases hu), by decide, rfl⟩
set_option maxHeartbeats 2000000 in
theorem rnumber_any (s : ByteArray) (hs : s.size ≤ 100000) (M : Nat) (h9 : 9 ≤ M) (hM : M < 18446744073709551616) (w : World) : Calls Tryd.prog 41 #[.string s, .int .u64 M] w (RNumPost M s.data.toList w) := by
  have hlen : s.data.toList.length = s.size := by simp
  by_cases h0 : s.size = 0
  · have hE : s.toList = [] := by rw [ByteArray.toList_eq]; exact List.eq_nil_of_length_eq_zero (by omega)
    have HNo := Lib.hid (rnum_no (M := M) (l := s.data.toList) (by unfold numS; rw [if_pos (Or.inl (List.eq_nil_of_length_eq_zero (by omega)))]) w)
    clear h0 hlen
    go_enter Tryd.func41, Tryd.ntmps41
    go_wp2_with fail
    go_ret2
    exact HNo.out
  · have hpos : 0 < s.size := by omega
    have hposI : (0 : Int) < s.size := by omega
    have hne : s.data.toList ≠ [] := fun e => h0 (by rw [← hlen, e]; rfl)
    have hcons : s.data.toList = s[0] :: s.data.toList.drop 1 := by
      have := List.drop_eq_getElem_cons (l := s.data.toList) (i := 0) (by omega)
      rw [List.drop_zero] at this
      exact this
    have hE : s.toList.isEmpty = false := by rw [ByteArray.toList_eq, hcons]; rfl
    by_cases hz : s[0] = 48 ∧ 1 < s.size
    · have d0 : ((s[0].toNat : Int) == 48) = true := by rw [hz.1]; rfl
      have d1 : (1 : Int) < s.size := by omega
      have HNo := Lib.hid (rnum_no (M := M) (l := s.data.toList) (by unfold numS; rw [if_pos (Or.inr ⟨by rw [hcons, hz.1]; rfl, by omega⟩)]) w)
      clear h0 hlen hne hcons hz
      go_enter Tryd.func41, Tryd.ntmps41
      go_wp2_with fail
      go_ret2
      exact HNo.out
    · have HS := Lib.hid (show numS M s.data.toList = numR M 0 (s.data.toList.drop 0) by
        unfold numS
        rw [if_neg, List.drop_zero]
        rintro (h | ⟨h, h2⟩)
        · exact hne h
        · apply hz
          rw [hcons] at h
          exact ⟨Option.some.inj h, by omega⟩)
      have hb : ∃ b, b = ((s[0].toNat : Int) == 48) := ⟨_, rfl⟩
      have hzz : ((s[0].toNat : Int) == 48) = false ∨ (((s[0].toNat : Int) == 48) = true ∧ ¬ (1 : Int) < s.size) := by
        by_cases h1 : s[0] = 48
        · exact Or.inr ⟨by rw [h1]; rfl, fun h2 => hz ⟨h1, by omega⟩⟩
        · refine Or.inl ?_
          rw [beq_eq_false_iff_ne]
          intro e
          apply h1
          apply UInt8.toNat_inj.1
          have : (48 : UInt8).toNat = 48 := rfl
          omega
      have HL := Lib.hid hlen
      clear hne hcons hz h0 hb hlen
      rcases hzz with hzz | ⟨hzz, hz2⟩
      all_goals
        go_enter Tryd.func41, Tryd.ntmps41
        go_wp2_with fail
        go_loopw [6, 7] (fun x y wr => ∃ (n i : Nat), x = .int .u64 n ∧ y = .int .i64 i ∧ i ≤ s.size ∧ n ≤ M ∧ Hid (numS M s.data.toList = numR M n (s.data.toList.drop i)) ∧ w = wr) (fun _ y _ => s.size - (intOf y).toNat)
        case atStart => exact ⟨0, 0, rfl, rfl, Nat.zero_le _, Nat.zero_le _, HS, rfl⟩
        case round =>
          obtain ⟨n, i, rfl, rfl, hi, hn, HR, rfl⟩ := hrel
          clear hzz
          by_cases hlt : i < s.size
          · have hltI : (i : Int) < s.size := by omega
            have h0i : (0 : Int) ≤ i := by omega
            have HD := Lib.hid (show s.data.toList.drop i = s[i] :: s.data.toList.drop (i + 1) from List.drop_eq_getElem_cons (l := s.data.toList) (i := i) (by have := HL.out; omega))
            by_cases hd : 48 ≤ s[i].toNat ∧ s[i].toNat ≤ 57
            · obtain ⟨g1, g2⟩ := hd
              have g1I : (48 : Int) ≤ s[i].toNat := by omega
              have g2I : ¬ (57 : Int) < s[i].toNat := by omega
              by_cases ho : (M - (s[i].toNat - 48)) / 10 < n
              · have HNo := Lib.hid (rnum_no (M := M) (l := s.data.toList) (by rw [HR.out, HD.out, numR, if_pos ⟨g1, g2⟩, if_pos ho]) w)
                have hoI : ((M : Int) - (s[i].toNat - 48)) / 10 < n := by omega
                clear ho
                go_wp2_with fail
                go_ret2
                exact HNo.out
              · have HST := Lib.hid (show numS M s.data.toList = numR M (n * 10 + (s[i].toNat - 48)) (s.data.toList.drop (i + 1)) by rw [HR.out, HD.out, numR, if_pos ⟨g1, g2⟩, if_neg ho])
                have hoI : ¬ ((M : Int) - (s[i].toNat - 48)) / 10 < n := by omega
                have hle : n * 10 + (s[i].toNat - 48) ≤ M := by omega
                clear ho
                go_wp2_with fail
                exact ⟨⟨n * 10 + (s[i].toNat - 48), i + 1, congrArg (Value.int .u64) (by omega), congrArg (Value.int .i64) (by omega), by omega, hle, HST, trivial⟩, by simp [intOf]; omega⟩
            · have HNo := Lib.hid (rnum_no (M := M) (l := s.data.toList) (by rw [HR.out, HD.out, numR, if_neg hd]) w)
              have hd : (s[i].toNat : Int) < 48 ∨ (¬ (s[i].toNat : Int) < 48 ∧ (57 : Int) < s[i].toNat) := by omega
              rcases hd with hd | ⟨hd, hd2⟩
              all_goals
                go_wp2_with fail
                go_ret2
                exact HNo.out
          · go_wp2_with fail
            go_ret2
            refine ⟨n, ?_, fun u hu => ?_, by omega, rfl⟩
            · rw [HR.out, List.drop_of_length_le (by have := HL.out; omega)]
              rfl
            · rw [HR.out, List.drop_of_length_le (by have := HL.out; omega)] at hu
              exact Option.some.inj hu
end Go.Proofs.YtghfkpddkmaflaaDoor
