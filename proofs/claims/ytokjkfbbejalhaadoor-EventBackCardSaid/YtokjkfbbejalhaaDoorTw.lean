/- Contract of the reference's Words. No condition but those that it names. -/
import Derived.Test.YtokjkfbbejalhaaDoorTs
import Derived.IntWalk
namespace Go.Proofs.YtokjkfbbejalhaaDoor
open Go Go.RowKit
set_option linter.unusedVariables false
set_option linter.unusedSimpArgs false
set_option maxRecDepth 20000
theorem wds_snoc : ∀ (p : List UInt8) (D : List (List UInt8)) (x : List UInt8), wds p = D ++ [x] → wds (p ++ [32]) = D ++ [x] ++ [[]] ∧ ∀ c, c ≠ 32 → wds (p ++ [c]) = D ++ [x ++ [c]]
  | [], D, x, h => by
    have h : [[]] = D ++ [x] := h
    cases D with
    | nil =>
      obtain rfl : [] = x := by simpa using h
      exact ⟨rfl, fun c hc => by show wds [c] = _; rw [wds, if_neg hc]; rfl⟩
    | cons y D => simp at h
  | d :: p, D, x, h => by
    have hh := wds_cons p
    unfold wds at h
    split at h
    · rename_i hd
      cases D with
      | nil =>
        rw [List.nil_append] at h
        have h2 := (List.cons.inj h).2
        have := wds_pos p
        rw [h2] at this
        exact absurd this (by decide)
      | cons y D =>
        rw [List.cons_append] at h
        obtain ⟨hy, h2⟩ := List.cons.inj h
        subst hy
        obtain ⟨i1, i2⟩ := wds_snoc p D x h2
        refine ⟨?_, fun c hc => ?_⟩
        · rw [List.cons_append, wds, if_pos hd, i1]; rfl
        · rw [List.cons_append, wds, if_pos hd, i2 c hc]; rfl
    · rename_i hd
      cases D with
      | nil =>
        rw [List.nil_append] at h
        obtain ⟨h1, h2⟩ := List.cons.inj h
        have hp : wds p = [] ++ [(wds p).headD []] := by rw [List.nil_append]; rw [h2] at hh; exact hh
        obtain ⟨i1, i2⟩ := wds_snoc p [] _ hp
        refine ⟨?_, fun c hc => ?_⟩
        · rw [List.cons_append, wds, if_neg hd, i1, ← h1]; rfl
        · rw [List.cons_append, wds, if_neg hd, i2 c hc, ← h1]; rfl
      | cons y D =>
        rw [List.cons_append] at h
        obtain ⟨h1, h2⟩ := List.cons.inj h
        have hp : wds p = ((wds p).headD [] :: D) ++ [x] := by rw [List.cons_append, ← h2]; exact hh
        obtain ⟨i1, i2⟩ := wds_snoc p _ _ hp
        refine ⟨?_, fun c hc => ?_⟩
        · rw [List.cons_append, wds, if_neg hd, i1, ← h1]; rfl
        · rw [List.cons_append, wds, if_neg hd, i2 c hc, ← h1]; rfl
theorem wds_last (p : List UInt8) : ∃ D x, wds p = D ++ [x] := by
  have h := wds_pos p
  refine ⟨(wds p).dropLast, (wds p).getLast (fun e => by rw [e] at h; cases h), ?_⟩
  exact (List.dropLast_concat_getLast _).symm
/-- Words as cells. -/
def wv (L : List (List UInt8)) : List Value := L.map fun x => .string ⟨x.toArray⟩
theorem wv_one (L : List (List UInt8)) : ∀ u ∈ wv L, u.oneCell' = true := by
  intro u hu
  obtain ⟨x, _, rfl⟩ := List.mem_map.1 hu
  rfl
theorem wv_length (L : List (List UInt8)) : (wv L).length = L.length := by simp [wv]
theorem wv_snoc (D : List (List UInt8)) (x : List UInt8) : wv (D ++ [x]) = wv D ++ [.string ⟨x.toArray⟩] := by simp [wv]
/-- A row that the code owns, its last cell. -/
theorem own_last {w : World} {base e n : Nat} {v : Value} {xs : List Value} {y : Value} (h : w.ownsRow base e 1 v n (xs ++ [y])) :
    ∃ g cap, v = .slice (some ⟨g, 0, none⟩) n cap ∧ base ≤ g ∧ g < w.heap.size ∧ n = xs.length + 1 ∧ w.cell? ⟨g, xs.length, none⟩ = some y ∧ w.frozen? ⟨g, xs.length, none⟩ = false ∧
      ∀ z, (w.setCell ⟨g, xs.length, none⟩ z).ownsRow base e 1 (.slice (some ⟨g, 0, none⟩) n cap) n (xs ++ [z]) := by
  obtain ⟨hl, h⟩ := h
  rw [List.length_append, Nat.mul_one] at hl
  have hl : xs.length + 1 = n := hl
  rcases h with ⟨_, rfl⟩ | ⟨g, cap, cur, rfl, hb, hg, hc, hm, hs, ht⟩
  · omega
  · rw [Nat.mul_one] at hs ht
    have hcur : cur[xs.length]? = some y := by
      have := congrArg (·[xs.length]?) ht
      simp only [List.getElem?_take, List.getElem?_append_right (Nat.le_refl _), Nat.sub_self] at this
      rw [if_pos (by omega)] at this
      rw [← Array.getElem?_toList, this]
      rfl
    refine ⟨g, cap, rfl, hb, blk_lt hg, hl.symm, by rw [cell_blk hg]; exact hcur, frozen_blk hg _, fun z => ⟨by simp; omega, Or.inr ⟨g, cap, cur.setIfInBounds xs.length z, rfl, hb, blk_setCell hg z, hc, hm, by simp; omega, ?_⟩⟩⟩
    rw [Nat.mul_one, Array.toList_setIfInBounds, ← hl]
    have hlt : xs.length < cur.toList.length := by simp; omega
    rw [List.take_set, ]
    rw [← hl] at ht
    rw [ht]
    simp
theorem ul_strs : Tryd.prog.underlying 31 = some (.slice 9) := by kernel_rfl
theorem info_strs : ∃ i z, Tryd.prog.info? 9 = some i ∧ i.zero = some z ∧ i.size = 1 ∧ i.bytes = 16 ∧ z.cells.size = 1 := by
  have h : Tryd.prog.info? 9 = some ((Tryd.prog.info? 9).get (by kernel_rfl)) := (Option.some_get _).symm
  exact ⟨_, .string ⟨#[]⟩, h, by kernel_rfl, by kernel_rfl, by kernel_rfl, by kernel_rfl⟩
theorem src_empty {w : World} : Src (w.alloc (.cells #[.string ⟨#[]⟩] 9)) (.slice (some ⟨w.heap.size, 0, none⟩) 1 1) 1 (wv [[]]) := by
  refine .inr ⟨_, _, rfl, fun j u hj => ?_⟩
  match j, hj with
  | 0, hj => simp [wv] at hj; subst hj; simp [Addr.add]
  | j + 1, hj => simp [wv] at hj
/-- Where Words stands. -/
structure WdS (w : World) (v : Value) (L : List (List UInt8)) (wr : World) : Prop where
  bel : Below w.heap.size w wr
  own : wr.ownsRow w.heap.size 9 1 v L.length (wv L)
set_option maxHeartbeats 2000000 in
theorem rwords_any (s : ByteArray) (hs : s.size ≤ 100000) (w : World) : Calls Tryd.prog 32 #[.string s] w fun e w' => ∃ v, e = .returned v ∧ WdS w v (wds s.data.toList) w' := by
  obtain ⟨i0, z0, hi, hz0, hz1, hz2, hz3⟩ := info_strs
  have hB0 := (Below.refl w.heap.size w).alloc (Nat.le_refl _) (.cells #[.string ⟨#[]⟩] 9)
  have hO0 : (w.alloc (.cells #[.string ⟨#[]⟩] 9)).ownsRow w.heap.size 9 1 (.slice (some ⟨w.heap.size, 0, none⟩) 1 1) 1 (wv [[]]) :=
    ⟨rfl, Or.inr ⟨w.heap.size, 1, _, rfl, Nat.le_refl _, heap_alloc_new w _, Nat.le_refl _, by decide, rfl, rfl⟩⟩
  go_enter Tryd.func32, Tryd.ntmps32
  go_wp2_with fail
  go_loopw [3, 4] (fun u x wr => ∃ i : Nat, x = .int .i64 i ∧ i ≤ s.size ∧ WdS w u (wds (s.data.toList.take i)) wr) (fun _ x _ => s.size - (intOf x).toNat)
  case atStart => exact ⟨0, rfl, Nat.zero_le _, ⟨hB0, hO0⟩⟩
  case round =>
    obtain ⟨i, rfl, hi', st⟩ := hrel
    obtain ⟨D, y, hD⟩ := wds_last (s.data.toList.take i)
    rw [hD] at st
    have HD := Lib.hid hD
    clear hD
    have hdl : D.length + 1 ≤ 100001 := by
      have h1 := wds_le (s.data.toList.take i)
      rw [HD.out] at h1
      have h2 : (s.data.toList.take i).length ≤ i := List.length_take_le _ _
      rw [List.length_append] at h1
      simp only [List.length_cons, List.length_nil] at h1
      omega
    by_cases hlt : i < s.size
    · have HT := Lib.hid (show s.data.toList.take (i + 1) = s.data.toList.take i ++ [s[i]] by
        rw [List.take_succ_eq_append_getElem (by simpa using hlt)]; rfl)
      have HSN := Lib.hid (wds_snoc _ D y HD.out)
      have h0i : (0 : Int) ≤ i := by omega
      have hltI : (i : Int) < s.size := by omega
      by_cases hc : s[i] = 32
      · have d : ((s[i].toNat : Int) == 32) = true := by rw [hc]; rfl
        have HC := Lib.hid hc
        have hown := st.own.alloc (.cells #[.string ⟨#[]⟩] 9)
        have hB := st.bel.alloc st.bel.size (.cells #[.string ⟨#[]⟩] 9)
        have hz := st.bel.size
        clear hc st
        rw [List.length_append, List.length_cons, List.length_nil] at hown
        go_wp2_with (at_builtin; (refine list_append rfl (.tmp 16) (.tmp 17) 31 rfl w.heap.size (by simp; omega) 9 i0 z0 1 16 ul_strs hi hz0 hz1 hz2 hz3 (by decide) _ (D.length + 1) (wv (D ++ [y])) rfl hown _ 1 (wv [[]]) rfl rfl src_empty (wv_one _) (by unfold maxLen; omega) (by omega) ?_); intro ao cap w2 hown' hg hat; have hB2 := below_append hB hown hg (by simp; omega); clear hown hg hat hB)
        go_roundw
        case rel =>
          refine ⟨i + 1, by go_num, by omega, hB2, ?_⟩
          rw [HT.out, HC.out, HSN.out.1]
          rw [List.length_append, List.length_append]
          have : wv (D ++ [y] ++ [[]]) = wv (D ++ [y]) ++ wv [[]] := by simp [wv]
          rw [this]
          exact hown'
        case measure => simp [intOf]; omega
      · have d : ((s[i].toNat : Int) == 32) = false := by
          rw [beq_eq_false_iff_ne]
          intro e
          apply hc
          apply UInt8.toNat_inj.1
          have : (32 : UInt8).toNat = 32 := rfl
          omega
        have HC := Lib.hid hc
        clear hc
        obtain ⟨hB, hown⟩ := st
        rw [wv_snoc] at hown
        obtain ⟨g, cap, rfl, hg, hgl, hn, hcell, hfz, hset⟩ := own_last hown
        rw [wv_length] at hn hcell hfz hset
        have hlen : (D ++ [y]).length = D.length + 1 := by simp
        rw [hlen] at hset ⊢
        have hy : (ByteArray.mk y.toArray).size ≤ 100000 := by
          have h1 := wds_len (s.data.toList.take i) y (by rw [HD.out]; simp)
          have h2 : (s.data.toList.take i).length ≤ i := List.length_take_le _ _
          show y.toArray.size ≤ _
          rw [List.size_toArray]; omega
        obtain ⟨Y, hY⟩ : ∃ Y, Y = ByteArray.mk y.toArray := ⟨_, rfl⟩
        rw [← hY] at hcell hy
        have HY := Lib.hid hY
        clear hY
        have hw1 : IntKind.i64.wrap ((D.length : Int) + 1 - 1) = D.length := by rw [IntWalk.i64_in _ (by omega)]; omega
        have hw2 : IntKind.i64.wrap ((i : Int) + 1) = (i : Int) + 1 := IntWalk.i64_in _ (by omega)
        have hex : (s.extract i (i + 1)).size = 1 := by rw [ByteArray.size_extract]; omega
        have hdI : (D.length : Int) < (D.length : Int) + 1 := by omega
        clear hn hown
        go_upto_region 7 with fail
        go_region
        have HW := Lib.hid (show wds (s.data.toList.take (i + 1)) = D ++ [y ++ [s[i]]] by rw [HT.out]; exact HSN.out.2 _ HC.out)
        have HE := Lib.hid (show Y ++ s.extract i (i + 1) = ⟨(y ++ [s[i]]).toArray⟩ by
          rw [HY.out]
          apply ByteArray.ext
          apply Array.toList_inj.1
          rw [ByteArray.data_append, Array.toList_append, ByteArray.data_extract, Array.toList_extract]
          simp only [List.extract_eq_take_drop]
          rw [show i + 1 - i = 1 by omega, List.drop_eq_getElem_cons (by simpa using hlt)]
          simp
          rfl)
        have hB9 : Below w.heap.size w (wr.setCell ⟨g, D.length, none⟩ (.string (Y ++ s.extract i (i + 1)))).drew := (hB.setCell hg _).drew
        have hset9 := hset (.string (Y ++ s.extract i (i + 1)))
        clear hB hset hcell hfz
        go_wp2_with fail
        go_roundw
        case rel =>
          refine ⟨i + 1, by go_num, by omega, hB9, ?_⟩
          rw [HW.out, List.length_append, wv_snoc, ← HE.out]
          exact hset9
        case measure => simp [intOf]; omega
    · go_wp2_with fail
      go_ret
      refine ⟨u3, rfl, ?_⟩
      rw [← HD.out, List.take_of_length_le (by simp; omega)] at st
      exact st
end Go.Proofs.YtokjkfbbejalhaaDoor
