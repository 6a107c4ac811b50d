/- Contract of the reference's Read (layer 11). No condition but those that it names. -/
import Derived.Test.YtghfkpddkmaflaaDoorKb
import Derived.Test.YtghfkpddkmaflaaDoorIz
namespace Go.Proofs.YtghfkpddkmaflaaDoor
open Go Go.RowKit
set_option linter.unusedVariables false
set_option linter.unusedSimpArgs false
set_option maxRecDepth 20000
theorem own_zero (w : World) (t : TypeId) (n : Nat) : (w.alloc (.cells #[] t)).ownsRow w.heap.size t n (.slice (some ⟨w.heap.size, 0, none⟩) 0 0) 0 [] :=
  ⟨by simp, Or.inr ⟨w.heap.size, 0, _, rfl, Nat.le_refl _, heap_alloc_new w _, Nat.le_refl _, Nat.zero_le _, by simp, by simp⟩⟩
theorem tx_push (s : ByteArray) (cur : List UInt8) (k : Nat) (hk : k < s.size) (X : ByteArray) (hX : X = txB cur) : X ++ s.extract k (k + 1) = txB (cur ++ [s[k]]) := by
  rw [hX]
  apply ByteArray.ext
  apply Array.toList_inj.1
  rw [ByteArray.data_append, Array.toList_append, ByteArray.data_extract, Array.toList_extract]
  simp only [List.extract_eq_take_drop]
  rw [show k + 1 - k = 1 by omega, List.drop_eq_getElem_cons (by simpa using hk)]
  simp [txB]
  rfl
set_option maxHeartbeats 4000000 in
theorem rread_any (s : ByteArray) (hs : s.size ≤ 90000) (w : World) : Calls Tryd.prog 16 #[.string s] w (LReadPost w (rdT s.data.toList)) := by
  obtain ⟨i0, hi, hz0, hz1, hz2⟩ := ins_info
  obtain ⟨R, hR⟩ : ∃ R, R = rdT s.data.toList := ⟨_, rfl⟩
  have HR := Lib.hid (show Rel R s.data.toList [] by
    unfold Rel
    rw [hR]
    show rdT s.data.toList = if (rdT s.data.toList).2.2 = 0 then ([] ++ (rdT s.data.toList).1, 0, 0) else rdT s.data.toList
    by_cases h : (rdT s.data.toList).2.2 = 0
    · rw [if_pos h, List.nil_append]
      have := rdP_at _ _ _ h
      show rdT s.data.toList = ((rdT s.data.toList).1, 0, 0)
      exact Prod.ext rfl (Prod.ext this h)
    · rw [if_neg h])
  rw [← hR]
  clear hR
  have hB0 := (Below.refl w.heap.size w).alloc (Nat.le_refl _) (.cells #[] 24)
  have hO0 := own_zero w 24 6
  go_enter Tryd.func16, Tryd.ntmps16
  go_wp2_with fail
  go_loopw [5, 6, 7, 8, 9] (fun u ln a o kv wr => ∃ (k : Nat) (l : List Ins) (cur : List UInt8) (b : Bool), kv = .int .i64 k ∧ ln = .string (txB cur) ∧ a = .int .i64 ((l.length : Nat) + 1) ∧ o = .bool b ∧ k ≤ s.size ∧ l.length ≤ 256 ∧ cur.length ≤ k ∧ Hid ((b = true ↔ cur ≠ []) ∧ (∀ c ∈ cur, c ≠ (10 : UInt8)) ∧ Rel R (cur ++ s.data.toList.drop k) l) ∧ wr.ownsRow w.heap.size 24 6 u l.length (insCells l) ∧ Below w.heap.size w wr) (fun _ _ _ _ kv _ => s.size + 1 - (intOf kv).toNat)
  case atStart => exact ⟨0, [], [], false, rfl, rfl, rfl, rfl, Nat.zero_le _, by decide, Nat.zero_le _, Lib.hid ⟨by simp, (fun c hc => by cases hc), HR.out⟩, hO0, hB0⟩
  case round =>
    clear HR hB0 hO0
    obtain ⟨k, l, cur, b, rfl, rfl, rfl, rfl, hk, hl, hcl, HC, hown, hB⟩ := hrel
    obtain ⟨len, hlen⟩ : ∃ n, n = l.length := ⟨_, rfl⟩
    have HLEN := Lib.hid hlen
    rw [← hlen] at hl hown ⊢
    clear hlen
    have hkI : (k : Int) ≤ s.size := by omega
    have hXz := txB_size cur
    obtain ⟨X, hX⟩ : ∃ X, X = txB cur := ⟨_, rfl⟩
    rw [← hX] at hXz ⊢
    have hXs : X.size ≤ 90000 := by omega
    have HX := Lib.hid hX
    clear hX hXz
    have hw9 : IntKind.i64.wrap ((len : Int) + 1 + 1) = (len : Int) + 1 + 1 := IntWalk.i64_in _ (by omega)
    by_cases hend : k = s.size
    · have de : ((k : Int) == s.size) = true := by rw [hend]; simp
      have HT := Lib.hid (show cur ++ s.data.toList.drop k = cur by rw [List.drop_eq_nil_of_le (by rw [hend]; simp), List.append_nil])
      clear hend
      cases b
      · have HQ := Lib.hid (show R = (l, 0, 0) by
          have h0 : cur = [] := by
            by_cases h : cur = []
            · exact h
            · exact absurd (HC.out.1.2 h) (by decide)
          have := HC.out.2.2
          rw [HT.out, h0] at this
          exact this.done)
        obtain ⟨ao, cap, rfl⟩ := owns_form hown
        go_wp2_with fail
        go_ret3
        rw [HQ.out]
        exact ⟨ao, cap, by rw [← HLEN.out]; rfl, by rw [← HLEN.out]; exact hown, hB⟩
      · have hc0 := Lib.hid (HC.out.1.1 rfl)
        by_cases hn : 256 < len + 1
        · have HQ := Lib.hid (show R = ([], l.length + 1, 4) by
            have := HC.out.2.2
            rw [HT.out] at this
            exact this.long hc0.out (by rw [← HLEN.out]; exact hn))
          have hnI : (256 : Int) < (len : Int) + 1 := by omega
          clear hn
          go_wp2_with fail
          go_ret3
          exact lread_bad (n := len + 1) (by rw [HLEN.out]; exact HQ.out) hB
        · have HQ := Lib.hid (show R = ([], l.length + 1, 3) by
            have := HC.out.2.2
            rw [HT.out] at this
            exact this.open hc0.out HC.out.2.1 (by rw [← HLEN.out]; exact hn))
          have hnI : ¬ (256 : Int) < (len : Int) + 1 := by omega
          clear hn
          go_wp2_with fail
          go_ret3
          exact lread_bad (n := len + 1) (by rw [HLEN.out]; exact HQ.out) hB
    · have hlt : k < s.size := by omega
      have hltI : (k : Int) < s.size := by omega
      have h0k : (0 : Int) ≤ k := by omega
      have de : ((k : Int) == s.size) = false := by rw [beq_eq_false_iff_ne]; omega
      have HD := Lib.hid (show s.data.toList.drop k = s[k] :: s.data.toList.drop (k + 1) from List.drop_eq_getElem_cons (l := s.data.toList) (i := k) (by simpa using hlt))
      clear hend
      by_cases hn : 256 < len + 1
      · have HQ := Lib.hid (HC.out.2.2.long (by rw [HD.out]; simp) (by rw [← HLEN.out]; exact hn))
        have hnI : (256 : Int) < (len : Int) + 1 := by omega
        clear hn
        go_wp2_with fail
        go_ret3
        exact lread_bad (n := len + 1) (by rw [HLEN.out]; exact HQ.out) hB
      · have hnI : ¬ (256 : Int) < (len : Int) + 1 := by omega
        have HNL := Lib.hid hn
        by_cases hc : s[k] = 10
        · have d : ((s[k].toNat : Int) != 10) = false := by rw [hc]; rfl
          have HRL := Lib.hid (show Rel R (cur ++ 10 :: s.data.toList.drop (k + 1)) l by have := HC.out.2.2; rw [HD.out, hc] at this; exact this)
          have HNEXT := Lib.hid (fun h => HRL.out.next HC.out.2.1 (by rw [← HLEN.out]; exact HNL.out) h)
          have HBAD := Lib.hid (fun h => HRL.out.bad HC.out.2.1 (by rw [← HLEN.out]; exact HNL.out) h)
          clear hc hn HRL
          have hpx := fun w => rparse_any X (by omega) w
          have ex : X.data.toList = cur := by rw [HX.out]; simp [txB]
          rw [ex] at hpx
          clear ex
          obtain ⟨I, hI⟩ : ∃ I, I = (ins cur).1 := ⟨_, rfl⟩
          obtain ⟨ck, hck⟩ : ∃ ck, ck = (ins cur).2 := ⟨_, rfl⟩
          have HN2 := Lib.hid (show ck = 0 → Rel R (s.data.toList.drop (k + 1)) (l ++ [I]) by rw [hck, hI]; exact HNEXT.out)
          have HB2 := Lib.hid (show ck ≠ 0 → R = ([], l.length + 1, ck) by rw [hck]; exact HBAD.out)
          unfold LParsePost at hpx
          rw [← hI, ← hck] at hpx
          clear hI hck HNEXT HBAD
          go_wp2_with fail
          refine (hpx _).mono ?_
          rintro e w2 ⟨rfl, hkk⟩
          have hB2 := bel_next hB hkk
          have hown2 := own_below hown hkk
          clear hB hown hkk hpx
          unfold Ins.val
          have hI5 : (w2.alloc (.cells #[.int .i64 I.o, .int .i64 I.a, .int .i64 I.b, .int .i64 I.c, .int .i64 I.d, .int .u32 I.k] 24)).heap[w2.heap.size]? = some (.cells I.cells.toArray 24 (0, 0)) := heap_alloc_new w2 _
          have hB3 := hB2.alloc hB2.size (.cells #[.int .i64 I.o, .int .i64 I.a, .int .i64 I.b, .int .i64 I.c, .int .i64 I.d, .int .u32 I.k] 24)
          have hown3 := hown2.alloc (.cells #[.int .i64 I.o, .int .i64 I.a, .int .i64 I.b, .int .i64 I.c, .int .i64 I.d, .int .u32 I.k] 24)
          go_upto_region 18 with fail
          generalize w2.alloc (.cells #[.int .i64 I.o, .int .i64 I.a, .int .i64 I.b, .int .i64 I.c, .int .i64 I.d, .int .u32 I.k] 24) = w3 at hI5 hB3 hown3 ⊢
          generalize w2.heap.size = bx at hI5 ⊢
          clear hB2 hown2
          by_cases h0 : ck = 0
          · have HRL := Lib.hid (HN2.out h0)
            have d0 : (ck != 0) = false := by rw [h0]; rfl
            clear h0 HN2 HB2
            obtain ⟨c0, c1, c2, c3, c4, c5⟩ := ins_cells hI5
            have hzs := hB3.size
            have hownB := hown3.alloc (.cells I.cells.toArray 24)
            have hBB := hB3.alloc hB3.size (.cells I.cells.toArray 24)
            go_wp2_with (at_builtin; (refine list_append rfl (.tmp 54) (.tmp 56) 36 rfl w.heap.size (by simp; omega) 24 i0 _ 6 48 ul_ins hi hz0 hz1 hz2 rfl (by decide) _ len (insCells l) rfl hownB _ 1 I.cells rfl rfl (src_ins _ I) (ins_one I) (by unfold maxLen; omega) (by omega) ?_); intro ao cap w6 hown' hg hat; have hBz := below_append hBB hownB hg (by simp; omega); clear hownB hg hat hBB)
            go_roundw
            case rel => exact ⟨k + 1, l ++ [I], [], false, by go_num, rfl, by rw [List.length_append, ← HLEN.out]; simp, rfl, by omega, by rw [List.length_append, ← HLEN.out]; simp; omega, Nat.zero_le _, Lib.hid ⟨by simp, (fun c hc => by cases hc), HRL.out⟩, by rw [List.length_append, ← HLEN.out, insCells_snoc]; exact hown', hBz⟩
            case measure => simp [intOf]; omega
          · have HQ := Lib.hid (HB2.out h0)
            have d0 : (ck != 0) = true := by rw [bne_iff_ne]; exact h0
            clear h0
            go_wp2_with fail
            go_ret3
            exact lread_bad (n := len + 1) (by rw [HLEN.out]; exact HQ.out) hB3
        · have d : ((s[k].toNat : Int) != 10) = true := by
            rw [bne_iff_ne]
            intro e
            apply hc
            apply UInt8.toNat_inj.1
            have : (10 : UInt8).toNat = 10 := rfl
            omega
          have hsz1 : (s.extract k (k + 1)).size = 1 := by rw [ByteArray.size_extract]; omega
          have HP := Lib.hid (tx_push s cur k hlt X HX.out)
          have HRL := Lib.hid (show ((true : Bool) = true ↔ cur ++ [s[k]] ≠ []) ∧ (∀ c ∈ cur ++ [s[k]], c ≠ (10 : UInt8)) ∧ Rel R ((cur ++ [s[k]]) ++ s.data.toList.drop (k + 1)) l by
            refine ⟨by simp, fun c h => ?_, ?_⟩
            · rcases List.mem_append.1 h with h | h
              · exact HC.out.2.1 c h
              · rw [List.mem_singleton.1 h]; exact hc
            · have := HC.out.2.2
              rw [HD.out] at this
              rw [List.append_assoc]
              exact this)
          clear hc hn
          go_wp2_with fail
          go_roundw
          case rel => exact ⟨k + 1, l, cur ++ [s[k]], true, by go_num, by rw [← HP.out], by rw [← HLEN.out], rfl, by omega, by rw [← HLEN.out]; exact hl, by rw [List.length_append]; simp; omega, HRL, by rw [← HLEN.out]; exact hown, hB⟩
          case measure => simp [intOf]; omega
end Go.Proofs.YtghfkpddkmaflaaDoor
