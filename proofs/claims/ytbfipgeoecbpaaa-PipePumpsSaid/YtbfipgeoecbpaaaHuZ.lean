/- A hunter by all that it was fed. No condition but those that each names. -/
import Derived.Test.YtbfipgeoecbpaaaHuF
import Derived.Test.YtbfipgeoecbpaaaHuX
namespace Go.Proofs.Ytbfipgeoecbpaaa
open Go.RowKit
set_option linter.unusedVariables false
set_option linter.unusedSimpArgs false
set_option maxRecDepth 20000
/-- Block b is a hunter that was fed T and stands as G says. -/
structure Fed (w : World) (b tb : Nat) (T : ByteArray) (G : HS) (cl : Bool) : Prop where
  hu : IsHu w b tb (T.extract G.p T.size) G.nx G.sk G.lo cl
  ok : G.Ok T
  sk : G.sk ≤ G.p
theorem Fed.below {w w' : World} {b tb : Nat} {T : ByteArray} {G : HS} {cl : Bool} (h : Fed w b tb T G cl) (k : Below w.heap.size w w') : Fed w' b tb T G cl := { h with hu := h.hu.below k }
theorem Fed.only {S : Nat → Prop} {w w' : World} {b tb : Nat} {T : ByteArray} {G : HS} {cl : Bool} (h : Fed w b tb T G cl) (o : Only S w w') (hn : ¬ S b) : Fed w' b tb T G cl := { h with hu := o.keeps h.hu hn }
def hs0 : HS := ⟨[], 0, 0, 0, 0⟩
theorem Fed.new {w : World} {b tb : Nat} (h : IsHu w b tb ⟨#[]⟩ 0 0 0 false) : Fed w b tb ⟨#[]⟩ hs0 false :=
  ⟨h, ⟨Nat.zero_le _, by decide, Nat.le_refl _⟩, Nat.le_refl _⟩
theorem hsk_fin {X : ByteArray} {cl : Bool} {S : HS} (h : S.sk ≤ S.p) : (hfin X cl S).sk ≤ (hfin X cl S).p := by
  refine hfin_ind (Q := fun T => T.sk ≤ T.p) ?_ S h
  intro T hT hs
  have hp := (hstop_no hs).1
  have h1 := (hnext_p hp).1
  have : (hnext X T).sk ≤ T.sk + 1 := by
    unfold hnext
    split
    · exact Nat.le_refl _
    · exact Nat.le_succ _
  omega
/-- What Feed, Close answer of a hunter that stood as G says and stands as R says. -/
def FedPost (w : World) (b tb : Nat) (T : ByteArray) (G R : HS) (cl : Bool) (x : Ending) (w' : World) : Prop :=
  ∃ ao cap its, x = .returned (.slice ao its.length cap) ∧ R.its = G.its ++ its.map Itm.p ∧ ItIn w' w.heap.size (.slice ao its.length cap) its ∧ Fed w' b tb T R cl ∧ Only (fun k => k = b) w w'
theorem fed_post {w w' : World} {b tb : Nat} {T Y : ByteArray} {G : HS} {cl : Bool} {x : Ending} (hY : Y = T.extract G.p T.size) (hok : G.Ok T) (hsk : G.sk ≤ G.p) (h : HuPost w b tb Y cl (hfin Y cl ⟨[], 0, G.nx, G.sk, G.lo⟩) x w') : FedPost w b tb T G (hfin T cl G) cl x w' := by
  subst hY
  obtain ⟨ao, cap, its, rfl, h1, h2, h3, h4⟩ := h
  have e := hfin_part T cl G hok.p
  have hR := hok.fin (cl := cl)
  have hR2 := hsk_fin (X := T) (cl := cl) hsk
  have hq : (hfin (T.extract G.p T.size) cl ⟨[], 0, G.nx, G.sk, G.lo⟩).p ≤ (T.extract G.p T.size).size := (HS.Ok.fin (S := ⟨[], 0, G.nx, G.sk, G.lo⟩) ⟨Nat.zero_le _, hok.nx, hok.lo⟩).p
  rw [ext_ext hok.p hq] at h3
  generalize hfin (T.extract G.p T.size) cl ⟨[], 0, G.nx, G.sk, G.lo⟩ = Q at *
  rw [e] at hR hR2 ⊢
  exact ⟨ao, cap, its, rfl, by rw [h1]; rfl, h2, ⟨h3, hR, hR2⟩, h4⟩
theorem feed_abs {w : World} {b tb : Nat} {T : ByteArray} {G : HS} (h : Fed w b tb T G false) (s : ByteArray) (hT : IsTab w tb) (hne : tb ≠ b) (hs : T.size + s.size ≤ 1000000000) :
    Calls Try.prog 33 #[.pointer (some ⟨b, 0, none⟩), .string s] w (FedPost w b tb (T ++ s) G (hfin (T ++ s) false G) false) := by
  have hp := h.ok.p
  have hz : (T.extract G.p T.size).size = T.size - G.p := by rw [ByteArray.size_extract]; omega
  have hz2 : (T ++ s).size = T.size + s.size := ByteArray.size_append
  refine (feed_any w b tb _ s _ _ _ h.hu hT hne (by omega) (by have := h.sk; omega) h.ok.nx h.ok.lo).mono ?_
  intro x w' hx
  exact fed_post (ext_app hp) ⟨by omega, h.ok.nx, h.ok.lo⟩ h.sk hx
theorem close_abs {w : World} {b tb : Nat} {T : ByteArray} {G : HS} (h : Fed w b tb T G false) (hT : IsTab w tb) (hne : tb ≠ b) (hs : T.size ≤ 1000000000) :
    Calls Try.prog 34 #[.pointer (some ⟨b, 0, none⟩)] w (FedPost w b tb T G (hfin T true G) true) := by
  have hp := h.ok.p
  have hz : (T.extract G.p T.size).size = T.size - G.p := by rw [ByteArray.size_extract]; omega
  refine (hclose_any w b tb _ _ _ _ h.hu hT hne (by omega) (by have := h.sk; omega) h.ok.nx h.ok.lo).mono ?_
  intro x w' hx
  exact fed_post rfl h.ok h.sk hx
end Go.Proofs.Ytbfipgeoecbpaaa
