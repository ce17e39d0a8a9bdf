/-
  Part and Apply, whatever the input: one contract each.
-/
import Derived.Test.YtogmlcgiajigfaaAroA
import Derived.Test.YtogmlcgiajigfaaAroB
set_option linter.unusedVariables false
set_option linter.unusedSimpArgs false
namespace Go.Proofs.Ytogmlcgiajigfaa.Ard
open Go.RowKit K

/-- what Part says -/
def partE (op : ByteArray) (a : List Int) (W H : Int) (pn : Nat) (X Y RW RH : Int) : Int :=
  if checkE op a ≠ 0 then checkE op a else if ¬ GoodP W H pn then 6 else if ¬ WithinP X Y RW RH W H then 2 else 0
/-- the samples of a part -/
def partL (op : ByteArray) (a : List Int) (W H : Int) (pix : List Int) (X Y RW RH : Int) : List Int :=
  match idxF op with
  | some i => (List.range (4 * RW.toNat * RH.toNat)).map (outS i a W.toNat H.toNat pix X.toNat Y.toNat RW.toNat)
  | none => []
/-- an image, or a fault -/
def AnsP (w : World) (W H : Int) (l : List Int) (code : Int) : Ending → World → Prop :=
  if code = 0 then ImgP w W H l 0 else ImgP w 0 0 [] code
theorem nat_of {W H : Int} {pn : Nat} (h : GoodP W H pn) : ∃ w h' : Nat, W = w ∧ H = h' := by
  obtain ⟨h1, -⟩ := h
  unfold FitsP at h1
  exact ⟨W.toNat, H.toNat, by omega, by omega⟩
theorem part_any {op : ByteArray} {A : Option Addr} {n c : Nat} {a : List Int} {W H X Y RW RH : Int} {pn pc : Nat} {P : Option Addr} {pix : List Int} (w : World) (HA : SI w .i64 A n a) (HP : SI w .u16 P pn pix) (hwv : ∀ v ∈ pix, 0 ≤ v ∧ v < 65536) (hpc : pn ≤ pc) (hpc2 : pc ≤ 9223372036854775807) :
    Calls Try.prog 22 #[.string op, .slice A n c, .agg #[.int .i64 W, .int .i64 H, .slice P pn pc], .agg #[.int .i64 X, .int .i64 Y, .int .i64 RW, .int .i64 RH]] w (AnsP w RW RH (partL op a W H pix X Y RW RH) (partE op a W H pn X Y RW RH)) := by
  have hbig : pn ≤ 140737488351232 := by have := HP.sz; simp only [kb] at this; omega
  by_cases h0 : checkE op a = 0
  · by_cases hg : GoodP W H pn
    · by_cases hw : WithinP X Y RW RH W H
      · have hE : partE op a W H pn X Y RW RH = 0 := by unfold partE; simp [h0, hg, hw]
        unfold AnsP
        rw [if_pos hE]
        obtain ⟨i, hi, hid, hop, hf⟩ := check_ok h0
        obtain ⟨W, H, rfl, rfl⟩ := nat_of hg
        have hw2 := hw
        unfold WithinP at hw2
        obtain ⟨X, rfl⟩ := Int.eq_ofNat_of_zero_le (show 0 ≤ X by omega)
        obtain ⟨Y, rfl⟩ := Int.eq_ofNat_of_zero_le (show 0 ≤ Y by omega)
        obtain ⟨RW, rfl⟩ := Int.eq_ofNat_of_zero_le (show 0 ≤ RW by omega)
        obtain ⟨RH, rfl⟩ := Int.eq_ofNat_of_zero_le (show 0 ≤ RH by omega)
        have := part_ok (c := c) w HA h0 hid hf HP hwv hpc hpc2 hg hw
        unfold partL
        rw [hid]
        simpa using this
      · have hE : partE op a W H pn X Y RW RH = 2 := by unfold partE; simp [h0, hg, hw]
        unfold AnsP
        rw [hE, if_neg (by omega)]
        exact part_bad2 w HA h0 (by omega) fun V => crop_out V hbig hg hw
    · have hE : partE op a W H pn X Y RW RH = 6 := by unfold partE; simp [h0, hg]
      unfold AnsP
      rw [hE, if_neg (by omega)]
      exact part_bad2 w HA h0 (by omega) fun V => crop_bad V hbig hg
  · have hE : partE op a W H pn X Y RW RH = checkE op a := by unfold partE; simp [h0]
    unfold AnsP
    rw [hE, if_neg h0]
    exact part_bad1 w HA h0
theorem apply_any {op : ByteArray} {A : Option Addr} {n c : Nat} {a : List Int} {W H : Int} {pn pc : Nat} {P : Option Addr} {pix : List Int} (w : World) (HA : SI w .i64 A n a) (HP : SI w .u16 P pn pix) (hwv : ∀ v ∈ pix, 0 ≤ v ∧ v < 65536) (hpc : pn ≤ pc) (hpc2 : pc ≤ 9223372036854775807) :
    Calls Try.prog 18 #[.string op, .slice A n c, .agg #[.int .i64 W, .int .i64 H, .slice P pn pc]] w (AnsP w W H (partL op a W H pix 0 0 W H) (partE op a W H pn 0 0 W H)) := by
  have h := fun (V : World) (hV : Below w.heap.size w V) => part_any (op := op) (c := c) (a := a) (W := W) (H := H) (X := 0) (Y := 0) (RW := W) (RH := H) (pc := pc) V (HA.below hV (Nat.le_refl _)) (HP.below hV (Nat.le_refl _)) hwv hpc hpc2
  unfold AnsP at h ⊢
  by_cases h0 : partE op a W H pn 0 0 W H = 0
  · rw [if_pos h0]
    exact apply_of w fun V hV => by have := h V hV; rwa [if_pos h0] at this
  · rw [if_neg h0]
    exact apply_of w fun V hV => by have := h V hV; rwa [if_neg h0] at this
end Go.Proofs.Ytogmlcgiajigfaa.Ard
