/-
  Walks: the law ScriptJoins. (Printed by gen_bkc.py.)
-/
import Derived.Test.YtoofgblmpjndjaaGreatDoorZG21
import Derived.Deep.CutBlock
import Derived.Deep.DeepCutAuto
set_option linter.unusedVariables false
set_option linter.unusedSimpArgs false
namespace Go.Proofs.YtoofgblmpjndjaaGreatDoor.Scr
open Go.RowKit K Go.Lib Go.Shelf

theorem TS.first {w : World} {A : Option Addr} {n m : Nat} {x y : List (Int × St)} (h : TS w A n (x ++ y)) (hm : m = x.length) : TS w A m x := by
  subst hm
  refine ⟨rfl, ?_, fun i p hp => h.at' i p ?_⟩
  · have h1 := h.len
    have h2 := h.sz
    rw [List.length_append] at h1
    omega
  · rw [List.getElem?_append_left (List.getElem?_eq_some_iff.1 hp).1]
    exact hp
theorem run_uptoG {P : Program} {t e : TypeId} {z : Nat} (ht : P.underlying t = some (.slice e)) (hz : (P.info? e).map (·.size) = some z) {A : Option Addr} {n c m : Nat} {i : Int} (hi : i = m) (hm : m ≤ c) (w : World) :
    (Instr.sliceAt t (.slice A n c) none (some (.int .i64 i)) none).run P w = .ok (.slice A m c) w := by
  subst hi
  have he : P.elem t = e := by unfold Program.elem; rw [ht]
  have ht' : P.underlying t = some (.slice (P.elem t)) := by rw [he]; exact ht
  have hs : ∀ w, (sizeOf (P.elem t)).run P w = .ok z w := fun w => by
    rw [he]
    obtain ⟨i, hi, hz1⟩ := Option.map_eq_some_iff.1 hz
    simp [sizeOf, typeInfo, hi, hz1]
  rw [run_sliceAt_slice _ _ _ _ _ _ ht', run_slice_h _ _ _ _ _ ht' .i64 (m : Int) (by omega) (by omega), hs]
  cases A <;> simp [Result.andThen, sliced, Addr.add]
theorem TO.cap {w : World} {base n c : Nat} {A : Option Addr} {R : List SRow} (h : TO w base (.slice A n c) n R) : n ≤ c := own_cap h.1
def allT (a r b : Tx) : Tx := a ++ ([10, 32, 9, 35, 32] ++ (r ++ ([10, 10] ++ b)))
theorem ba_all (a r b : Tx) : ba a ++ (⟨#[10, 32, 9, 35, 32]⟩ : ByteArray) ++ ba r ++ (⟨#[10, 10]⟩ : ByteArray) ++ ba b = ba (allT a r b) := by
  unfold allT
  rw [show a ++ ([10, 32, 9, 35, 32] ++ (r ++ ([10, 10] ++ b))) = (((a ++ [10, 32, 9, 35, 32]) ++ r) ++ [10, 10]) ++ b by simp, ba_app, ba_app, ba_app, ba_app]
  rfl
set_option maxRecDepth 20000 in
set_option maxHeartbeats 16000000 in
theorem joins_err {a b : Tx} {rm : ByteArray} (w : World) (HV : Vars w) (ha : a.length ≤ 140737488351232) (hb : b.length ≤ 140737488351232) (hm : rm.size ≤ 140737488351232) {line er : Int} (hr : parseM a = .err line er) :
    Calls Tryz.prog 5 #[.string (ba a), .string (ba b), .string rm] w fun e w' => e = .returned (.bool true) ∧ Below w.heap.size w w' := by
  obtain ⟨V0, hV0⟩ : ∃ x, w = x := ⟨_, rfl⟩
  suffices hsuf : Calls Tryz.prog 5 #[.string (ba a), .string (ba b), .string rm] V0 fun e w' => e = .returned (.bool true) ∧ Below w.heap.size w w' by rw [hV0] at hsuf ⊢; exact hsuf
  have HB0 : Hid (Below w.heap.size w V0) := by rw [← hV0]; exact Below.refl _ _
  have HV0 : Hid (Vars V0) := by rw [← hV0]; exact HV
  have HW0 := Lib.hid hV0
  have HLA := Lib.hid ha
  have HLB := Lib.hid hb
  have HLM := Lib.hid hm
  have HP1 : Hid (∀ V, MaxG V → Calls Tryz.prog 9 #[.string (ba a)] V (ParseP V (.err line er))) := fun V h => by have := parse_any (t := a) V h; rw [hr] at this; exact this
  have her := parse_err hr
  have q1 : decide (er = 0) = false := decide_eq_false her
  have q2 : (er == 0) = false := beq_eq_false_iff_ne.2 her
  have q3 : (er != 0) = true := by simpa using her
  clear her
  obtain ⟨za, hza⟩ : ∃ z, ba a = z := ⟨_, rfl⟩
  obtain ⟨zb, hzb⟩ : ∃ z, ba b = z := ⟨_, rfl⟩
  have HZA := Lib.hid hza
  have HZB := Lib.hid hzb
  rw [hza] at HP1
  rw [hza, hzb]
  clear hza hzb hr ha hb hm HV hV0
  go_enter Tryz.func5, Tryz.ntmps5
  go_wp2_with (first | (go_at_call 8; refine (wakes_any V0 HV0.out).mono ?_; rintro e V1 ⟨rfl, hb⟩; (have HB1 := Lib.hid (HB0.out.trans (hb.mono HB0.out.size))); (have HV1 := Lib.hid (HV0.out.below hb (Nat.le_refl _))); clear HB0 HV0; clear hb) | (go_at_call 9; refine (HP1.out V1 HV1.out.maxG).mono ?_; rintro e V2 ⟨hb, he⟩; (try (simp only at he)); subst he; (have HB2 := Lib.hid (HB1.out.trans (hb.mono HB1.out.size))); (have HV2 := Lib.hid (HV1.out.below hb (Nat.le_refl _))); clear HB1 HV1; clear hb HP1) | fail)
  obtain ⟨m, hmm⟩ : ∃ m, rm.size = m := ⟨_, rfl⟩
  have HMM := Lib.hid hmm
  have HM2 : Hid (m ≤ 140737488351232) := by show _ ≤ _; rw [← HMM.out]; exact HLM.out
  go_loopw [10, 11] (fun s10 s11 wx => ∃ (i : Nat) (r : Tx), (i ≤ m ∧ i ≤ 30) ∧ s10 = .string (ba r) ∧ s11 = .int .i64 (i : Int) ∧ Hid (r.length ≤ i ∧ ∀ c ∈ r, c ≠ 10) ∧ V2 = wx) (fun _ s11 _ => 30 - (intOf s11).toNat)
  case atStart => exact ⟨0, [], by omega, rfl, rfl, ⟨Nat.le_refl _, fun c hc => by cases hc⟩, rfl⟩
  case round =>
    obtain ⟨i, r, hi, rfl, rfl, HR, rfl⟩ := hrel
    have HI := Lib.hid hi
    obtain ⟨zk, hzk⟩ : ∃ z, ba r = z := ⟨_, rfl⟩
    have HZK := Lib.hid hzk
    have HZL : Hid (zk.size = r.length) := by show _ = _; rw [← hzk]; rfl
    rw [hzk]
    clear hzk hi
    by_cases hlt : i < m ∧ i < 30
    · have HLT := Lib.hid hlt
      have d0 : decide ((i : Int) < (m : Int)) = true := decide_eq_true (by omega)
      have e0 : decide (i < m) = true := decide_eq_true hlt.1
      have d1 : decide ((i : Int) < 30) = true := decide_eq_true (by omega)
      have e1 : decide (i < 30) = true := decide_eq_true hlt.2
      have l0 : (i : Int) < m := by omega
      have z0 : (0 : Int) ≤ i := by omega
      obtain ⟨c, hc, hcl⟩ := byte_at (s := rm) (k := i) (by rw [HMM.out]; exact HLT.out.1)
      obtain ⟨k1, hk1⟩ : ∃ x : Nat, i + 1 = x := ⟨_, rfl⟩
      have u1 : wrap64 ((i : Int) + 1) = (k1 : Int) := by rw [IntWalk.wrap64_in _ (by have := HM2.out; omega)]; omega
      have u2 : IntKind.i64.wrap ((i : Int) + 1) = (k1 : Int) := by rw [IntKind.wrap_i64]; have := HM2.out; omega
      have j0 : (i : Int) ≤ (k1 : Int) := by omega
      have j1 : (k1 : Int) ≤ (m : Int) := by omega
      have HX : Hid (rm.extract i k1 = ba [c]) := by
        show _ = _
        have h1 := ext_listB rm i k1
        rw [show k1 - i = 1 by omega, show (rm.data.toList.drop i).take 1 = [c] by
          rw [drop_at hcl]; rfl] at h1
        rw [← h1, ba_of]
      obtain ⟨zc, hzc⟩ : ∃ z, ba [c] = z := ⟨_, rfl⟩
      have HZC := Lib.hid hzc
      have HZ1 : Hid (zc.size = 1) := by show _ = _; rw [← hzc]; rfl
      have hx : rm.extract i k1 = zc := HX.out.trans hzc
      have y1 : zk.size + zc.size ≤ 9223372036854775807 := by rw [HZ1.out, HZL.out]; have := HR.out.1; omega
      have HK1 : Hid (k1 = i + 1) := by show _ = _; omega
      clear hzc hcl hk1 hlt
      by_cases h10 : c = 10
      · have q1 : ((c.toNat : Nat) : Int) = 10 := by rw [h10]; rfl
        have p1 : (((c.toNat : Nat) : Int) == 10) = true := by rw [q1]; rfl
        have r1 : (((c.toNat : Nat) : Int) != 10) = false := by rw [q1]; rfl
        clear h10 q1
        go_wp2_with fail
        go_roundw
        case rel => exact ⟨k1, r, by have := HK1.out; have := HLT.out; omega, by rw [HZK.out], rfl, ⟨by have := HK1.out; have := HR.out.1; omega, HR.out.2⟩, by first | rfl | trivial⟩
        case measure => show 30 - (k1 : Int).toNat < 30 - (i : Int).toNat; have := HK1.out; have := HLT.out; simp only [Int.toNat_natCast]; omega
      · have p1 : (((c.toNat : Nat) : Int) == 10) = false := beq_eq_false_iff_ne.2 (neq_nat (n := 10) (by decide) h10)
        have r1 : (((c.toNat : Nat) : Int) != 10) = true := by simp; exact neq_nat (n := 10) (by decide) h10
        have H10 := Lib.hid h10
        clear h10
        go_wp2_with fail
        go_roundw
        case rel => exact ⟨k1, r ++ [c], by have := HK1.out; have := HLT.out; omega, by rw [ba_app, HZK.out, HZC.out], rfl, ⟨by have := HK1.out; have := HR.out.1; rw [List.length_append]; simp; omega, fun x hx => by
          rcases List.mem_append.1 hx with h | h
          · exact HR.out.2 x h
          · rw [List.mem_singleton.1 h]; exact H10.out⟩, by first | rfl | trivial⟩
        case measure => show 30 - (k1 : Int).toNat < 30 - (i : Int).toNat; have := HK1.out; have := HLT.out; simp only [Int.toNat_natCast]; omega
    · have HRL : Hid (zk.size ≤ 30) := by show _ ≤ _; rw [HZL.out]; have := HR.out.1; have := HI.out; omega
      have HAS : Hid (za.size ≤ 140737488351232) := by show _ ≤ _; rw [← HZA.out]; exact HLA.out
      have HBS : Hid (zb.size ≤ 140737488351232) := by show _ ≤ _; rw [← HZB.out]; exact HLB.out
      have y1 : za.size + 5 ≤ 9223372036854775807 := by have := HAS.out; omega
      have y2 : za.size + 5 + zk.size ≤ 9223372036854775807 := by have := HAS.out; have := HRL.out; omega
      have y3 : za.size + 5 + zk.size + 2 ≤ 9223372036854775807 := by have := HAS.out; have := HRL.out; omega
      have y4 : za.size + 5 + zk.size + 2 + zb.size ≤ 9223372036854775807 := by have := HAS.out; have := HRL.out; have := HBS.out; omega
      by_cases h1 : i < m
      · have d0 : decide ((i : Int) < (m : Int)) = true := decide_eq_true (by omega)
        have e0 : decide (i < m) = true := decide_eq_true h1
        have d1 : decide ((i : Int) < 30) = false := decide_eq_false (by omega)
        have e1 : decide (i < 30) = false := decide_eq_false (by omega)
        clear h1 hlt
        go_wp2_with fail
        go_ret
        exact ⟨rfl, HB2.out⟩
      · have d0 : decide ((i : Int) < (m : Int)) = false := decide_eq_false (by omega)
        have e0 : decide (i < m) = false := decide_eq_false h1
        clear h1 hlt
        go_wp2_with fail
        go_ret
        exact ⟨rfl, HB2.out⟩
set_option maxRecDepth 20000 in
set_option maxHeartbeats 32000000 in
theorem joins_ok {a b : Tx} {rm : ByteArray} (w : World) (HV : Vars w) (ha : a.length ≤ 140737488351232) (hb : b.length ≤ 140737488351232) (hm : rm.size ≤ 140737488351232) {x : List (Int × St)} (hr : parseM a = .ok x) :
    Calls Tryz.prog 5 #[.string (ba a), .string (ba b), .string rm] w fun e w' => e = .returned (.bool true) ∧ Below w.heap.size w w' := by
  obtain ⟨V0, hV0⟩ : ∃ x, w = x := ⟨_, rfl⟩
  suffices hsuf : Calls Tryz.prog 5 #[.string (ba a), .string (ba b), .string rm] V0 fun e w' => e = .returned (.bool true) ∧ Below w.heap.size w w' by rw [hV0] at hsuf ⊢; exact hsuf
  have HB0 : Hid (Below w.heap.size w V0) := by rw [← hV0]; exact Below.refl _ _
  have HV0 : Hid (Vars V0) := by rw [← hV0]; exact HV
  have HW0 := Lib.hid hV0
  have HLA := Lib.hid ha
  have HLB := Lib.hid hb
  have HLM := Lib.hid hm
  have HP1 : Hid (∀ V, MaxG V → Calls Tryz.prog 9 #[.string (ba a)] V (ParseP V (.ok x))) := fun V h => by have := parse_any (t := a) V h; rw [hr] at this; exact this
  have HP1F := Lib.hid hr
  obtain ⟨za, hza⟩ : ∃ z, ba a = z := ⟨_, rfl⟩
  obtain ⟨zb, hzb⟩ : ∃ z, ba b = z := ⟨_, rfl⟩
  have HZA := Lib.hid hza
  have HZB := Lib.hid hzb
  rw [hza] at HP1
  rw [hza, hzb]
  clear hza hzb hr ha hb hm HV hV0
  go_enter Tryz.func5, Tryz.ntmps5
  go_wp2_with (first | (go_at_call 8; refine (wakes_any V0 HV0.out).mono ?_; rintro e V1 ⟨rfl, hb⟩; (have HB1 := Lib.hid (HB0.out.trans (hb.mono HB0.out.size))); (have HV1 := Lib.hid (HV0.out.below hb (Nat.le_refl _))); clear HB0 HV0; clear hb) | (go_at_call 9; refine (HP1.out V1 HV1.out.maxG).mono ?_; rintro e V2 ⟨hb, he⟩; (try (simp only at he)); obtain ⟨AX, nX, cX, RX, rfl, hto, hrp⟩ := he; (have HB2 := Lib.hid (HB1.out.trans (hb.mono HB1.out.size))); (have HV2 := Lib.hid (HV1.out.below hb (Nat.le_refl _))); clear HB1 HV1; (have hts := parse_ts HP1F.out hto hrp); (have HTX2 := Lib.hid hts.1); (have HNX := Lib.hid hts.2); clear hb hto hrp hts HP1) | fail)
  obtain ⟨m, hmm⟩ : ∃ m, rm.size = m := ⟨_, rfl⟩
  have HMM := Lib.hid hmm
  have HM2 : Hid (m ≤ 140737488351232) := by show _ ≤ _; rw [← HMM.out]; exact HLM.out
  go_loopw [10, 11] (fun s10 s11 wx => ∃ (i : Nat) (r : Tx), (i ≤ m ∧ i ≤ 30) ∧ s10 = .string (ba r) ∧ s11 = .int .i64 (i : Int) ∧ Hid (r.length ≤ i ∧ ∀ c ∈ r, c ≠ 10) ∧ V2 = wx) (fun _ s11 _ => 30 - (intOf s11).toNat)
  case atStart => exact ⟨0, [], by omega, rfl, rfl, ⟨Nat.le_refl _, fun c hc => by cases hc⟩, rfl⟩
  case round =>
    obtain ⟨i, r, hi, rfl, rfl, HR, rfl⟩ := hrel
    have HI := Lib.hid hi
    obtain ⟨zk, hzk⟩ : ∃ z, ba r = z := ⟨_, rfl⟩
    have HZK := Lib.hid hzk
    have HZL : Hid (zk.size = r.length) := by show _ = _; rw [← hzk]; rfl
    rw [hzk]
    clear hzk hi
    by_cases hlt : i < m ∧ i < 30
    · have HLT := Lib.hid hlt
      have d0 : decide ((i : Int) < (m : Int)) = true := decide_eq_true (by omega)
      have e0 : decide (i < m) = true := decide_eq_true hlt.1
      have d1 : decide ((i : Int) < 30) = true := decide_eq_true (by omega)
      have e1 : decide (i < 30) = true := decide_eq_true hlt.2
      have l0 : (i : Int) < m := by omega
      have z0 : (0 : Int) ≤ i := by omega
      obtain ⟨c, hc, hcl⟩ := byte_at (s := rm) (k := i) (by rw [HMM.out]; exact HLT.out.1)
      obtain ⟨k1, hk1⟩ : ∃ x : Nat, i + 1 = x := ⟨_, rfl⟩
      have u1 : wrap64 ((i : Int) + 1) = (k1 : Int) := by rw [IntWalk.wrap64_in _ (by have := HM2.out; omega)]; omega
      have u2 : IntKind.i64.wrap ((i : Int) + 1) = (k1 : Int) := by rw [IntKind.wrap_i64]; have := HM2.out; omega
      have j0 : (i : Int) ≤ (k1 : Int) := by omega
      have j1 : (k1 : Int) ≤ (m : Int) := by omega
      have HX : Hid (rm.extract i k1 = ba [c]) := by
        show _ = _
        have h1 := ext_listB rm i k1
        rw [show k1 - i = 1 by omega, show (rm.data.toList.drop i).take 1 = [c] by
          rw [drop_at hcl]; rfl] at h1
        rw [← h1, ba_of]
      obtain ⟨zc, hzc⟩ : ∃ z, ba [c] = z := ⟨_, rfl⟩
      have HZC := Lib.hid hzc
      have HZ1 : Hid (zc.size = 1) := by show _ = _; rw [← hzc]; rfl
      have hx : rm.extract i k1 = zc := HX.out.trans hzc
      have y1 : zk.size + zc.size ≤ 9223372036854775807 := by rw [HZ1.out, HZL.out]; have := HR.out.1; omega
      have HK1 : Hid (k1 = i + 1) := by show _ = _; omega
      clear hzc hcl hk1 hlt
      by_cases h10 : c = 10
      · have q1 : ((c.toNat : Nat) : Int) = 10 := by rw [h10]; rfl
        have p1 : (((c.toNat : Nat) : Int) == 10) = true := by rw [q1]; rfl
        have r1 : (((c.toNat : Nat) : Int) != 10) = false := by rw [q1]; rfl
        clear h10 q1
        go_wp2_with fail
        go_roundw
        case rel => exact ⟨k1, r, by have := HK1.out; have := HLT.out; omega, by rw [HZK.out], rfl, ⟨by have := HK1.out; have := HR.out.1; omega, HR.out.2⟩, by first | rfl | trivial⟩
        case measure => show 30 - (k1 : Int).toNat < 30 - (i : Int).toNat; have := HK1.out; have := HLT.out; simp only [Int.toNat_natCast]; omega
      · have p1 : (((c.toNat : Nat) : Int) == 10) = false := beq_eq_false_iff_ne.2 (neq_nat (n := 10) (by decide) h10)
        have r1 : (((c.toNat : Nat) : Int) != 10) = true := by simp; exact neq_nat (n := 10) (by decide) h10
        have H10 := Lib.hid h10
        clear h10
        go_wp2_with fail
        go_roundw
        case rel => exact ⟨k1, r ++ [c], by have := HK1.out; have := HLT.out; omega, by rw [ba_app, HZK.out, HZC.out], rfl, ⟨by have := HK1.out; have := HR.out.1; rw [List.length_append]; simp; omega, fun x hx => by
          rcases List.mem_append.1 hx with h | h
          · exact HR.out.2 x h
          · rw [List.mem_singleton.1 h]; exact H10.out⟩, by first | rfl | trivial⟩
        case measure => show 30 - (k1 : Int).toNat < 30 - (i : Int).toNat; have := HK1.out; have := HLT.out; simp only [Int.toNat_natCast]; omega
    · have HRL : Hid (zk.size ≤ 30) := by show _ ≤ _; rw [HZL.out]; have := HR.out.1; have := HI.out; omega
      have HAS : Hid (za.size ≤ 140737488351232) := by show _ ≤ _; rw [← HZA.out]; exact HLA.out
      have HBS : Hid (zb.size ≤ 140737488351232) := by show _ ≤ _; rw [← HZB.out]; exact HLB.out
      have y1 : za.size + 5 ≤ 9223372036854775807 := by have := HAS.out; omega
      have y2 : za.size + 5 + zk.size ≤ 9223372036854775807 := by have := HAS.out; have := HRL.out; omega
      have y3 : za.size + 5 + zk.size + 2 ≤ 9223372036854775807 := by have := HAS.out; have := HRL.out; omega
      have y4 : za.size + 5 + zk.size + 2 + zb.size ≤ 9223372036854775807 := by have := HAS.out; have := HRL.out; have := HBS.out; omega
      by_cases h1 : i < m
      · have d0 : decide ((i : Int) < (m : Int)) = true := decide_eq_true (by omega)
        have e0 : decide (i < m) = true := decide_eq_true h1
        have d1 : decide ((i : Int) < 30) = false := decide_eq_false (by omega)
        have e1 : decide (i < 30) = false := decide_eq_false (by omega)
        clear h1 hlt
        go_upto_region 11 with (fail)
        obtain ⟨zl, hzl⟩ : ∃ z, za ++ (⟨#[10, 32, 9, 35, 32]⟩ : ByteArray) ++ zk ++ (⟨#[10, 10]⟩ : ByteArray) ++ zb = z := ⟨_, rfl⟩
        rw [hzl]
        have HZL2 : Hid (zl = ba (allT a r b)) := by show _ = _; rw [← hzl, ← HZA.out, ← HZB.out, ← HZK.out]; exact ba_all a r b
        have HSL : Hid (zl.size = (allT a r b).length) := by show _ = _; rw [HZL2.out]; rfl
        clear hzl y1 y2 y3 y4
        by_cases hbig : 8192 < zl.size
        · have g1 : decide ((zl.size : Int) > 8192) = true := decide_eq_true (by omega)
          have g2 : decide ((8192 : Int) < (zl.size : Int)) = true := decide_eq_true (by omega)
          have g3 : decide (8192 < zl.size) = true := decide_eq_true hbig
          clear hbig
          obtain ⟨e9, h9⟩ : ∃ e, ((nX : Int) == 0) = e := ⟨_, rfl⟩
          cases e9
          · go_wp2_with fail
            go_ret
            exact ⟨rfl, HB2.out⟩
          · go_wp2_with fail
            go_ret
            exact ⟨rfl, HB2.out⟩
        have g1 : decide ((zl.size : Int) > 8192) = false := decide_eq_false (by omega)
        have g2 : decide ((8192 : Int) < (zl.size : Int)) = false := decide_eq_false (by omega)
        have g3 : decide (8192 < zl.size) = false := decide_eq_false hbig
        have HSM : Hid ((allT a r b).length ≤ 8192) := by show _ ≤ _; rw [← HSL.out]; omega
        clear hbig
        rcases joins HP1F.out HR.out.2 HSM.out with ⟨y, hy, hyb⟩ | ⟨ke, ee, hy, hk0, hyb, hee⟩
        · have HY : Hid (parseM (allT a r b) = .ok (x ++ y)) := hy
          have HP2 : Hid (∀ V, MaxG V → Calls Tryz.prog 9 #[.string zl] V (ParseP V (.ok (x ++ y)))) := fun V h => by have := parse_any (t := allT a r b) V h; rw [HY.out, ← HZL2.out] at this; exact this
          clear hy
          rcases hyb with ⟨z, hz⟩ | ⟨kb, hz⟩
          · have HP3 : Hid (∀ V, MaxG V → Calls Tryz.prog 9 #[.string zb] V (ParseP V (.ok z))) := fun V h => by have := parse_any (t := b) V h; rw [hz, HZB.out] at this; exact this
            have HP3F := Lib.hid hz
            clear hz
            go_wp2_with (first | (go_at_call 9; refine (HP2.out V2 HV2.out.maxG).mono ?_; rintro e V3 ⟨hb, he⟩; (try (simp only at he)); obtain ⟨AY, nY, cY, RY, rfl, hto, hrp⟩ := he; (have HB3 := Lib.hid (HB2.out.trans (hb.mono HB2.out.size))); (have HV3 := Lib.hid (HV2.out.below hb (Nat.le_refl _))); (have HTX3 := Lib.hid (HTX2.out.below hb)); clear HB2 HV2 HTX2; (have hts := parse_ts HY.out hto hrp); (have HTY3 := Lib.hid hts.1); (have HNY := Lib.hid hts.2); (have hcp := hto.cap); (have HTZ3 : Hid (TS V3 AY nX x) := TS.first hts.1 HNX.out); (have HSP : Hid (∀ w, (Instr.sliceAt 23 (.slice AY nY cY) none (some (.int .i64 (nX : Int))) none).run Tryz.prog w = .ok (.slice AY nX cY) w) := (fun w => run_uptoG Tryz.underlying23 (z := 6) (by kernel_rfl) rfl (by have h1 := HNX.out; have h2 := hts.2; rw [List.length_append] at h2; omega) w)); (have HGE : Hid (nX ≤ nY) := (by have h1 := HNX.out; have h2 := hts.2; rw [List.length_append] at h2; show _ ≤ _; omega)); (have hsp := HSP.out); (have ge1 : decide ((nY : Int) ≥ (nX : Int)) = true := decide_eq_true (by have := HGE.out; omega)); (have ge2 : decide ((nX : Int) ≤ (nY : Int)) = true := decide_eq_true (by have := HGE.out; omega)); (have ge3 : decide (nX ≤ nY) = true := decide_eq_true HGE.out); clear hb hto hrp hts hcp HP2) | (go_at_call 9; refine (HP3.out V3 HV3.out.maxG).mono ?_; rintro e V4 ⟨hb, he⟩; (try (simp only at he)); obtain ⟨AB, nB, cB, RB, rfl, hto, hrp⟩ := he; (have HB4 := Lib.hid (HB3.out.trans (hb.mono HB3.out.size))); (have HV4 := Lib.hid (HV3.out.below hb (Nat.le_refl _))); (have HTX4 := Lib.hid (HTX3.out.below hb)); (have HTY4 := Lib.hid (HTY3.out.below hb)); (have HTZ4 := Lib.hid (HTZ3.out.below hb)); clear HB3 HV3 HTX3 HTY3 HTZ3; (have hts := parse_ts HP3F.out hto hrp); (have HTB4 := Lib.hid hts.1); (have HNB := Lib.hid hts.2); clear hb hto hrp hts HP3) | (go_at_call 11; refine (lsame_any V4 HTZ4.out HTX4.out).mono ?_; rintro e V5 ⟨rfl, hb⟩; rw [decide_eq_true (rfl : x = x)]; (have HB5 := Lib.hid (HB4.out.trans (hb.mono HB4.out.size))); (have HV5 := Lib.hid (HV4.out.below hb (Nat.le_refl _))); (have HTX5 := Lib.hid (HTX4.out.below hb)); (have HTY5 := Lib.hid (HTY4.out.below hb)); (have HTZ5 := Lib.hid (HTZ4.out.below hb)); (have HTB5 := Lib.hid (HTB4.out.below hb)); clear HB4 HV4 HTX4 HTY4 HTZ4 HTB4; clear hb) | fail)
            go_ret
            exact ⟨rfl, HB5.out⟩
          · have HP3 : Hid (∀ V, MaxG V → Calls Tryz.prog 9 #[.string zb] V (ParseP V (.err kb 8))) := fun V h => by have := parse_any (t := b) V h; rw [hz, HZB.out] at this; exact this
            clear hz
            go_wp2_with (first | (go_at_call 9; refine (HP2.out V2 HV2.out.maxG).mono ?_; rintro e V3 ⟨hb, he⟩; (try (simp only at he)); obtain ⟨AY, nY, cY, RY, rfl, hto, hrp⟩ := he; (have HB3 := Lib.hid (HB2.out.trans (hb.mono HB2.out.size))); (have HV3 := Lib.hid (HV2.out.below hb (Nat.le_refl _))); (have HTX3 := Lib.hid (HTX2.out.below hb)); clear HB2 HV2 HTX2; (have hts := parse_ts HY.out hto hrp); (have HTY3 := Lib.hid hts.1); (have HNY := Lib.hid hts.2); (have hcp := hto.cap); (have HTZ3 : Hid (TS V3 AY nX x) := TS.first hts.1 HNX.out); (have HSP : Hid (∀ w, (Instr.sliceAt 23 (.slice AY nY cY) none (some (.int .i64 (nX : Int))) none).run Tryz.prog w = .ok (.slice AY nX cY) w) := (fun w => run_uptoG Tryz.underlying23 (z := 6) (by kernel_rfl) rfl (by have h1 := HNX.out; have h2 := hts.2; rw [List.length_append] at h2; omega) w)); (have HGE : Hid (nX ≤ nY) := (by have h1 := HNX.out; have h2 := hts.2; rw [List.length_append] at h2; show _ ≤ _; omega)); (have hsp := HSP.out); (have ge1 : decide ((nY : Int) ≥ (nX : Int)) = true := decide_eq_true (by have := HGE.out; omega)); (have ge2 : decide ((nX : Int) ≤ (nY : Int)) = true := decide_eq_true (by have := HGE.out; omega)); (have ge3 : decide (nX ≤ nY) = true := decide_eq_true HGE.out); clear hb hto hrp hts hcp HP2) | (go_at_call 9; refine (HP3.out V3 HV3.out.maxG).mono ?_; rintro e V4 ⟨hb, he⟩; (try (simp only at he)); subst he; (have HB4 := Lib.hid (HB3.out.trans (hb.mono HB3.out.size))); (have HV4 := Lib.hid (HV3.out.below hb (Nat.le_refl _))); (have HTX4 := Lib.hid (HTX3.out.below hb)); (have HTY4 := Lib.hid (HTY3.out.below hb)); (have HTZ4 := Lib.hid (HTZ3.out.below hb)); clear HB3 HV3 HTX3 HTY3 HTZ3; clear hb HP3) | (go_at_call 11; refine (lsame_any V4 HTZ4.out HTX4.out).mono ?_; rintro e V5 ⟨rfl, hb⟩; rw [decide_eq_true (rfl : x = x)]; (have HB5 := Lib.hid (HB4.out.trans (hb.mono HB4.out.size))); (have HV5 := Lib.hid (HV4.out.below hb (Nat.le_refl _))); (have HTX5 := Lib.hid (HTX4.out.below hb)); (have HTY5 := Lib.hid (HTY4.out.below hb)); (have HTZ5 := Lib.hid (HTZ4.out.below hb)); clear HB4 HV4 HTX4 HTY4 HTZ4; clear hb) | fail)
            go_ret
            exact ⟨rfl, HB5.out⟩
        · have HY : Hid (parseM (allT a r b) = .err ke ee) := hy
          have HP2 : Hid (∀ V, MaxG V → Calls Tryz.prog 9 #[.string zl] V (ParseP V (.err ke ee))) := fun V h => by have := parse_any (t := allT a r b) V h; rw [HY.out, ← HZL2.out] at this; exact this
          have f1 : decide (ee = 0) = false := decide_eq_false hee
          have f2 : (ee == 0) = false := beq_eq_false_iff_ne.2 hee
          have f3 : (ee != 0) = true := by simpa using hee
          have f4 : decide (ke > 0) = true := decide_eq_true hk0
          have f5 : decide (0 < ke) = true := decide_eq_true hk0
          clear hy hee hk0
          cases hz : parseM b with
          | ok z =>
            obtain rfl : ee = 7 := by
              rcases hyb with ⟨k2, e2, h, -⟩ | h
              · rw [hz] at h; cases h
              · exact h
            have HP3 : Hid (∀ V, MaxG V → Calls Tryz.prog 9 #[.string zb] V (ParseP V (.ok z))) := fun V h => by have := parse_any (t := b) V h; rw [hz, HZB.out] at this; exact this
            have HP3F := Lib.hid hz
            clear hz hyb
            go_wp2_with (first | (go_at_call 9; refine (HP2.out V2 HV2.out.maxG).mono ?_; rintro e V3 ⟨hb, he⟩; (try (simp only at he)); subst he; (have HB3 := Lib.hid (HB2.out.trans (hb.mono HB2.out.size))); (have HV3 := Lib.hid (HV2.out.below hb (Nat.le_refl _))); (have HTX3 := Lib.hid (HTX2.out.below hb)); clear HB2 HV2 HTX2; clear hb HP2) | (go_at_call 9; refine (HP3.out V3 HV3.out.maxG).mono ?_; rintro e V4 ⟨hb, he⟩; (try (simp only at he)); obtain ⟨AB, nB, cB, RB, rfl, hto, hrp⟩ := he; (have HB4 := Lib.hid (HB3.out.trans (hb.mono HB3.out.size))); (have HV4 := Lib.hid (HV3.out.below hb (Nat.le_refl _))); (have HTX4 := Lib.hid (HTX3.out.below hb)); clear HB3 HV3 HTX3; (have hts := parse_ts HP3F.out hto hrp); (have HTB4 := Lib.hid hts.1); (have HNB := Lib.hid hts.2); clear hb hto hrp hts HP3) | fail)
            go_ret
            exact ⟨rfl, HB4.out⟩
          | err kb eb =>
            have heb := parse_err hz
            have b1 : decide (eb = 0) = false := decide_eq_false heb
            have b2 : (eb == 0) = false := beq_eq_false_iff_ne.2 heb
            have b3 : (eb != 0) = true := by simpa using heb
            clear heb
            have HP3 : Hid (∀ V, MaxG V → Calls Tryz.prog 9 #[.string zb] V (ParseP V (.err kb eb))) := fun V h => by have := parse_any (t := b) V h; rw [hz, HZB.out] at this; exact this
            clear hz hyb
            go_wp2_with (first | (go_at_call 9; refine (HP2.out V2 HV2.out.maxG).mono ?_; rintro e V3 ⟨hb, he⟩; (try (simp only at he)); subst he; (have HB3 := Lib.hid (HB2.out.trans (hb.mono HB2.out.size))); (have HV3 := Lib.hid (HV2.out.below hb (Nat.le_refl _))); (have HTX3 := Lib.hid (HTX2.out.below hb)); clear HB2 HV2 HTX2; clear hb HP2) | (go_at_call 9; refine (HP3.out V3 HV3.out.maxG).mono ?_; rintro e V4 ⟨hb, he⟩; (try (simp only at he)); subst he; (have HB4 := Lib.hid (HB3.out.trans (hb.mono HB3.out.size))); (have HV4 := Lib.hid (HV3.out.below hb (Nat.le_refl _))); (have HTX4 := Lib.hid (HTX3.out.below hb)); clear HB3 HV3 HTX3; clear hb HP3) | fail)
            go_ret
            exact ⟨rfl, HB4.out⟩
      · have d0 : decide ((i : Int) < (m : Int)) = false := decide_eq_false (by omega)
        have e0 : decide (i < m) = false := decide_eq_false h1
        clear h1 hlt
        go_upto_region 11 with (fail)
        obtain ⟨zl, hzl⟩ : ∃ z, za ++ (⟨#[10, 32, 9, 35, 32]⟩ : ByteArray) ++ zk ++ (⟨#[10, 10]⟩ : ByteArray) ++ zb = z := ⟨_, rfl⟩
        rw [hzl]
        have HZL2 : Hid (zl = ba (allT a r b)) := by show _ = _; rw [← hzl, ← HZA.out, ← HZB.out, ← HZK.out]; exact ba_all a r b
        have HSL : Hid (zl.size = (allT a r b).length) := by show _ = _; rw [HZL2.out]; rfl
        clear hzl y1 y2 y3 y4
        by_cases hbig : 8192 < zl.size
        · have g1 : decide ((zl.size : Int) > 8192) = true := decide_eq_true (by omega)
          have g2 : decide ((8192 : Int) < (zl.size : Int)) = true := decide_eq_true (by omega)
          have g3 : decide (8192 < zl.size) = true := decide_eq_true hbig
          clear hbig
          obtain ⟨e9, h9⟩ : ∃ e, ((nX : Int) == 0) = e := ⟨_, rfl⟩
          cases e9
          · go_wp2_with fail
            go_ret
            exact ⟨rfl, HB2.out⟩
          · go_wp2_with fail
            go_ret
            exact ⟨rfl, HB2.out⟩
        have g1 : decide ((zl.size : Int) > 8192) = false := decide_eq_false (by omega)
        have g2 : decide ((8192 : Int) < (zl.size : Int)) = false := decide_eq_false (by omega)
        have g3 : decide (8192 < zl.size) = false := decide_eq_false hbig
        have HSM : Hid ((allT a r b).length ≤ 8192) := by show _ ≤ _; rw [← HSL.out]; omega
        clear hbig
        rcases joins HP1F.out HR.out.2 HSM.out with ⟨y, hy, hyb⟩ | ⟨ke, ee, hy, hk0, hyb, hee⟩
        · have HY : Hid (parseM (allT a r b) = .ok (x ++ y)) := hy
          have HP2 : Hid (∀ V, MaxG V → Calls Tryz.prog 9 #[.string zl] V (ParseP V (.ok (x ++ y)))) := fun V h => by have := parse_any (t := allT a r b) V h; rw [HY.out, ← HZL2.out] at this; exact this
          clear hy
          rcases hyb with ⟨z, hz⟩ | ⟨kb, hz⟩
          · have HP3 : Hid (∀ V, MaxG V → Calls Tryz.prog 9 #[.string zb] V (ParseP V (.ok z))) := fun V h => by have := parse_any (t := b) V h; rw [hz, HZB.out] at this; exact this
            have HP3F := Lib.hid hz
            clear hz
            go_wp2_with (first | (go_at_call 9; refine (HP2.out V2 HV2.out.maxG).mono ?_; rintro e V3 ⟨hb, he⟩; (try (simp only at he)); obtain ⟨AY, nY, cY, RY, rfl, hto, hrp⟩ := he; (have HB3 := Lib.hid (HB2.out.trans (hb.mono HB2.out.size))); (have HV3 := Lib.hid (HV2.out.below hb (Nat.le_refl _))); (have HTX3 := Lib.hid (HTX2.out.below hb)); clear HB2 HV2 HTX2; (have hts := parse_ts HY.out hto hrp); (have HTY3 := Lib.hid hts.1); (have HNY := Lib.hid hts.2); (have hcp := hto.cap); (have HTZ3 : Hid (TS V3 AY nX x) := TS.first hts.1 HNX.out); (have HSP : Hid (∀ w, (Instr.sliceAt 23 (.slice AY nY cY) none (some (.int .i64 (nX : Int))) none).run Tryz.prog w = .ok (.slice AY nX cY) w) := (fun w => run_uptoG Tryz.underlying23 (z := 6) (by kernel_rfl) rfl (by have h1 := HNX.out; have h2 := hts.2; rw [List.length_append] at h2; omega) w)); (have HGE : Hid (nX ≤ nY) := (by have h1 := HNX.out; have h2 := hts.2; rw [List.length_append] at h2; show _ ≤ _; omega)); (have hsp := HSP.out); (have ge1 : decide ((nY : Int) ≥ (nX : Int)) = true := decide_eq_true (by have := HGE.out; omega)); (have ge2 : decide ((nX : Int) ≤ (nY : Int)) = true := decide_eq_true (by have := HGE.out; omega)); (have ge3 : decide (nX ≤ nY) = true := decide_eq_true HGE.out); clear hb hto hrp hts hcp HP2) | (go_at_call 9; refine (HP3.out V3 HV3.out.maxG).mono ?_; rintro e V4 ⟨hb, he⟩; (try (simp only at he)); obtain ⟨AB, nB, cB, RB, rfl, hto, hrp⟩ := he; (have HB4 := Lib.hid (HB3.out.trans (hb.mono HB3.out.size))); (have HV4 := Lib.hid (HV3.out.below hb (Nat.le_refl _))); (have HTX4 := Lib.hid (HTX3.out.below hb)); (have HTY4 := Lib.hid (HTY3.out.below hb)); (have HTZ4 := Lib.hid (HTZ3.out.below hb)); clear HB3 HV3 HTX3 HTY3 HTZ3; (have hts := parse_ts HP3F.out hto hrp); (have HTB4 := Lib.hid hts.1); (have HNB := Lib.hid hts.2); clear hb hto hrp hts HP3) | (go_at_call 11; refine (lsame_any V4 HTZ4.out HTX4.out).mono ?_; rintro e V5 ⟨rfl, hb⟩; rw [decide_eq_true (rfl : x = x)]; (have HB5 := Lib.hid (HB4.out.trans (hb.mono HB4.out.size))); (have HV5 := Lib.hid (HV4.out.below hb (Nat.le_refl _))); (have HTX5 := Lib.hid (HTX4.out.below hb)); (have HTY5 := Lib.hid (HTY4.out.below hb)); (have HTZ5 := Lib.hid (HTZ4.out.below hb)); (have HTB5 := Lib.hid (HTB4.out.below hb)); clear HB4 HV4 HTX4 HTY4 HTZ4 HTB4; clear hb) | fail)
            go_ret
            exact ⟨rfl, HB5.out⟩
          · have HP3 : Hid (∀ V, MaxG V → Calls Tryz.prog 9 #[.string zb] V (ParseP V (.err kb 8))) := fun V h => by have := parse_any (t := b) V h; rw [hz, HZB.out] at this; exact this
            clear hz
            go_wp2_with (first | (go_at_call 9; refine (HP2.out V2 HV2.out.maxG).mono ?_; rintro e V3 ⟨hb, he⟩; (try (simp only at he)); obtain ⟨AY, nY, cY, RY, rfl, hto, hrp⟩ := he; (have HB3 := Lib.hid (HB2.out.trans (hb.mono HB2.out.size))); (have HV3 := Lib.hid (HV2.out.below hb (Nat.le_refl _))); (have HTX3 := Lib.hid (HTX2.out.below hb)); clear HB2 HV2 HTX2; (have hts := parse_ts HY.out hto hrp); (have HTY3 := Lib.hid hts.1); (have HNY := Lib.hid hts.2); (have hcp := hto.cap); (have HTZ3 : Hid (TS V3 AY nX x) := TS.first hts.1 HNX.out); (have HSP : Hid (∀ w, (Instr.sliceAt 23 (.slice AY nY cY) none (some (.int .i64 (nX : Int))) none).run Tryz.prog w = .ok (.slice AY nX cY) w) := (fun w => run_uptoG Tryz.underlying23 (z := 6) (by kernel_rfl) rfl (by have h1 := HNX.out; have h2 := hts.2; rw [List.length_append] at h2; omega) w)); (have HGE : Hid (nX ≤ nY) := (by have h1 := HNX.out; have h2 := hts.2; rw [List.length_append] at h2; show _ ≤ _; omega)); (have hsp := HSP.out); (have ge1 : decide ((nY : Int) ≥ (nX : Int)) = true := decide_eq_true (by have := HGE.out; omega)); (have ge2 : decide ((nX : Int) ≤ (nY : Int)) = true := decide_eq_true (by have := HGE.out; omega)); (have ge3 : decide (nX ≤ nY) = true := decide_eq_true HGE.out); clear hb hto hrp hts hcp HP2) | (go_at_call 9; refine (HP3.out V3 HV3.out.maxG).mono ?_; rintro e V4 ⟨hb, he⟩; (try (simp only at he)); subst he; (have HB4 := Lib.hid (HB3.out.trans (hb.mono HB3.out.size))); (have HV4 := Lib.hid (HV3.out.below hb (Nat.le_refl _))); (have HTX4 := Lib.hid (HTX3.out.below hb)); (have HTY4 := Lib.hid (HTY3.out.below hb)); (have HTZ4 := Lib.hid (HTZ3.out.below hb)); clear HB3 HV3 HTX3 HTY3 HTZ3; clear hb HP3) | (go_at_call 11; refine (lsame_any V4 HTZ4.out HTX4.out).mono ?_; rintro e V5 ⟨rfl, hb⟩; rw [decide_eq_true (rfl : x = x)]; (have HB5 := Lib.hid (HB4.out.trans (hb.mono HB4.out.size))); (have HV5 := Lib.hid (HV4.out.below hb (Nat.le_refl _))); (have HTX5 := Lib.hid (HTX4.out.below hb)); (have HTY5 := Lib.hid (HTY4.out.below hb)); (have HTZ5 := Lib.hid (HTZ4.out.below hb)); clear HB4 HV4 HTX4 HTY4 HTZ4; clear hb) | fail)
            go_ret
            exact ⟨rfl, HB5.out⟩
        · have HY : Hid (parseM (allT a r b) = .err ke ee) := hy
          have HP2 : Hid (∀ V, MaxG V → Calls Tryz.prog 9 #[.string zl] V (ParseP V (.err ke ee))) := fun V h => by have := parse_any (t := allT a r b) V h; rw [HY.out, ← HZL2.out] at this; exact this
          have f1 : decide (ee = 0) = false := decide_eq_false hee
          have f2 : (ee == 0) = false := beq_eq_false_iff_ne.2 hee
          have f3 : (ee != 0) = true := by simpa using hee
          have f4 : decide (ke > 0) = true := decide_eq_true hk0
          have f5 : decide (0 < ke) = true := decide_eq_true hk0
          clear hy hee hk0
          cases hz : parseM b with
          | ok z =>
            obtain rfl : ee = 7 := by
              rcases hyb with ⟨k2, e2, h, -⟩ | h
              · rw [hz] at h; cases h
              · exact h
            have HP3 : Hid (∀ V, MaxG V → Calls Tryz.prog 9 #[.string zb] V (ParseP V (.ok z))) := fun V h => by have := parse_any (t := b) V h; rw [hz, HZB.out] at this; exact this
            have HP3F := Lib.hid hz
            clear hz hyb
            go_wp2_with (first | (go_at_call 9; refine (HP2.out V2 HV2.out.maxG).mono ?_; rintro e V3 ⟨hb, he⟩; (try (simp only at he)); subst he; (have HB3 := Lib.hid (HB2.out.trans (hb.mono HB2.out.size))); (have HV3 := Lib.hid (HV2.out.below hb (Nat.le_refl _))); (have HTX3 := Lib.hid (HTX2.out.below hb)); clear HB2 HV2 HTX2; clear hb HP2) | (go_at_call 9; refine (HP3.out V3 HV3.out.maxG).mono ?_; rintro e V4 ⟨hb, he⟩; (try (simp only at he)); obtain ⟨AB, nB, cB, RB, rfl, hto, hrp⟩ := he; (have HB4 := Lib.hid (HB3.out.trans (hb.mono HB3.out.size))); (have HV4 := Lib.hid (HV3.out.below hb (Nat.le_refl _))); (have HTX4 := Lib.hid (HTX3.out.below hb)); clear HB3 HV3 HTX3; (have hts := parse_ts HP3F.out hto hrp); (have HTB4 := Lib.hid hts.1); (have HNB := Lib.hid hts.2); clear hb hto hrp hts HP3) | fail)
            go_ret
            exact ⟨rfl, HB4.out⟩
          | err kb eb =>
            have heb := parse_err hz
            have b1 : decide (eb = 0) = false := decide_eq_false heb
            have b2 : (eb == 0) = false := beq_eq_false_iff_ne.2 heb
            have b3 : (eb != 0) = true := by simpa using heb
            clear heb
            have HP3 : Hid (∀ V, MaxG V → Calls Tryz.prog 9 #[.string zb] V (ParseP V (.err kb eb))) := fun V h => by have := parse_any (t := b) V h; rw [hz, HZB.out] at this; exact this
            clear hz hyb
            go_wp2_with (first | (go_at_call 9; refine (HP2.out V2 HV2.out.maxG).mono ?_; rintro e V3 ⟨hb, he⟩; (try (simp only at he)); subst he; (have HB3 := Lib.hid (HB2.out.trans (hb.mono HB2.out.size))); (have HV3 := Lib.hid (HV2.out.below hb (Nat.le_refl _))); (have HTX3 := Lib.hid (HTX2.out.below hb)); clear HB2 HV2 HTX2; clear hb HP2) | (go_at_call 9; refine (HP3.out V3 HV3.out.maxG).mono ?_; rintro e V4 ⟨hb, he⟩; (try (simp only at he)); subst he; (have HB4 := Lib.hid (HB3.out.trans (hb.mono HB3.out.size))); (have HV4 := Lib.hid (HV3.out.below hb (Nat.le_refl _))); (have HTX4 := Lib.hid (HTX3.out.below hb)); clear HB3 HV3 HTX3; clear hb HP3) | fail)
            go_ret
            exact ⟨rfl, HB4.out⟩
theorem scriptJoins_any {a b : Tx} {rm : ByteArray} (w : World) (HV : Vars w) (ha : a.length ≤ 140737488351232) (hb : b.length ≤ 140737488351232) (hm : rm.size ≤ 140737488351232) :
    Calls Tryz.prog 5 #[.string (ba a), .string (ba b), .string rm] w fun e w' => e = .returned (.bool true) ∧ Below w.heap.size w w' := by
  cases hr : parseM a with
  | ok x => exact joins_ok w HV ha hb hm hr
  | err line er => exact joins_err w HV ha hb hm hr
end Go.Proofs.YtoofgblmpjndjaaGreatDoor.Scr
