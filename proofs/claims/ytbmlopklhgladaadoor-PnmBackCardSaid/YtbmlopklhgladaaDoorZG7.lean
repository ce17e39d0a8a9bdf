/-
  Texts of this claim, joined by program (AnyA, AnyB, ShfL, Shf, AnyC). Walks: the parts of bytes.IndexAny.
-/
import Derived.Test.YtbmlopklhgladaaDoorZG4
import Derived.Test.YtbmlopklhgladaaDoorChecked
import Derived.Lib.Bytealg
import Derived.Lib.AsciiSet
import Derived.Lib.Strings
import Derived.Lib.IndexBytes
import Derived.Lib.Walk
import Derived.Laws.Externs
import Derived.Laws.Strings3
import Derived.Laws.ResultCell
import Derived.Deep.LoopGhost
import Derived.Deep.WholeRow
import Derived.Test.YtbmlopklhgladaaDoorZG6
import Derived.Shelf.Strconv.Atoi
import Derived.Shelf.LaysM
import Derived.Shelf.Strconv.Itoa3
import Derived.Shelf.Bytes.WriteByte
import Derived.Shelf.Bytes.WriteString
import Derived.Shelf.Bytes.Bytes
import Derived.Shelf.Bytes.BufferK
import Derived.Shelf.Spec.DecodeRune
import Derived.Test.YtbmlopklhgladaaDoorProg
import Derived.Lib.IndexEntry
import Derived.Lib.OthersKept
import Derived.Laws.Runes
set_option linter.unusedVariables false
set_option linter.unusedSimpArgs false
namespace Go.Proofs.YtbmlopklhgladaaDoor.Ian
open Go.RowKit K

/-- the two ends of a line -/
def nlS : ByteArray := ⟨#[10, 13]⟩
theorem run_ibs (s : ByteArray) (c : Int) (w : World) : (callFunc 79 #[.string s, .int .u8 c]).run Tryd.prog w = .ok (.value (.int .i64 (Lib.indexByte s.data.toList c.toNat.toUInt8))) w := by
  rw [run_callFunc_extern Tryd.func79 (by kernel_rfl) (by kernel_rfl) (by kernel_rfl) (e := Extern.BytealgIndexByte.indexByte) (by kernel_rfl), Lib.run_indexByteString]
  rfl
theorem should_any (n : Int) (w : World) : Calls Tryd.prog 81 #[.int .i64 n] w fun e w' => e = .returned (.bool (decide (8 < n))) ∧ w = w' := by
  go_enter Tryd.func81, Tryd.ntmps81
  go_wp2
  go_ret
  exact ⟨rfl, rfl⟩
theorem contains_any {b : Nat} {x : Int} {v : Bool} (w : World) (h0 : 0 ≤ x) (h1 : x < 256) (hc : w.cell? ⟨b, x.toNat, none⟩ = some (.bool v)) :
    Calls Tryd.prog 83 #[.pointer (some ⟨b, 0, none⟩), .int .u8 x] w fun e w' => e = .returned (.bool v) ∧ w = w' := by
  obtain ⟨n, rfl⟩ := Int.eq_ofNat_of_zero_le h0
  simp only [Int.toNat_natCast] at hc
  go_enter Tryd.func83, Tryd.ntmps83
  go_wp2
  go_ret
  exact ⟨rfl, rfl⟩
def nlL : List UInt8 := [10, 13]
noncomputable def nlSet (k : Nat) : Array Value := Lib.setCells (nlL.take k)
theorem nlSet_zero : Tryd.zeroCells131 = nlSet 0 := by kernel_rfl
theorem setInfo : (Tryd.prog.info? 131).map (·.size) = some 256 := by kernel_rfl
theorem nlSet_size (k : Nat) : (nlSet k).size = 256 := Lib.setCells_size _
theorem nlSet_at (k : Nat) (x : UInt8) : (nlSet k)[x.toNat]? = some (.bool ((nlL.take k).contains x)) := Lib.setCells_at _ _
set_option maxHeartbeats 4000000 in
set_option maxRecDepth 1000000 in
theorem mkset_gen (chars : ByteArray) (w : World) (hs : chars.size < 4294967281) (hascii : ∀ (j : Nat) b, chars.data.toList[j]? = some b → b.toNat < 128) :
    Calls Tryd.prog 82 #[.string chars] w fun e w' => e = .returned (.tuple #[.agg (Lib.setCells chars.data.toList), .bool true]) ∧ Below w.heap.size w w' := by
  have HA : Hid (∀ (j : Nat) b, chars.data.toList[j]? = some b → b.toNat < 128) := hascii
  clear hascii
  go_enter Tryd.func82, Tryd.ntmps82
  go_wp2
  rw [show Tryd.zeroCells131 = Lib.setCells [] from nlSet_zero]
  go_loopw [4] (fun s4 wx => ∃ i : Nat, i ≤ chars.size ∧ s4 = .int .i64 i ∧ wx = w.alloc (.cells (Lib.setCells (chars.data.toList.take i)) 131)) (fun s4 _ => chars.size - (intOf s4).toNat)
  case atStart => exact ⟨0, by omega, rfl, rfl⟩
  case round =>
    obtain ⟨i, hi, rfl, rfl⟩ := hrel
    by_cases hlt : i < chars.size
    · have hiz : decide ((i : Int) < (chars.size : Int)) = true := decide_eq_true (by omega)
      obtain ⟨x, hx⟩ : ∃ x : UInt8, chars[i]'hlt = x := ⟨_, rfl⟩
      have hxl : chars.data.toList[i]? = some x := by rw [← hx]; exact Lib.data_getElem? chars i hlt
      have hx128 : decide ((128 : Int) ≤ (x.toNat : Int)) = false := decide_eq_false (by have := HA.out i x hxl; omega)
      have hx256 : (x.toNat : Int) < 256 := by have := HA.out i x hxl; omega
      have hcell := Lib.setCells_at (chars.data.toList.take i) x
      have Hx : Hid (chars.data.toList[i]? = some x) := hxl
      have HN : Hid (Lib.setCells (chars.data.toList.take (i + 1)) = (Lib.setCells (chars.data.toList.take i)).setIfInBounds x.toNat (.bool true)) := by
        show _ = _
        rw [List.take_add_one, hxl]; simp only [Option.toList]; rw [Lib.setCells_snoc]
      clear hxl
      go_wp2
      refine ⟨⟨i + 1, by omega, by go_num, by rw [HN.out]⟩, ?_⟩
      simp [intOf]; omega
    · obtain rfl : i = chars.size := by omega
      have hiz : decide ((chars.size : Int) < (chars.size : Int)) = false := by simp
      rw [show chars.data.toList.take chars.size = chars.data.toList from List.take_of_length_le (by rw [← Lib.size_eq]; exact Nat.le_refl _)]
      have hrow : Hid ((w.alloc (.cells (Lib.setCells chars.data.toList) 131)).heap[w.heap.size]? = some (.cells (Lib.setCells chars.data.toList) 131 (0, 0))) := heap_alloc_new _ _
      have HI : Hid ((Tryd.prog.info? 131).map (·.size) = some (Lib.setCells chars.data.toList).size) := by show _ = _; rw [Lib.setCells_size]; exact setInfo
      have HO : Hid ((Lib.setCells chars.data.toList).all (·.oneCell') = true) := Lib.setCells_one _
      go_wp2_with (first
        | (refine wpList_load_row rfl 131 (.tmp 2) rfl w.heap.size rfl 131 (Lib.setCells chars.data.toList) (0, 0) _ hrow.out Tryd.underlying131 rfl HI.out ?_)
        | (refine wpList_store_row rfl 131 (.tmp 2) (.tmp 20) rfl w.heap.size (Lib.setCells chars.data.toList) rfl rfl 131 (Lib.setCells chars.data.toList) hrow.out HI.out rfl HO.out ?_))
      refine bodyPost_ret (Ard.results_row_tmp rfl _ _ w.heap.size 131 (Lib.setCells chars.data.toList) (0, 0) _ rfl (setRow_heap _ _ _ _ _ _ hrow.out) Tryd.underlying131 rfl HI.out) rfl ?_
      exact ⟨rfl, below_setRow ((Below.refl _ _).alloc (Nat.le_refl _) _) (Nat.le_refl _) _⟩
theorem mkset_any (w : World) : Calls Tryd.prog 82 #[.string nlS] w fun e w' => e = .returned (.tuple #[.agg (nlSet 2), .bool true]) ∧ Below w.heap.size w w' :=
  mkset_gen nlS w (by decide) (fun j b h => by
    rcases j with _ | _ | j
    · injection h with h; subst h; decide
    · injection h with h; subst h; decide
    · cases h)
end Go.Proofs.YtbmlopklhgladaaDoor.Ian
set_option linter.unusedVariables false
set_option linter.unusedSimpArgs false
namespace Go.Proofs.YtbmlopklhgladaaDoor.Ian
open Go.RowKit K Pnm

theorem nlSet_bool (x : Int) (h0 : 0 ≤ x) (h1 : x < 256) : (nlSet 2)[x.toNat]? = some (.bool (decide (x = 10 ∨ x = 13))) := by
  have key : ∀ y : Fin 256, (nlL.take 2).contains (UInt8.ofNat y.val) = decide (y.val = 10 ∨ y.val = 13) := by decide +kernel
  obtain ⟨n, rfl⟩ := Int.eq_ofNat_of_zero_le h0
  have h := nlSet_at 2 (UInt8.ofNat n)
  rw [UInt8.toNat_ofNat_of_lt' (by show n < 256; omega), key ⟨n, by omega⟩] at h
  rw [Int.toNat_natCast]
  exact h.trans (congrArg (fun t => some (Value.bool t)) (decide_eq_decide.2 (by show (n = 10 ∨ n = 13) ↔ ((n : Int) = 10 ∨ (n : Int) = 13); omega)))
set_option maxHeartbeats 4000000 in
set_option maxRecDepth 1000000 in
theorem iany_one {b o c : Nat} {z : List Int} (w : World) (HZ : SI w .u8 (some ⟨b, o, none⟩) 1 z) (h0 : z.getD 0 0 = 35) :
    Calls Tryd.prog 72 #[.slice (some ⟨b, o, none⟩) 1 c, .string ⟨#[10, 13]⟩] w fun e w' => e = .returned (.int .i64 (ixI (nlM z 0))) ∧ Below w.heap.size w w' := by
  obtain ⟨b1, o1, hA1, hcell⟩ := byte_at HZ (show 0 < 1 by omega)
  injection hA1 with hA1
  injection hA1 with q1 q2 q3
  subst q1 q2
  rw [Nat.add_zero, h0] at hcell
  have HN : Hid (nlM z 0 = none) := by
    show _ = _
    rw [nlM_step (by rw [HZ.len]; omega) (by rw [h0]; omega), nlM_end (by rw [HZ.len]; omega)]
  have hr := run_ibs ⟨#[10, 13]⟩ 35
  have hix : Lib.indexByte (⟨#[10, 13]⟩ : ByteArray).data.toList ((35 : Int).toNat.toUInt8) = -1 := by decide
  rw [hix] at hr
  have he : ((⟨#[10, 13]⟩ : ByteArray) == ⟨#[]⟩) = false := by decide
  clear h0
  go_enter Tryd.func72, Tryd.ntmps72
  go_wp2
  go_ret
  exact ⟨by rw [HN.out]; rfl, Below.refl _ _⟩
set_option maxHeartbeats 4000000 in
set_option maxRecDepth 1000000 in
theorem iany_long {b o n c : Nat} {z : List Int} (w : World) (HZ : SI w .u8 (some ⟨b, o, none⟩) n z) (hwf : ∀ x ∈ z, 0 ≤ x ∧ x < 256) (hn : 8 < n) :
    Calls Tryd.prog 72 #[.slice (some ⟨b, o, none⟩) n c, .string ⟨#[10, 13]⟩] w fun e w' => e = .returned (.int .i64 (ixI (nlM z 0))) ∧ Below w.heap.size w w' := by
  have hbig := HZ.bigb
  have HZZ := Lib.hid HZ
  have HWF := Lib.hid hwf
  have HLEN := Lib.hid HZ.len
  clear HZ hwf
  have he : ((⟨#[10, 13]⟩ : ByteArray) == ⟨#[]⟩) = false := by decide
  have d1 : ((n : Int) == 1) = false := by simp; omega
  have d8 : decide ((8 : Int) < (n : Int)) = true := decide_eq_true (by omega)
  have HM := Lib.hid (mkset_any w)
  have HI : Hid ((Tryd.prog.info? 131).map (·.size) = some (nlSet 2).size) := by show _ = _; rw [nlSet_size]; exact setInfo
  have HO : Hid ((nlSet 2).all (·.oneCell') = true) := Lib.setCells_one _
  have HZS : Hid (Tryd.zeroCells131.size = (nlSet 2).size) := by show _ = _; rw [nlSet_size]; kernel_rfl
  go_enter Tryd.func72, Tryd.ntmps72
  go_wp2_with fail
  refine (should_any (n : Int) w).mono ?_
  rintro e w' ⟨rfl, rfl⟩
  rw [d8]
  go_wp2_with fail
  refine HM.out.mono ?_
  rintro e w1 ⟨rfl, hb1⟩
  have hb2 : Below w.heap.size w (w1.alloc (.cells Tryd.zeroCells131 131)) := hb1.alloc hb1.size _
  have hr2 : Hid ((w1.alloc (.cells Tryd.zeroCells131 131)).heap[w1.heap.size]? = some (.cells Tryd.zeroCells131 131 (0, 0))) := heap_alloc_new _ _
  have hsz := hb1.size
  go_wp2_with (refine wpList_store_row rfl 131 (.tmp 7) (.tmp 57) rfl w1.heap.size (nlSet 2) rfl rfl 131 Tryd.zeroCells131 hr2.out HI.out HZS.out HO.out ?_)
  have hb3 : Below w.heap.size w ((w1.alloc (.cells Tryd.zeroCells131 131)).setRow w1.heap.size (nlSet 2)) := below_setRow hb2 hsz _
  have HR3 : Hid (((w1.alloc (.cells Tryd.zeroCells131 131)).setRow w1.heap.size (nlSet 2)).heap[w1.heap.size]? = some (.cells (nlSet 2) 131 (0, 0))) := setRow_heap _ _ _ _ _ _ hr2.out
  have HZ3 := Lib.hid (HZZ.out.below hb3 (Nat.le_refl _))
  generalize (w1.alloc (.cells Tryd.zeroCells131 131)).setRow w1.heap.size (nlSet 2) = W at hb3 HR3 HZ3 ⊢
  generalize w1.heap.size = g at HR3 ⊢
  have HB3 := Lib.hid hb3
  clear hb1 hb2 hr2 hb3 hsz HM
  go_loopw [62] (fun si wr => ∃ i : Nat, i ≤ n ∧ si = .int .i64 i ∧ Hid (nlM z 0 = nlM z i) ∧ W = wr) (fun si _ => n - (intOf si).toNat)
  case atStart => exact ⟨0, by omega, rfl, rfl, rfl⟩
  case round =>
    obtain ⟨i, hi, rfl, HN, rfl⟩ := hrel
    by_cases hlt : i < n
    · have d1 : decide ((i : Int) < (n : Int)) = true := decide_eq_true (by omega)
      obtain ⟨b1, o1, hA1, hcell⟩ := byte_at HZ3.out hlt
      injection hA1 with hA1
      injection hA1 with q1 q2 q3
      subst q1 q2
      have hwf := getD_wf HWF.out i
      obtain ⟨x, hx⟩ : ∃ x, z.getD i 0 = x := ⟨_, rfl⟩
      rw [hx] at hcell hwf
      have HX := Lib.hid hx
      clear hx
      have hc : W.cell? ⟨g, x.toNat, none⟩ = some (.bool (decide (x = 10 ∨ x = 13))) := by
        rw [cell_of_row _ _ _ _ _ _ HR3.out]; exact nlSet_bool x hwf.1 hwf.2
      have HCC := Lib.hid hc
      clear hc
      go_wp2_with fail
      refine (contains_any W hwf.1 hwf.2 HCC.out).mono ?_
      rintro e w' ⟨rfl, rfl⟩
      by_cases hh : x = 10 ∨ x = 13
      · have HE : Hid (nlM z 0 = some i) := by show _ = _; rw [HN.out, nlM_hit (by rw [HLEN.out]; exact hlt) (by rw [HX.out]; exact hh)]
        rw [decide_eq_true hh]
        clear hh
        go_wp2_with fail
        go_ret
        exact ⟨by rw [HE.out]; rfl, HB3.out⟩
      · have HE : Hid (nlM z 0 = nlM z (i + 1)) := by show _ = _; rw [HN.out, nlM_step (by rw [HLEN.out]; exact hlt) (by rw [HX.out]; exact hh)]
        rw [decide_eq_false hh]
        clear hh
        go_wp2_with fail
        refine ⟨⟨i + 1, by omega, by go_num, HE, trivial⟩, ?_⟩
        simp [intOf]; omega
    · obtain rfl : i = n := by omega
      have d1 : decide ((i : Int) < (i : Int)) = false := by simp
      have HE : Hid (nlM z 0 = none) := by show _ = _; rw [HN.out, nlM_end (by rw [HLEN.out]; exact Nat.le_refl _)]
      go_wp2_with fail
      go_ret
      exact ⟨by rw [HE.out]; rfl, HB3.out⟩
end Go.Proofs.YtbmlopklhgladaaDoor.Ian
namespace Go.Proofs.YtbmlopklhgladaaDoor.Shf
open Go.Shelf
def lays172_ren : Go.Shelf.Ren := ⟨fun | 172 => 73 | 244 => 86 | 245 => 87 | 247 => 99 | 279 => 100 | 280 => 101 | 281 => 102 | 282 => 103 | 287 => 108 | 316 => 109 | 171 => 33 | 205 => 110 | 321 => 111 | 322 => 112 | 243 => 54 | 246 => 71 | 283 => 75 | 284 => 76 | 285 => 77 | 286 => 78 | 129 => 89 | 317 => 88 | 318 => 90 | 319 => 91 | 320 => 92 | 337 => 104 | 338 => 105 | n => n, fun | 9 => 9 | 3 => 3 | 75 => 76 | 76 => 77 | 4 => 4 | 5 => 5 | 167 => 148 | 37 => 22 | 0 => 0 | 85 => 149 | 2 => 2 | 168 => 151 | 53 => 122 | 175 => 159 | 46 => 96 | 210 => 163 | 127 => 169 | 145 => 172 | 143 => 170 | 21 => 21 | 171 => 121 | 173 => 125 | 212 => 139 | 51 => 140 | 20 => 20 | 213 => 141 | 232 => 165 | 233 => 166 | 80 => 173 | n => n, fun | 15 => 5 | 16 => 6 | 17 => 2 | 18 => 7 | 19 => 8 | n => n⟩
theorem lays172 : Go.Proofs.Lays.n172 Tryd.prog lays172_ren := {
  mixed := by kernel_rfl
  f129 := Tryd.func89.trans (congrArg some (by kernel_rfl))
  f171 := Tryd.func33.trans (congrArg some (by kernel_rfl))
  f172 := Tryd.func73.trans (congrArg some (by kernel_rfl))
  f205 := Tryd.func110.trans (congrArg some (by kernel_rfl))
  f243 := Tryd.func54.trans (congrArg some (by kernel_rfl))
  f244 := Tryd.func86.trans (congrArg some (by kernel_rfl))
  f245 := Tryd.func87.trans (congrArg some (by kernel_rfl))
  f246 := Tryd.func71.trans (congrArg some (by kernel_rfl))
  f247 := Tryd.func99.trans (congrArg some (by kernel_rfl))
  f279 := Tryd.func100.trans (congrArg some (by kernel_rfl))
  f280 := Tryd.func101.trans (congrArg some (by kernel_rfl))
  f281 := Tryd.func102.trans (congrArg some (by kernel_rfl))
  f282 := Tryd.func103.trans (congrArg some (by kernel_rfl))
  f283 := Tryd.func75.trans (congrArg some (by kernel_rfl))
  f284 := Tryd.func76.trans (congrArg some (by kernel_rfl))
  f285 := Tryd.func77.trans (congrArg some (by kernel_rfl))
  f286 := Tryd.func78.trans (congrArg some (by kernel_rfl))
  f287 := Tryd.func108.trans (congrArg some (by kernel_rfl))
  f316 := Tryd.func109.trans (congrArg some (by kernel_rfl))
  f317 := Tryd.func88.trans (congrArg some (by kernel_rfl))
  f318 := Tryd.func90.trans (congrArg some (by kernel_rfl))
  f319 := Tryd.func91.trans (congrArg some (by kernel_rfl))
  f320 := Tryd.func92.trans (congrArg some (by kernel_rfl))
  f321 := Tryd.func111.trans (congrArg some (by kernel_rfl))
  f322 := Tryd.func112.trans (congrArg some (by kernel_rfl))
  f337 := Tryd.func104.trans (congrArg some (by kernel_rfl))
  f338 := Tryd.func105.trans (congrArg some (by kernel_rfl))
  t0 := Tryd.underlying0
  a0 := Tryd.isAgg0
  z0 := Tryd.sizeOf0
  v0 := Tryd.zeroValue0
  t2 := Tryd.underlying2
  a2 := Tryd.isAgg2
  z2 := Tryd.sizeOf2
  v2 := Tryd.zeroValue2
  t3 := Tryd.underlying3
  a3 := Tryd.isAgg3
  z3 := Tryd.sizeOf3
  v3 := Tryd.zeroValue3
  t4 := Tryd.underlying4
  a4 := Tryd.isAgg4
  z4 := Tryd.sizeOf4
  v4 := Tryd.zeroValue4
  t5 := Tryd.underlying5
  a5 := Tryd.isAgg5
  z5 := Tryd.sizeOf5
  v5 := Tryd.zeroValue5
  t9 := Tryd.underlying9
  a9 := Tryd.isAgg9
  z9 := Tryd.sizeOf9
  v9 := Tryd.zeroValue9
  t20 := Tryd.underlying20
  a20 := Tryd.isAgg20
  z20 := Tryd.sizeOf20
  v20 := Tryd.zeroValue20
  t21 := Tryd.underlying21
  a21 := Tryd.isAgg21
  z21 := Tryd.sizeOf21
  v21 := Tryd.zeroValue21
  t37 := Tryd.underlying22
  a37 := Tryd.isAgg22
  z37 := Tryd.sizeOf22
  v37 := Tryd.zeroValue22
  t46 := Tryd.underlying96
  a46 := Tryd.isAgg96
  z46 := Tryd.sizeOf96
  v46 := Tryd.zeroValue96
  t51 := Tryd.underlying140
  a51 := Tryd.isAgg140
  z51 := Tryd.sizeOf140
  v51 := Tryd.zeroValue140
  t53 := Tryd.underlying122
  a53 := Tryd.isAgg122
  z53 := Tryd.sizeOf122
  v53 := Tryd.zeroValue122
  t75 := Tryd.underlying76
  a75 := Tryd.isAgg76
  z75 := Tryd.sizeOf76
  v75 := Tryd.zeroValue76
  t76 := Tryd.underlying77
  a76 := Tryd.isAgg77
  z76 := Tryd.sizeOf77
  v76 := Tryd.zeroValue77
  t85 := Tryd.underlying149
  a85 := Tryd.isAgg149
  z85 := Tryd.sizeOf149
  v85 := Tryd.zeroValue149
  t127 := Tryd.underlying169
  a127 := Tryd.isAgg169
  z127 := Tryd.sizeOf169
  v127 := Tryd.zeroValue169
  t143 := Tryd.underlying170
  a143 := Tryd.isAgg170
  z143 := Tryd.sizeOf170
  v143 := Tryd.zeroValue170
  t145 := Tryd.underlying172
  a145 := Tryd.isAgg172
  z145 := Tryd.sizeOf172
  v145 := Tryd.zeroValue172
  t167 := Tryd.underlying148
  a167 := Tryd.isAgg148
  z167 := Tryd.sizeOf148
  v167 := Tryd.zeroValue148
  t168 := Tryd.underlying151
  a168 := Tryd.isAgg151
  z168 := Tryd.sizeOf151
  v168 := Tryd.zeroValue151
  t171 := Tryd.underlying121
  a171 := Tryd.isAgg121
  z171 := Tryd.sizeOf121
  v171 := Tryd.zeroValue121
  t173 := Tryd.underlying125
  a173 := Tryd.isAgg125
  z173 := Tryd.sizeOf125
  v173 := Tryd.zeroValue125
  t175 := Tryd.underlying159
  a175 := Tryd.isAgg159
  z175 := Tryd.sizeOf159
  v175 := Tryd.zeroValue159
  t210 := Tryd.underlying163
  a210 := Tryd.isAgg163
  z210 := Tryd.sizeOf163
  v210 := Tryd.zeroValue163
  t212 := Tryd.underlying139
  a212 := Tryd.isAgg139
  z212 := Tryd.sizeOf139
  v212 := Tryd.zeroValue139
  t213 := Tryd.underlying141
  a213 := Tryd.isAgg141
  z213 := Tryd.sizeOf141
  t232 := Tryd.underlying165
  a232 := Tryd.isAgg165
  z232 := Tryd.sizeOf165
  v232 := Tryd.zeroValue165
  t233 := Tryd.underlying166
  a233 := Tryd.isAgg166
  z233 := Tryd.sizeOf166
  v233 := Tryd.zeroValue166
  g15 := by kernel_rfl
  g16 := by kernel_rfl
  g17 := by kernel_rfl
  g18 := by kernel_rfl
  g19 := by kernel_rfl }
def laysM171_ren : Go.Shelf.Ren := ⟨fun | 171 => 33 | 243 => 54 | 246 => 71 | 283 => 75 | 284 => 76 | 285 => 77 | 286 => 78 | 129 => 89 | 317 => 88 | 318 => 90 | 319 => 91 | 320 => 92 | 337 => 104 | 338 => 105 | n => n, fun | 3 => 3 | 9 => 9 | 2 => 2 | 4 => 4 | 171 => 121 | 0 => 0 | 53 => 122 | 37 => 22 | 5 => 5 | 173 => 125 | 212 => 139 | 51 => 140 | 20 => 20 | 213 => 141 | 46 => 96 | 232 => 165 | 233 => 166 | n => n, fun | 17 => 2 | 18 => 7 | 19 => 8 | n => n⟩
theorem laysM171 : Go.Proofs.LaysM.n171 Tryd.prog laysM171_ren := {
  mixed := by kernel_rfl
  f129 := Tryd.func89.trans (congrArg some (by kernel_rfl))
  f171 := Tryd.func33.trans (congrArg some (by kernel_rfl))
  f243 := Tryd.func54.trans (congrArg some (by kernel_rfl))
  f246 := Tryd.func71.trans (congrArg some (by kernel_rfl))
  f283 := Tryd.func75.trans (congrArg some (by kernel_rfl))
  f284 := Tryd.func76.trans (congrArg some (by kernel_rfl))
  f285 := Tryd.func77.trans (congrArg some (by kernel_rfl))
  f286 := Tryd.func78.trans (congrArg some (by kernel_rfl))
  f317 := Tryd.func88.trans (congrArg some (by kernel_rfl))
  f318 := Tryd.func90.trans (congrArg some (by kernel_rfl))
  f319 := Tryd.func91.trans (congrArg some (by kernel_rfl))
  f320 := Tryd.func92.trans (congrArg some (by kernel_rfl))
  f337 := Tryd.func104.trans (congrArg some (by kernel_rfl))
  f338 := Tryd.func105.trans (congrArg some (by kernel_rfl))
  t0 := Tryd.underlying0
  a0 := Tryd.isAgg0
  z0 := Tryd.sizeOf0
  v0 := Tryd.zeroValue0
  t2 := Tryd.underlying2
  a2 := Tryd.isAgg2
  z2 := Tryd.sizeOf2
  v2 := Tryd.zeroValue2
  t3 := Tryd.underlying3
  a3 := Tryd.isAgg3
  z3 := Tryd.sizeOf3
  v3 := Tryd.zeroValue3
  t4 := Tryd.underlying4
  a4 := Tryd.isAgg4
  z4 := Tryd.sizeOf4
  v4 := Tryd.zeroValue4
  t5 := Tryd.underlying5
  a5 := Tryd.isAgg5
  z5 := Tryd.sizeOf5
  v5 := Tryd.zeroValue5
  t9 := Tryd.underlying9
  a9 := Tryd.isAgg9
  z9 := Tryd.sizeOf9
  v9 := Tryd.zeroValue9
  t20 := Tryd.underlying20
  a20 := Tryd.isAgg20
  z20 := Tryd.sizeOf20
  v20 := Tryd.zeroValue20
  t37 := Tryd.underlying22
  a37 := Tryd.isAgg22
  z37 := Tryd.sizeOf22
  v37 := Tryd.zeroValue22
  t46 := Tryd.underlying96
  a46 := Tryd.isAgg96
  z46 := Tryd.sizeOf96
  v46 := Tryd.zeroValue96
  t51 := Tryd.underlying140
  a51 := Tryd.isAgg140
  z51 := Tryd.sizeOf140
  v51 := Tryd.zeroValue140
  t53 := Tryd.underlying122
  a53 := Tryd.isAgg122
  z53 := Tryd.sizeOf122
  v53 := Tryd.zeroValue122
  t171 := Tryd.underlying121
  a171 := Tryd.isAgg121
  z171 := Tryd.sizeOf121
  v171 := Tryd.zeroValue121
  t173 := Tryd.underlying125
  a173 := Tryd.isAgg125
  z173 := Tryd.sizeOf125
  v173 := Tryd.zeroValue125
  t212 := Tryd.underlying139
  a212 := Tryd.isAgg139
  z212 := Tryd.sizeOf139
  v212 := Tryd.zeroValue139
  t213 := Tryd.underlying141
  a213 := Tryd.isAgg141
  z213 := Tryd.sizeOf141
  t232 := Tryd.underlying165
  a232 := Tryd.isAgg165
  z232 := Tryd.sizeOf165
  v232 := Tryd.zeroValue165
  t233 := Tryd.underlying166
  a233 := Tryd.isAgg166
  z233 := Tryd.sizeOf166
  v233 := Tryd.zeroValue166
  g17 := by kernel_rfl
  g18 := by kernel_rfl
  g19 := by kernel_rfl
  i0 := by kernel_rfl
  i2 := by kernel_rfl
  i3 := by kernel_rfl
  i4 := by kernel_rfl
  i5 := by kernel_rfl
  i9 := by kernel_rfl
  i20 := by kernel_rfl
  i37 := by kernel_rfl
  i46 := by kernel_rfl
  i51 := by kernel_rfl
  i53 := by kernel_rfl
  i171 := by kernel_rfl
  i173 := by kernel_rfl
  i212 := by kernel_rfl
  i232 := by kernel_rfl
  i233 := by kernel_rfl
  m17 := by kernel_rfl
  m18 := by kernel_rfl
  m19 := by kernel_rfl }
def laysM179_ren : Go.Shelf.Ren := ⟨fun | 179 => 61 | 251 => 52 | 252 => 53 | 181 => 68 | 184 => 69 | 290 => 70 | 324 => 74 | n => n, fun | 130 => 86 | 5 => 5 | 75 => 76 | 0 => 0 | 93 => 74 | 91 => 72 | 3 => 3 | 131 => 92 | 4 => 4 | 37 => 22 | 20 => 20 | 80 => 173 | 9 => 9 | n => n, fun | 14 => 0 | n => n⟩
theorem laysM179 : Go.Proofs.LaysM.n179 Tryd.prog laysM179_ren := {
  mixed := by kernel_rfl
  f179 := Tryd.func61.trans (congrArg some (by kernel_rfl))
  f181 := Tryd.func68.trans (congrArg some (by kernel_rfl))
  f184 := Tryd.func69.trans (congrArg some (by kernel_rfl))
  f251 := Tryd.func52.trans (congrArg some (by kernel_rfl))
  f252 := Tryd.func53.trans (congrArg some (by kernel_rfl))
  f290 := Tryd.func70.trans (congrArg some (by kernel_rfl))
  f324 := Tryd.func74.trans (congrArg some (by kernel_rfl))
  t0 := Tryd.underlying0
  a0 := Tryd.isAgg0
  z0 := Tryd.sizeOf0
  v0 := Tryd.zeroValue0
  t3 := Tryd.underlying3
  a3 := Tryd.isAgg3
  z3 := Tryd.sizeOf3
  v3 := Tryd.zeroValue3
  t4 := Tryd.underlying4
  a4 := Tryd.isAgg4
  z4 := Tryd.sizeOf4
  v4 := Tryd.zeroValue4
  t5 := Tryd.underlying5
  a5 := Tryd.isAgg5
  z5 := Tryd.sizeOf5
  v5 := Tryd.zeroValue5
  t20 := Tryd.underlying20
  a20 := Tryd.isAgg20
  z20 := Tryd.sizeOf20
  v20 := Tryd.zeroValue20
  t37 := Tryd.underlying22
  a37 := Tryd.isAgg22
  z37 := Tryd.sizeOf22
  v37 := Tryd.zeroValue22
  t75 := Tryd.underlying76
  a75 := Tryd.isAgg76
  z75 := Tryd.sizeOf76
  v75 := Tryd.zeroValue76
  t91 := Tryd.underlying72
  a91 := Tryd.isAgg72
  z91 := Tryd.sizeOf72
  v91 := Tryd.zeroValue72
  t93 := Tryd.underlying74
  a93 := Tryd.isAgg74
  z93 := Tryd.sizeOf74
  v93 := Tryd.zeroValue74
  t130 := Tryd.underlying86
  a130 := Tryd.isAgg86
  z130 := Tryd.sizeOf86
  v130 := Tryd.zeroValue86
  t131 := Tryd.underlying92
  a131 := Tryd.isAgg92
  z131 := Tryd.sizeOf92
  v131 := Tryd.zeroValue92
  g14 := by kernel_rfl
  t9 := Tryd.underlying9
  a9 := Tryd.isAgg9
  z9 := Tryd.sizeOf9
  v9 := Tryd.zeroValue9
  t80 := Tryd.underlying173
  a80 := Tryd.isAgg173
  z80 := Tryd.sizeOf173
  v80 := Tryd.zeroValue173
  i0 := by kernel_rfl
  i3 := by kernel_rfl
  i4 := by kernel_rfl
  i5 := by kernel_rfl
  i9 := by kernel_rfl
  i20 := by kernel_rfl
  i37 := by kernel_rfl
  i75 := by kernel_rfl
  i80 := by kernel_rfl
  i91 := by kernel_rfl
  i93 := by kernel_rfl
  i130 := by kernel_rfl
  i131 := by kernel_rfl
  m14 := by kernel_rfl }
def laysM178_ren : Go.Shelf.Ren := ⟨fun | 178 => 32 | 251 => 52 | 252 => 53 | 181 => 68 | 184 => 69 | 290 => 70 | 324 => 74 | n => n, fun | 130 => 86 | 9 => 9 | 3 => 3 | 75 => 76 | 0 => 0 | 93 => 74 | 91 => 72 | 131 => 92 | 4 => 4 | 37 => 22 | 20 => 20 | 80 => 173 | 5 => 5 | n => n, fun | 14 => 0 | n => n⟩
theorem laysM178 : Go.Proofs.LaysM.n178 Tryd.prog laysM178_ren := {
  mixed := by kernel_rfl
  f178 := Tryd.func32.trans (congrArg some (by kernel_rfl))
  f181 := Tryd.func68.trans (congrArg some (by kernel_rfl))
  f184 := Tryd.func69.trans (congrArg some (by kernel_rfl))
  f251 := Tryd.func52.trans (congrArg some (by kernel_rfl))
  f252 := Tryd.func53.trans (congrArg some (by kernel_rfl))
  f290 := Tryd.func70.trans (congrArg some (by kernel_rfl))
  f324 := Tryd.func74.trans (congrArg some (by kernel_rfl))
  t0 := Tryd.underlying0
  a0 := Tryd.isAgg0
  z0 := Tryd.sizeOf0
  v0 := Tryd.zeroValue0
  t3 := Tryd.underlying3
  a3 := Tryd.isAgg3
  z3 := Tryd.sizeOf3
  v3 := Tryd.zeroValue3
  t4 := Tryd.underlying4
  a4 := Tryd.isAgg4
  z4 := Tryd.sizeOf4
  v4 := Tryd.zeroValue4
  t9 := Tryd.underlying9
  a9 := Tryd.isAgg9
  z9 := Tryd.sizeOf9
  v9 := Tryd.zeroValue9
  t20 := Tryd.underlying20
  a20 := Tryd.isAgg20
  z20 := Tryd.sizeOf20
  v20 := Tryd.zeroValue20
  t37 := Tryd.underlying22
  a37 := Tryd.isAgg22
  z37 := Tryd.sizeOf22
  v37 := Tryd.zeroValue22
  t75 := Tryd.underlying76
  a75 := Tryd.isAgg76
  z75 := Tryd.sizeOf76
  v75 := Tryd.zeroValue76
  t91 := Tryd.underlying72
  a91 := Tryd.isAgg72
  z91 := Tryd.sizeOf72
  v91 := Tryd.zeroValue72
  t93 := Tryd.underlying74
  a93 := Tryd.isAgg74
  z93 := Tryd.sizeOf74
  v93 := Tryd.zeroValue74
  t130 := Tryd.underlying86
  a130 := Tryd.isAgg86
  z130 := Tryd.sizeOf86
  v130 := Tryd.zeroValue86
  t131 := Tryd.underlying92
  a131 := Tryd.isAgg92
  z131 := Tryd.sizeOf92
  v131 := Tryd.zeroValue92
  g14 := by kernel_rfl
  t5 := Tryd.underlying5
  a5 := Tryd.isAgg5
  z5 := Tryd.sizeOf5
  v5 := Tryd.zeroValue5
  t80 := Tryd.underlying173
  a80 := Tryd.isAgg173
  z80 := Tryd.sizeOf173
  v80 := Tryd.zeroValue173
  i0 := by kernel_rfl
  i3 := by kernel_rfl
  i4 := by kernel_rfl
  i5 := by kernel_rfl
  i9 := by kernel_rfl
  i20 := by kernel_rfl
  i37 := by kernel_rfl
  i75 := by kernel_rfl
  i80 := by kernel_rfl
  i91 := by kernel_rfl
  i93 := by kernel_rfl
  i130 := by kernel_rfl
  i131 := by kernel_rfl
  m14 := by kernel_rfl }
def laysM183_ren : Go.Shelf.Ren := ⟨fun | 183 => 37 | n => n, fun | 130 => 86 | 37 => 22 | 0 => 0 | 93 => 74 | 3 => 3 | 5 => 5 | 91 => 72 | n => n, fun | n => n⟩
theorem laysM183 : Go.Proofs.LaysM.n183 Tryd.prog laysM183_ren := {
  mixed := by kernel_rfl
  f183 := Tryd.func37.trans (congrArg some (by kernel_rfl))
  t0 := Tryd.underlying0
  a0 := Tryd.isAgg0
  z0 := Tryd.sizeOf0
  v0 := Tryd.zeroValue0
  t3 := Tryd.underlying3
  a3 := Tryd.isAgg3
  z3 := Tryd.sizeOf3
  v3 := Tryd.zeroValue3
  t37 := Tryd.underlying22
  a37 := Tryd.isAgg22
  z37 := Tryd.sizeOf22
  v37 := Tryd.zeroValue22
  t93 := Tryd.underlying74
  a93 := Tryd.isAgg74
  z93 := Tryd.sizeOf74
  v93 := Tryd.zeroValue74
  t130 := Tryd.underlying86
  a130 := Tryd.isAgg86
  z130 := Tryd.sizeOf86
  v130 := Tryd.zeroValue86
  t5 := Tryd.underlying5
  a5 := Tryd.isAgg5
  z5 := Tryd.sizeOf5
  v5 := Tryd.zeroValue5
  t91 := Tryd.underlying72
  a91 := Tryd.isAgg72
  z91 := Tryd.sizeOf72
  v91 := Tryd.zeroValue72
  i0 := by kernel_rfl
  i3 := by kernel_rfl
  i5 := by kernel_rfl
  i37 := by kernel_rfl
  i91 := by kernel_rfl
  i93 := by kernel_rfl
  i130 := by kernel_rfl }
def lays7n32_ren : Go.Shelf.Ren := ⟨fun | 32 => 84 | 49 => 98 | n => n, fun | 30 => 22 | 21 => 21 | 3 => 3 | 0 => 0 | 5 => 5 | 4 => 4 | 33 => 134 | 66 => 155 | 25 => 96 | 69 => 158 | 68 => 157 | n => n, fun | 2 => 3 | 3 => 4 | n => n⟩
theorem lays7n32 : Go.Proofs.Lays7.n32 Tryd.prog lays7n32_ren := {
  mixed := by kernel_rfl
  f32 := Tryd.func84.trans (congrArg some (by kernel_rfl))
  f49 := Tryd.func98.trans (congrArg some (by kernel_rfl))
  t0 := Tryd.underlying0
  a0 := Tryd.isAgg0
  z0 := Tryd.sizeOf0
  v0 := Tryd.zeroValue0
  i0 := by kernel_rfl
  t3 := Tryd.underlying3
  a3 := Tryd.isAgg3
  z3 := Tryd.sizeOf3
  v3 := Tryd.zeroValue3
  i3 := by kernel_rfl
  t4 := Tryd.underlying4
  a4 := Tryd.isAgg4
  z4 := Tryd.sizeOf4
  v4 := Tryd.zeroValue4
  i4 := by kernel_rfl
  t5 := Tryd.underlying5
  a5 := Tryd.isAgg5
  z5 := Tryd.sizeOf5
  v5 := Tryd.zeroValue5
  i5 := by kernel_rfl
  t21 := Tryd.underlying21
  a21 := Tryd.isAgg21
  z21 := Tryd.sizeOf21
  v21 := Tryd.zeroValue21
  i21 := by kernel_rfl
  t25 := Tryd.underlying96
  a25 := Tryd.isAgg96
  z25 := Tryd.sizeOf96
  v25 := Tryd.zeroValue96
  i25 := by kernel_rfl
  t30 := Tryd.underlying22
  a30 := Tryd.isAgg22
  z30 := Tryd.sizeOf22
  v30 := Tryd.zeroValue22
  i30 := by kernel_rfl
  t33 := Tryd.underlying134
  a33 := Tryd.isAgg134
  z33 := Tryd.sizeOf134
  v33 := Tryd.zeroValue134
  i33 := by kernel_rfl
  t66 := Tryd.underlying155
  a66 := Tryd.isAgg155
  z66 := Tryd.sizeOf155
  t68 := Tryd.underlying157
  a68 := Tryd.isAgg157
  z68 := Tryd.sizeOf157
  v68 := Tryd.zeroValue157
  i68 := by kernel_rfl
  t69 := Tryd.underlying158
  a69 := Tryd.isAgg158
  z69 := Tryd.sizeOf158
  v69 := Tryd.zeroValue158
  i69 := by kernel_rfl
  g2 := by kernel_rfl
  g3 := by kernel_rfl }
end Go.Proofs.YtbmlopklhgladaaDoor.Shf
set_option linter.unusedVariables false
namespace Go.Proofs
open Go.Shelf
namespace YtbmlopklhgladaaDoor.Shf
open Go.RowKit
theorem atoi (s : ByteArray) (n : Int) (hl : s.size ≤ 18) (h : Lib.atoi s.data.toList = some n) (w : World) :
    Calls Tryd.prog 73 #[.string s] w fun e w' => e = .returned (.tuple #[.int .i64 n, .nilIface]) ∧ ∃ t, w' = Lib.bytesWorld w 5 t := Any.strconv_Atoi lays172 s n hl h w
theorem below_grow (w : World) (k : Nat) (os : Array Obj) : Below w.heap.size w (Sort.grow (w.drewN k) os) :=
  ⟨rfl, rfl, rfl, by simp [Sort.grow, World.drewN], fun i hi => by
    show (w.heap ++ os)[i]? = w.heap[i]?
    rw [Array.getElem?_append_left hi]⟩
theorem itoa (n : Int) (h0 : -9223372036854775808 ≤ n) (h1 : n ≤ 9223372036854775807) (w : World) (htab : Lib.TabIs Tryd.prog w "internal/strconv.uint64pow10" .u64 Lib.pow10Tab) :
    Calls Tryd.prog 33 #[.int .i64 n] w fun e w' => e = .returned (.string ⟨(Lib.itoa n).toArray⟩) ∧ Below w.heap.size w w' :=
  (Any.strconv_Itoa laysM171 n h0 h1 w htab).mono fun e w' ⟨he, k, os, hw⟩ => ⟨he, hw ▸ below_grow w k os⟩
theorem writeByte (B b : Nat) (bs : List Value) (c : Int) (w : World) (h : Lib.IsBuffer 74 5 B b bs w) (hBw : B ≤ w.heap.size) (h1 : ∀ v ∈ bs, v.oneCell' = true) (hlim : bs.length + 1 ≤ 140737488355328) :
    Calls Tryd.prog 61 #[.pointer (some ⟨b, 0, none⟩), .int .u8 c] w fun e w' => e = .returned .nilIface ∧ Lib.IsBuffer 74 5 B b (bs ++ [.int .u8 c]) w' ∧ Below B w w' ∧ Lib.OthersKept 5 (some b) w w' := Any.Buffer_WriteByte_k laysM179 B b bs c w h hBw h1 hlim
theorem writeString (B b : Nat) (bs : List Value) (s : ByteArray) (w : World) (h : Lib.IsBuffer 74 5 B b bs w) (hBw : B ≤ w.heap.size) (h1 : ∀ v ∈ bs, v.oneCell' = true) (hlim : bs.length + s.size ≤ 140737488355328) :
    Calls Tryd.prog 32 #[.pointer (some ⟨b, 0, none⟩), .string s] w fun e w' => e = .returned (.tuple #[.int .i64 s.size, .nilIface]) ∧ Lib.IsBuffer 74 5 B b (bs ++ Lib.byteCells s.data.toList) w' ∧ Below B w w' ∧ Lib.OthersKept 5 (some b) w w' := Any.Buffer_WriteString_k laysM178 B b bs s w h hBw h1 hlim
theorem bytes (B b : Nat) (bs : List Value) (w : World) (h : Lib.IsBuffer 74 5 B b bs w) :
    Calls Tryd.prog 37 #[.pointer (some ⟨b, 0, none⟩)] w fun e w' => ∃ v, e = .returned v ∧ w'.ownsRow B 5 1 v bs.length bs ∧ ∃ n, w' = w.drewN n := Any.Buffer_Bytes laysM183 B b bs w h
theorem decodeRune (s : ByteArray) (b off cap : Nat) (w : World) (hT : Lib.Utf8Tabs 3 4 w) (hp : ∀ j, j < s.size → w.cell? ⟨b, off + j, none⟩ = some (.int .u8 (s.get! j).toNat)) :
    Calls Tryd.prog 84 #[.slice (some ⟨b, off, none⟩) s.size cap] w fun e w' => e = .returned (.tuple #[.int .i32 (Lib.decodeGo s).1, .int .i64 (Lib.decodeGo s).2]) ∧ Below w.heap.size w w' := Any7.utf8_DecodeRune lays7n32 s b off cap w hT hp
end YtbmlopklhgladaaDoor.Shf
end Go.Proofs
set_option linter.unusedVariables false
set_option linter.unusedSimpArgs false
namespace Go.Proofs.YtbmlopklhgladaaDoor.Ian
open Go.RowKit K Pnm

/-- what the decoder gives beyond ASCII -/
structure Dec (s : ByteArray) (r k : Nat) : Prop where
  k1 : 1 ≤ k
  ks : k ≤ s.size
  hi : ∀ j, j < k → 128 ≤ (s.get! j).toNat
  r1 : 128 ≤ r
  r2 : r < 2147483648
  enc : r ≠ 65533 → (k = 2 ∧ (Utf8.encode (r : Int)).size = 2 ∧ ((Utf8.encode (r : Int)).data.toList)[0]? ≠ some 10) ∨ (3 ≤ k ∧ (Utf8.encode (r : Int)).size = k)
theorem enc2 (r : Nat) (h1 : 128 ≤ r) (h2 : r < 2048) : (Utf8.encode (r : Int)).size = 2 ∧ ((Utf8.encode (r : Int)).data.toList)[0]? ≠ some 10 := by
  have hv : Utf8.valid (r : Int) = true := by unfold Utf8.valid; simp; omega
  unfold Utf8.encode
  simp only [hv, if_true, Int.toNat_natCast]
  rw [if_neg (by omega), if_pos (by omega)]
  refine ⟨rfl, ?_⟩
  simp only [List.getElem?_cons_zero, ne_eq, Option.some.injEq]
  intro e
  have := congrArg UInt8.toNat e
  rw [UInt8.toNat_ofNat_of_lt' (by show _ < 256; omega)] at this
  have h10 : (10 : UInt8).toNat = 10 := rfl
  omega
theorem enc3 (r : Nat) (hv : Utf8.valid (r : Int) = true) (h1 : 2048 ≤ r) (h2 : r < 65536) : (Utf8.encode (r : Int)).size = 3 := by
  unfold Utf8.encode
  simp only [hv, if_true, Int.toNat_natCast]
  rw [if_neg (by omega), if_neg (by omega), if_pos (by omega)]
  rfl
theorem enc4 (r : Nat) (hv : Utf8.valid (r : Int) = true) (h1 : 65536 ≤ r) : (Utf8.encode (r : Int)).size = 4 := by
  unfold Utf8.encode
  simp only [hv, if_true, Int.toNat_natCast]
  rw [if_neg (by omega), if_neg (by omega), if_neg (by omega)]
  rfl
theorem dec_of {s : ByteArray} (hs : 0 < s.size) (h0 : 128 ≤ (s.get! 0).toNat) : Dec s (Lib.decodeGo s).1 (Lib.decodeGo s).2 := by
  have hbad : Dec s 65533 1 := ⟨by omega, by omega, fun j hj => by rw [Nat.lt_one_iff.1 hj]; exact h0, by omega, by omega, fun h => absurd rfl h⟩
  have hc : ∀ k, ((decide (0 + k < s.size)) && ((s.get! (0 + k)).toNat / 64 == 2)) = true → k < s.size ∧ 128 ≤ (s.get! k).toNat := fun k h => by
    simp only [Nat.zero_add, Bool.and_eq_true, decide_eq_true_eq, beq_iff_eq] at h
    exact ⟨h.1, by omega⟩
  have hlt : ∀ k, (s.get! k).toNat < 256 := fun k => UInt8.toNat_lt _
  unfold Lib.decodeGo
  rw [if_neg (by omega)]
  unfold Utf8.decode
  simp only [Nat.zero_add] at hc ⊢
  have hn : ¬ (s.get! 0).toNat < 128 := by omega
  rw [if_neg hn]
  split
  · rename_i hA
    rw [Bool.and_eq_true] at hA
    have h1 := hc 1 hA.2
    have b0 := hlt 0
    have b1 := hlt 1
    split
    · rename_i hB
      refine ⟨by omega, by omega, fun j hj => ?_, by simpa using hB, by omega, fun _ => .inl ⟨rfl, enc2 _ (by simpa using hB) (by omega)⟩⟩
      rcases (by omega : j = 0 ∨ j = 1) with rfl | rfl
      · exact h0
      · exact h1.2
    · exact hbad
  · split
    · rename_i hA
      simp only [Bool.and_eq_true] at hA
      have h1 := hc 1 (by simp only [Bool.and_eq_true]; exact hA.1.2)
      have h2 := hc 2 (by simp only [Bool.and_eq_true]; exact hA.2)
      have b0 := hlt 0
      have b1 := hlt 1
      have b2 := hlt 2
      split
      · rename_i hB
        simp only [Bool.and_eq_true, decide_eq_true_eq, ge_iff_le] at hB
        refine ⟨by omega, by omega, fun j hj => ?_, by have := hB.1; omega, by omega, fun _ => .inr ⟨by omega, enc3 _ hB.2 hB.1 (by omega)⟩⟩
        rcases (by omega : j = 0 ∨ j = 1 ∨ j = 2) with rfl | rfl | rfl
        · exact h0
        · exact h1.2
        · exact h2.2
      · exact hbad
    · split
      · rename_i hA
        simp only [Bool.and_eq_true] at hA
        have h1 := hc 1 (by simp only [Bool.and_eq_true]; exact hA.1.1.2)
        have h2 := hc 2 (by simp only [Bool.and_eq_true]; exact hA.1.2)
        have h3 := hc 3 (by simp only [Bool.and_eq_true]; exact hA.2)
        have b0 := hlt 0
        have b1 := hlt 1
        have b2 := hlt 2
        have b3 := hlt 3
        split
        · rename_i hB
          simp only [Bool.and_eq_true, decide_eq_true_eq, ge_iff_le] at hB
          refine ⟨by omega, by omega, fun j hj => ?_, by have := hB.1; omega, by omega, fun _ => .inr ⟨by omega, enc4 _ hB.2 hB.1⟩⟩
          rcases (by omega : j = 0 ∨ j = 1 ∨ j = 2 ∨ j = 3) with rfl | rfl | rfl | rfl
          · exact h0
          · exact h1.2
          · exact h2.2
          · exact h3.2
        · exact hbad
      · exact hbad
theorem nl_ne {e : ByteArray} (hne : e.data.toList[0]? ≠ some 10) : (([10, 13] : List UInt8) == e.toList) = false := by
  rw [beq_eq_false_iff_ne]
  intro h
  rw [Lib.toList_data] at h
  rw [← h] at hne
  exact absurd rfl hne
theorem run_istr (e : ByteArray) (m : Int) (w : World) (hm : w.cell? ⟨1, 0, none⟩ = some (.int .i64 m)) (h3 : 3 ≤ e.size) (hle : (e.size : Int) ≤ m) :
    (callFunc 85 #[.string ⟨#[10, 13]⟩, .string e]).run Tryd.prog w = .ok (.value (.int .i64 (-1))) w := by
  rw [run_callFunc_extern Tryd.func85 (by kernel_rfl) (by kernel_rfl) (by kernel_rfl) (e := Extern.BytealgIndex.index) (by kernel_rfl), Lib.run_indexString _ e w 1 m (by kernel_rfl) hm (by omega) hle (by decide)]
  have hl : e.data.toList.length = e.size := (Lib.size_eq e).symm
  have : Lib.index (⟨#[10, 13]⟩ : ByteArray).data.toList e.data.toList = -1 := by
    generalize e.data.toList = l at hl
    match l, hl with
    | [], hl => simp at hl; omega
    | [_], hl => simp at hl; omega
    | [_, _], hl => simp at hl; omega
    | a :: b :: c :: d, _ =>
      simp [Lib.index, List.isPrefixOf]
  rw [this]
  rfl
def vb : Nat := max (max 1 3) (max 4 2) + 1
/-- what the library's variables hold -/
structure Vars (w : World) : Prop where
  len : vb ≤ w.heap.size
  most : ∃ m, w.cell? ⟨1, 0, none⟩ = some (.int .i64 m)
  utf : Lib.Utf8Tabs 3 4 w
  tab : Lib.TabIs Tryd.prog w "internal/strconv.uint64pow10" .u64 Lib.pow10Tab
theorem gPow : Tryd.prog.globalNamed "internal/strconv.uint64pow10" = some 2 := by kernel_rfl
theorem cell_same {w w' : World} {g : Nat} (h : w'.heap[g]? = w.heap[g]?) (i : Nat) : w'.cell? ⟨g, i, none⟩ = w.cell? ⟨g, i, none⟩ := by simp [World.cell?, h]
theorem Vars.kept {w w' : World} (h : Vars w) (hs : w.heap.size ≤ w'.heap.size) (hk : ∀ g, g < vb → w'.heap[g]? = w.heap[g]?) : Vars w' := by
  obtain ⟨h1, ⟨m, h2⟩, ⟨h3, h4⟩, h5⟩ := h
  refine ⟨Nat.le_trans h1 hs, ⟨m, (cell_same (hk 1 (by decide)) 0).trans h2⟩, ⟨fun c hc => (cell_same (hk 3 (by decide)) c).trans (h3 c hc), fun i hi => ⟨(cell_same (hk 4 (by decide)) _).trans (h4 i hi).1, (cell_same (hk 4 (by decide)) _).trans (h4 i hi).2⟩⟩, ?_⟩
  unfold Lib.TabIs World.var? at h5 ⊢
  rw [gPow] at h5 ⊢
  simp only [Option.bind_some] at h5 ⊢
  rw [hk 2 (by decide)]
  exact h5
theorem Vars.below {w w' : World} {B : Nat} (h : Vars w) (hb : Below B w w') (hB : w.heap.size ≤ B) : Vars w' := h.kept hb.size (fun g hg => hb.block g (by have := h.len; omega))
theorem Vars.belowv {w w' : World} {B : Nat} (h : Vars w) (hb : Below B w w') (hB : vb ≤ B) : Vars w' := h.kept hb.size (fun g hg => hb.block g (by omega))
/-- bytes as a string -/
def bz (z : List Int) : ByteArray := ⟨(z.map fun x => UInt8.ofNat x.toNat).toArray⟩
theorem bz_size (z : List Int) : (bz z).size = z.length := by
  show (z.map fun x => UInt8.ofNat x.toNat).toArray.size = _
  simp
theorem bz_get {z : List Int} (hwf : ∀ x ∈ z, 0 ≤ x ∧ x < 256) {j : Nat} (hj : j < z.length) : (((bz z).get! j).toNat : Int) = z.getD j 0 := by
  have h1 : (bz z).get! j = UInt8.ofNat (z.getD j 0).toNat := by
    have hj' : j < ((z.map fun x => UInt8.ofNat x.toNat).toArray).size := by simpa using hj
    show ((z.map fun x => UInt8.ofNat x.toNat).toArray)[j]! = _
    rw [getElem!_pos _ j hj']
    simp [List.getD_eq_getElem?_getD, List.getElem?_eq_getElem hj]
  have hb := getD_wf hwf j
  rw [h1, UInt8.toNat_ofNat_of_lt' (by show _ < 256; omega)]
  omega
theorem nlM_skip {z : List Int} {i : Nat} : ∀ {k : Nat}, (∀ j, j < k → i + j < z.length ∧ z.getD (i + j) 0 ≠ 10 ∧ z.getD (i + j) 0 ≠ 13) → nlM z i = nlM z (i + k) := by
  intro k
  induction k with
  | zero => intro h; rfl
  | succ k ih =>
    intro h
    have h1 := h k (by omega)
    rw [ih (fun j hj => h j (by omega)), nlM_step h1.1 (by omega)]
    rfl
theorem ix_nl (x : Int) (h0 : 0 ≤ x) (h1 : x < 256) : Lib.indexByte (⟨#[10, 13]⟩ : ByteArray).data.toList x.toNat.toUInt8 = if x = 10 then 0 else if x = 13 then 1 else -1 := by
  have key : ∀ y : Fin 256, Lib.indexByte (⟨#[10, 13]⟩ : ByteArray).data.toList y.val.toUInt8 = if y.val = 10 then 0 else if y.val = 13 then 1 else -1 := by decide +kernel
  obtain ⟨n, rfl⟩ := Int.eq_ofNat_of_zero_le h0
  have := key ⟨n, by omega⟩
  simp only at this
  rw [Int.toNat_natCast, this]
  by_cases h10 : n = 10
  · subst h10; rfl
  · by_cases h13 : n = 13
    · subst h13; rfl
    · rw [if_neg h10, if_neg h13, if_neg (show ¬ ((n : Int) = 10) by omega), if_neg (show ¬ ((n : Int) = 13) by omega)]
set_option maxHeartbeats 8000000 in
set_option maxRecDepth 1000000 in
theorem iany_short {b o n c : Nat} {z : List Int} (w : World) (HZ : SI w .u8 (some ⟨b, o, none⟩) n z) (hwf : ∀ x ∈ z, 0 ≤ x ∧ x < 256) (h2 : 2 ≤ n) (h8 : n ≤ 8) (hnc : n ≤ c) (HV : Vars w) :
    Calls Tryd.prog 72 #[.slice (some ⟨b, o, none⟩) n c, .string ⟨#[10, 13]⟩] w fun e w' => e = .returned (.int .i64 (ixI (nlM z 0))) ∧ Below w.heap.size w w' := by
  have HZZ := Lib.hid HZ
  have HWF := Lib.hid hwf
  have HLEN := Lib.hid HZ.len
  have HVV := Lib.hid HV
  clear HZ hwf HV
  have he : ((⟨#[10, 13]⟩ : ByteArray) == ⟨#[]⟩) = false := by decide
  have d1 : ((n : Int) == 1) = false := by simp; omega
  have d8 : decide ((8 : Int) < (n : Int)) = false := decide_eq_false (by omega)
  go_enter Tryd.func72, Tryd.ntmps72
  go_wp2_with fail
  refine (should_any (n : Int) w).mono ?_
  rintro e w' ⟨rfl, rfl⟩
  rw [d8]
  go_wp2_with fail
  go_loopw [11, 12] (fun sk si wr => ∃ i k : Nat, i ≤ n ∧ sk = .int .i64 k ∧ si = .int .i64 i ∧ Hid (nlM z 0 = nlM z i) ∧ Hid (Below w.heap.size w wr)) (fun _ si _ => n - (intOf si).toNat)
  case atStart => exact ⟨0, 0, by omega, rfl, rfl, rfl, Below.refl _ _⟩
  case round =>
    obtain ⟨i, k0, hi, rfl, rfl, HN, HB⟩ := hrel
    by_cases hlt : i < n
    · have d1 : decide ((i : Int) < (n : Int)) = true := decide_eq_true (by omega)
      have HZr := Lib.hid (HZZ.out.below HB.out (Nat.le_refl _))
      have HVr := Lib.hid (HVV.out.below HB.out (Nat.le_refl _))
      obtain ⟨b1, o1, hA1, hcell⟩ := byte_at HZr.out hlt
      injection hA1 with hA1
      injection hA1 with q1 q2 q3
      subst q1 q2
      have hwf := getD_wf HWF.out i
      have hix := ix_nl (z.getD i 0) hwf.1 hwf.2
      have hr := run_ibs ⟨#[10, 13]⟩ (z.getD i 0)
      rw [hix] at hr
      obtain ⟨x, hx⟩ : ∃ x, z.getD i 0 = x := ⟨_, rfl⟩
      rw [hx] at hcell hwf hr
      have HX := Lib.hid hx
      clear hx hix
      by_cases h128 : x < 128
      · have e1 : decide (x < 128) = true := decide_eq_true h128
        by_cases h10 : x = 10 ∨ x = 13
        · have HE : Hid (nlM z 0 = some i) := by show _ = _; rw [HN.out, nlM_hit (by rw [HLEN.out]; exact hlt) (by rw [HX.out]; exact h10)]
          rcases h10 with rfl | rfl
          · have hr' : ∀ w, (callFunc 79 #[.string ⟨#[10, 13]⟩, .int .u8 10]).run Tryd.prog w = .ok (.value (.int .i64 0)) w := hr
            clear hr
            go_wp2
            go_ret
            exact ⟨by rw [HE.out]; rfl, HB.out⟩
          · have hr' : ∀ w, (callFunc 79 #[.string ⟨#[10, 13]⟩, .int .u8 13]).run Tryd.prog w = .ok (.value (.int .i64 1)) w := hr
            clear hr
            go_wp2
            go_ret
            exact ⟨by rw [HE.out]; rfl, HB.out⟩
        · have HE : Hid (nlM z 0 = nlM z (i + 1)) := by show _ = _; rw [HN.out, nlM_step (by rw [HLEN.out]; exact hlt) (by rw [HX.out]; exact h10)]
          rw [if_neg (fun h => h10 (.inl h)), if_neg (fun h => h10 (.inr h))] at hr
          clear h10
          go_wp2
          refine ⟨⟨i + 1, 1, by omega, rfl, by go_num, HE, HB⟩, ?_⟩
          simp [intOf]; omega
      · have e1 : decide (x < 128) = false := decide_eq_false h128
        clear hr
        have HWZ := HWF.out
        have HRZ : Hid (∀ j, j < (bz (z.drop i)).size → wr.cell? ⟨b, (o + i) + j, none⟩ = some (.int .u8 ((bz (z.drop i)).get! j).toNat)) := fun j hj => by
          rw [bz_size, List.length_drop] at hj
          obtain ⟨b3, o3, hA3, hc3⟩ := byte_at HZr.out (show i + j < n by have := HLEN.out; omega)
          injection hA3 with hA3
          injection hA3 with q1 q2 q3
          subst q1 q2
          rw [Nat.add_assoc, hc3, bz_get (fun x hx => HWF.out x (List.mem_of_mem_drop hx)) (by rw [List.length_drop]; exact hj)]
          simp [List.getD_eq_getElem?_getD, List.getElem?_drop]
        have hsz : (bz (z.drop i)).size = n - i := by rw [bz_size, List.length_drop, HLEN.out]
        have HDEC : Hid (Dec (bz (z.drop i)) (Lib.decodeGo (bz (z.drop i))).1 (Lib.decodeGo (bz (z.drop i))).2) := dec_of (by omega) (by
          have := bz_get (z := z.drop i) (fun x hx => HWF.out x (List.mem_of_mem_drop hx)) (j := 0) (by rw [List.length_drop, HLEN.out]; omega)
          rw [show (z.drop i).getD 0 0 = x by rw [← HX.out]; simp [List.getD_eq_getElem?_getD, List.getElem?_drop]] at this
          omega)
        have HSK : Hid (nlM z i = nlM z (i + (Lib.decodeGo (bz (z.drop i))).2)) := nlM_skip (fun j hj => by
          have hk := HDEC.out.ks
          have hh := HDEC.out.hi j hj
          have := bz_get (z := z.drop i) (fun x hx => HWF.out x (List.mem_of_mem_drop hx)) (j := j) (by rw [List.length_drop, HLEN.out]; omega)
          rw [show (z.drop i).getD j 0 = z.getD (i + j) 0 by simp [List.getD_eq_getElem?_getD, List.getElem?_drop]] at this
          have := HLEN.out
          omega)
        have HCALL := Lib.hid (Shf.decodeRune (bz (z.drop i)) b (o + i) (c - i) wr HVr.out.utf HRZ.out)
        rw [hsz] at HCALL
        have hci : ¬ (c = i) := by omega
        clear HRZ HWZ
        obtain ⟨r, hr⟩ : ∃ r, (Lib.decodeGo (bz (z.drop i))).1 = r := ⟨_, rfl⟩
        obtain ⟨k, hk⟩ : ∃ k, (Lib.decodeGo (bz (z.drop i))).2 = k := ⟨_, rfl⟩
        rw [hr, hk] at HDEC HCALL
        rw [hk] at HSK
        obtain ⟨k1, ks, -, r1, r2, -⟩ := HDEC.out
        rw [hsz] at ks
        clear hr hk hsz
        go_wp2_with fail
--<any
        refine HCALL.out.mono ?_
        rintro e wd ⟨rfl, hbd⟩
        have HBD : Hid (Below w.heap.size w wd) := HB.out.trans (hbd.mono HB.out.size)
        have HE : Hid (nlM z 0 = nlM z (i + k)) := by show _ = _; rw [HN.out, HSK.out]
        have HVd := Lib.hid (HVr.out.below hbd (Nat.le_refl _))
        obtain ⟨m, hm⟩ := HVd.out.most
        clear hbd HCALL hcell
        by_cases hre : r = 65533
        · have f1 : ((r : Int) != 65533) = false := by simp [hre]
          clear hre
          have HIT0 : Hid ((wd.alloc (.stringIter ⟨#[10, 13]⟩ 0)).heap[wd.heap.size]? = some (.stringIter ⟨#[10, 13]⟩ 0)) := heap_alloc_new _ _
          have HBI : Hid (Below w.heap.size w (wd.alloc (.stringIter ⟨#[10, 13]⟩ 0))) := HBD.out.alloc HBD.out.size _
          have HGW : Hid (w.heap.size ≤ wd.heap.size) := HBD.out.size
          go_wp2_with fail
          generalize wd.heap.size = q at HIT0 HGW ⊢
          go_loopw [15] (fun _ wx => ∃ pos : Nat, pos ≤ 2 ∧ Hid (wx.heap[q]? = some (.stringIter ⟨#[10, 13]⟩ pos)) ∧ Hid (Below w.heap.size w wx)) (fun _ wx => 2 - wx.iterPos q)
          case atStart => exact ⟨0, by omega, HIT0, HBI⟩
          case round =>
            obtain ⟨pos, hp, HIT, HBX⟩ := hrel
            rcases (by omega : pos = 0 ∨ pos = 1 ∨ pos = 2) with rfl | rfl | rfl
            · have hnx : ∀ ty, (Instr.next (.pointer (some ⟨q, 0, none⟩)) true ty).run Tryd.prog wr = _ := fun ty => Lib.run_next_ascii_at wr q ⟨#[10, 13]⟩ 0 ty HIT.out (by decide) (by decide)
              simp only [show (((⟨#[10, 13]⟩ : ByteArray)[0]'(by decide)).toNat : Int) = 10 from rfl] at hnx
              have HI2 := Lib.hid (Lib.iterAt_heap wr q ⟨#[10, 13]⟩ 0 1 HIT.out)
              have HB2 := Lib.hid (Lib.below_iterAt HBX.out HGW.out ⟨#[10, 13]⟩ 1)
              have HMS : Hid (wr.iterPos q = 0) := by show _ = _; simp [World.iterPos, HIT.out]
              have HMS2 : Hid ((wr.iterAt q ⟨#[10, 13]⟩ 1).iterPos q = 1) := by show _ = _; simp [World.iterPos, HI2.out]
              generalize wr.iterAt q ⟨#[10, 13]⟩ (0 + 1) = wy at hnx HI2 HB2 HMS2
              have g1 : ((r : Int) == 10) = false := by simp; omega
              go_wp2_with fail
              exact ⟨⟨1, by omega, HI2, HB2⟩, by rw [HMS.out, HMS2.out]; omega⟩
            · have hnx : ∀ ty, (Instr.next (.pointer (some ⟨q, 0, none⟩)) true ty).run Tryd.prog wr = _ := fun ty => Lib.run_next_ascii_at wr q ⟨#[10, 13]⟩ 1 ty HIT.out (by decide) (by decide)
              simp only [show (((⟨#[10, 13]⟩ : ByteArray)[1]'(by decide)).toNat : Int) = 13 from rfl] at hnx
              have HI2 := Lib.hid (Lib.iterAt_heap wr q ⟨#[10, 13]⟩ 1 2 HIT.out)
              have HB2 := Lib.hid (Lib.below_iterAt HBX.out HGW.out ⟨#[10, 13]⟩ 2)
              have HMS : Hid (wr.iterPos q = 1) := by show _ = _; simp [World.iterPos, HIT.out]
              have HMS2 : Hid ((wr.iterAt q ⟨#[10, 13]⟩ 2).iterPos q = 2) := by show _ = _; simp [World.iterPos, HI2.out]
              generalize wr.iterAt q ⟨#[10, 13]⟩ (1 + 1) = wy at hnx HI2 HB2 HMS2
              have g1 : ((r : Int) == 13) = false := by simp; omega
              go_wp2_with fail
              exact ⟨⟨2, by omega, HI2, HB2⟩, by rw [HMS.out, HMS2.out]; omega⟩
            · have hnx : ∀ ty, (Instr.next (.pointer (some ⟨q, 0, none⟩)) true ty).run Tryd.prog wr = _ := fun ty => Lib.run_next_end_at wr q ⟨#[10, 13]⟩ 2 ty HIT.out (by decide)
              go_wp2_with fail
              refine ⟨⟨i + k, k, by omega, rfl, by go_num, HE, HBX⟩, ?_⟩
              simp [intOf]; omega
        · have f1 : ((r : Int) != 65533) = true := by simp; omega
          rcases HDEC.out.enc hre with ⟨hk2, hes, hne⟩ | ⟨hk3, hes⟩
          · have f2 : ((2 : Int) == (k : Int)) = true := by simp [hk2]
            have f3 : (([10, 13] : List UInt8) == (Utf8.encode (r : Int)).toList) = false := by
              exact nl_ne hne
            clear hk2 hes hne hre
            go_wp2_with fail
            refine ⟨⟨i + k, k, by omega, rfl, by go_num, HE, HBD⟩, ?_⟩
            simp [intOf]; omega
          · have f2 : ((2 : Int) == (k : Int)) = false := by simp; omega
            by_cases hmk : (k : Int) ≤ m
            · have f3 : decide ((k : Int) ≤ m) = true := decide_eq_true hmk
              have f4 := run_istr (Utf8.encode (r : Int)) m wd hm (by omega) (by omega)
              clear hes hre hmk
              go_wp2_with fail
              refine ⟨⟨i + k, k, by omega, rfl, by go_num, HE, HBD⟩, ?_⟩
              simp [intOf]; omega
            · have f3 : decide ((k : Int) ≤ m) = false := decide_eq_false hmk
              clear hes hre hmk
              have HIT0 : Hid ((wd.alloc (.stringIter ⟨#[10, 13]⟩ 0)).heap[wd.heap.size]? = some (.stringIter ⟨#[10, 13]⟩ 0)) := heap_alloc_new _ _
              have HBI : Hid (Below w.heap.size w (wd.alloc (.stringIter ⟨#[10, 13]⟩ 0))) := HBD.out.alloc HBD.out.size _
              have HGW : Hid (w.heap.size ≤ wd.heap.size) := HBD.out.size
              go_wp2_with fail
              generalize wd.heap.size = q at HIT0 HGW ⊢
              go_loopw [15] (fun _ wx => ∃ pos : Nat, pos ≤ 2 ∧ Hid (wx.heap[q]? = some (.stringIter ⟨#[10, 13]⟩ pos)) ∧ Hid (Below w.heap.size w wx)) (fun _ wx => 2 - wx.iterPos q)
              case atStart => exact ⟨0, by omega, HIT0, HBI⟩
              case round =>
                obtain ⟨pos, hp, HIT, HBX⟩ := hrel
                rcases (by omega : pos = 0 ∨ pos = 1 ∨ pos = 2) with rfl | rfl | rfl
                · have hnx : ∀ ty, (Instr.next (.pointer (some ⟨q, 0, none⟩)) true ty).run Tryd.prog wr = _ := fun ty => Lib.run_next_ascii_at wr q ⟨#[10, 13]⟩ 0 ty HIT.out (by decide) (by decide)
                  simp only [show (((⟨#[10, 13]⟩ : ByteArray)[0]'(by decide)).toNat : Int) = 10 from rfl] at hnx
                  have HI2 := Lib.hid (Lib.iterAt_heap wr q ⟨#[10, 13]⟩ 0 1 HIT.out)
                  have HB2 := Lib.hid (Lib.below_iterAt HBX.out HGW.out ⟨#[10, 13]⟩ 1)
                  have HMS : Hid (wr.iterPos q = 0) := by show _ = _; simp [World.iterPos, HIT.out]
                  have HMS2 : Hid ((wr.iterAt q ⟨#[10, 13]⟩ 1).iterPos q = 1) := by show _ = _; simp [World.iterPos, HI2.out]
                  generalize wr.iterAt q ⟨#[10, 13]⟩ (0 + 1) = wy at hnx HI2 HB2 HMS2
                  have g1 : ((r : Int) == 10) = false := by simp; omega
                  go_wp2_with fail
                  exact ⟨⟨1, by omega, HI2, HB2⟩, by rw [HMS.out, HMS2.out]; omega⟩
                · have hnx : ∀ ty, (Instr.next (.pointer (some ⟨q, 0, none⟩)) true ty).run Tryd.prog wr = _ := fun ty => Lib.run_next_ascii_at wr q ⟨#[10, 13]⟩ 1 ty HIT.out (by decide) (by decide)
                  simp only [show (((⟨#[10, 13]⟩ : ByteArray)[1]'(by decide)).toNat : Int) = 13 from rfl] at hnx
                  have HI2 := Lib.hid (Lib.iterAt_heap wr q ⟨#[10, 13]⟩ 1 2 HIT.out)
                  have HB2 := Lib.hid (Lib.below_iterAt HBX.out HGW.out ⟨#[10, 13]⟩ 2)
                  have HMS : Hid (wr.iterPos q = 1) := by show _ = _; simp [World.iterPos, HIT.out]
                  have HMS2 : Hid ((wr.iterAt q ⟨#[10, 13]⟩ 2).iterPos q = 2) := by show _ = _; simp [World.iterPos, HI2.out]
                  generalize wr.iterAt q ⟨#[10, 13]⟩ (1 + 1) = wy at hnx HI2 HB2 HMS2
                  have g1 : ((r : Int) == 13) = false := by simp; omega
                  go_wp2_with fail
                  exact ⟨⟨2, by omega, HI2, HB2⟩, by rw [HMS.out, HMS2.out]; omega⟩
                · have hnx : ∀ ty, (Instr.next (.pointer (some ⟨q, 0, none⟩)) true ty).run Tryd.prog wr = _ := fun ty => Lib.run_next_end_at wr q ⟨#[10, 13]⟩ 2 ty HIT.out (by decide)
                  go_wp2_with fail
                  refine ⟨⟨i + k, k, by omega, rfl, by go_num, HE, HBX⟩, ?_⟩
                  simp [intOf]; omega
--any>
    · obtain rfl : i = n := by omega
      have d1 : decide ((i : Int) < (i : Int)) = false := by simp
      have HE : Hid (nlM z 0 = none) := by show _ = _; rw [HN.out, nlM_end (by rw [HLEN.out]; exact Nat.le_refl _)]
      go_wp2_with fail
      go_ret
      exact ⟨by rw [HE.out]; rfl, HB.out⟩
end Go.Proofs.YtbmlopklhgladaaDoor.Ian
