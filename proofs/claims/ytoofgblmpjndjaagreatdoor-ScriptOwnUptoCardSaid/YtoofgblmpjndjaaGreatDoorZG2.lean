/-
  Texts of this claim, joined by program (ArdB, ArdC, ArdO, ArdG, ArdK). Walks: wide; slices.Min, slices.Max, and the operators that call them.
-/
import Derived.Test.YtoofgblmpjndjaaGreatDoorZG1
import Derived.Laws.CopyOwn
import Derived.Laws.CopyRow
import Derived.Deep.RegionLaw
set_option linter.unusedVariables false
set_option linter.unusedSimpArgs false
namespace Go.Proofs.YtoofgblmpjndjaaGreatDoor.Ard
open Go.RowKit K

theorem getD_at {l : List Int} {i : Nat} {x : Int} (h : l[i]? = some x) : l.getD i 0 = x := by rw [List.getD_eq_getElem?_getD, h]; rfl
theorem wide_any {A : Option Addr} {n c : Nat} {l : List Int} (w : World) (HA : SI w .i64 A n l) (h0 : 0 < n) : Calls Tryz.prog 217 #[.slice A n c] w fun e w' => e = .returned (.tuple #[.int .i64 (l.getD 0 0), .int .i64 (l.getD 0 0)]) ∧ ∃ k, w.drewN k = w' := by
 obtain ⟨b, off, x, rfl, hc, hx, -⟩ := HA.cells (i := 0) h0
 have hi : (0 : Int) < (n : Int) := by omega
 rw [Nat.add_zero] at hc
 rw [getD_at hx.out]
 clear hx
 go_enter Tryz.func217, Tryz.ntmps217
 go_wp2
 go_quiet (fail)
 go_wp2
 go_ret2
 exact ⟨rfl, ⟨_, rfl⟩⟩
theorem min_any {A : Option Addr} {n c : Nat} {l : List Int} (w : World) (HA : SI w .i64 A n l) (h0 : 0 < n) : Calls Tryz.prog 225 #[.slice A n c] w fun e w' => e = .returned (.int .i64 (minK l n)) ∧ w = w' := by
 have hbig := HA.big
 have hlen := HA.len
 obtain ⟨b0, o0, x0, e0, hc0, hx0, -⟩ := HA.cells (i := 0) h0
 rw [Nat.add_zero] at hc0
 have H1 := Lib.hid (minK_one (l := l) (by omega))
 rw [getD_at hx0.out] at H1
 clear hx0
 have hi : (0 : Int) < (n : Int) := by omega
 have d0 : decide ((n : Int) < 1) = false := decide_eq_false (by omega)
 clear hlen
 subst e0
 go_enter Tryz.func225, Tryz.ntmps225
 go_wp2
 go_loop [3, 4] (fun s i => ∃ k : Nat, k ≤ n ∧ 1 ≤ k ∧ i = .int .i64 k ∧ s = .int .i64 (minK l k)) (fun _ i => n - (intOf i).toNat)
 case atStart => exact ⟨1, by omega, Nat.le_refl _, rfl, by rw [H1.out]⟩
 case round =>
  obtain ⟨k, hk, hk1, rfl, rfl⟩ := hrel
  by_cases hlt : k < n
  ·obtain ⟨b, off, x, e1, hc, hx, hx2⟩ := HA.cells hlt
   injection e1 with e1
   injection e1 with e2 e3
   subst e2 e3
   have hlt' : (k : Int) < n := by omega
   have HS := Lib.hid (minK_succ hx.out)
   clear hx
   go_wp2
   all_goals (
    go_round
    case rel => exact ⟨k + 1, by omega, by omega, by go_num, by rw [HS.out]; congr 1; omega⟩
    case measure => simp [intOf]; omega)
  ·obtain rfl : k = n := by omega
   go_wp2
   go_ret
   exact ⟨rfl, rfl⟩
theorem max_any {A : Option Addr} {n c : Nat} {l : List Int} (w : World) (HA : SI w .i64 A n l) (h0 : 0 < n) : Calls Tryz.prog 227 #[.slice A n c] w fun e w' => e = .returned (.int .i64 (maxK l n)) ∧ w = w' := by
 have hbig := HA.big
 have hlen := HA.len
 obtain ⟨b0, o0, x0, e0, hc0, hx0, -⟩ := HA.cells (i := 0) h0
 rw [Nat.add_zero] at hc0
 have H1 := Lib.hid (maxK_one (l := l) (by omega))
 rw [getD_at hx0.out] at H1
 clear hx0
 have hi : (0 : Int) < (n : Int) := by omega
 have d0 : decide ((n : Int) < 1) = false := decide_eq_false (by omega)
 clear hlen
 subst e0
 go_enter Tryz.func227, Tryz.ntmps227
 go_wp2
 go_loop [3, 4] (fun s i => ∃ k : Nat, k ≤ n ∧ 1 ≤ k ∧ i = .int .i64 k ∧ s = .int .i64 (maxK l k)) (fun _ i => n - (intOf i).toNat)
 case atStart => exact ⟨1, by omega, Nat.le_refl _, rfl, by rw [H1.out]⟩
 case round =>
  obtain ⟨k, hk, hk1, rfl, rfl⟩ := hrel
  by_cases hlt : k < n
  ·obtain ⟨b, off, x, e1, hc, hx, hx2⟩ := HA.cells hlt
   injection e1 with e1
   injection e1 with e2 e3
   subst e2 e3
   have hlt' : (k : Int) < n := by omega
   have HS := Lib.hid (maxK_succ hx.out)
   clear hx
   go_wp2
   all_goals (
    go_round
    case rel => exact ⟨k + 1, by omega, by omega, by go_num, by rw [HS.out]; congr 1; omega⟩
    case measure => simp [intOf]; omega)
  ·obtain rfl : k = n := by omega
   go_wp2
   go_ret
   exact ⟨rfl, rfl⟩
def DoP (w : World) (v : Int) (e : Ending) (w' : World) : Prop := e = .returned (.int .i64 v) ∧ Below w.heap.size w w'
theorem wMin_any {A B : Option Addr} {n c m d : Nat} {l : List Int} {own : Int} (w : World) (HB : SI w .i64 B m l) (h0 : 0 < m) : Calls Tryz.prog 224 #[.slice A n c, .agg #[.slice B m d, .int .i64 own]] w (DoP w (minK l m)) := by
 have H := Lib.hid HB
 clear HB
 go_enter Tryz.func224, Tryz.ntmps224
 go_wp2_with fail
 refine (min_any _ (H.out.below ((Below.refl _ w).alloc (Nat.le_refl _) _) (Nat.le_refl _)) h0).mono ?_
 rintro e w' ⟨rfl, rfl⟩
 go_wp2_with fail
 go_ret
 exact ⟨rfl, (Below.refl _ w).alloc (Nat.le_refl _) _⟩
theorem wMax_any {A B : Option Addr} {n c m d : Nat} {l : List Int} {own : Int} (w : World) (HB : SI w .i64 B m l) (h0 : 0 < m) : Calls Tryz.prog 226 #[.slice A n c, .agg #[.slice B m d, .int .i64 own]] w (DoP w (maxK l m)) := by
 have H := Lib.hid HB
 clear HB
 go_enter Tryz.func226, Tryz.ntmps226
 go_wp2_with fail
 refine (max_any _ (H.out.below ((Below.refl _ w).alloc (Nat.le_refl _) _) (Nat.le_refl _)) h0).mono ?_
 rintro e w' ⟨rfl, rfl⟩
 go_wp2_with fail
 go_ret
 exact ⟨rfl, (Below.refl _ w).alloc (Nat.le_refl _) _⟩
end Go.Proofs.YtoofgblmpjndjaaGreatDoor.Ard
set_option linter.unusedVariables false
set_option linter.unusedSimpArgs false
namespace Go.Proofs.YtoofgblmpjndjaaGreatDoor.Ard
open Go.RowKit K

theorem si_drewN {w : World} {k : IntKind} {A : Option Addr} {n : Nat} {l : List Int} (h : SI w k A n l) (j : Nat) : SI (w.drewN j) k A n l := h.below (Go.Proofs.YtoofgblmpjndjaaGreatDoor.K.below_drewN (Below.refl _ _) _) (Nat.le_refl _)
theorem mean_any {A B : Option Addr} {n c m d : Nat} {l : List Int} {own : Int} (w : World) (HB : SI w .i64 B m l) (hw : ∀ v ∈ l, 0 ≤ v ∧ v < 65536) (h0 : 0 < m) (hm : m ≤ 4096) : Calls Tryz.prog 218 #[.slice A n c, .agg #[.slice B m d, .int .i64 own]] w (DoP w ((sumK l m + (m : Int) / 2) / m)) := by
 have H := Lib.hid HB
 have HW := Lib.hid hw
 have hs := sumK_in hw m
 clear HB hw
 go_enter Tryz.func218, Tryz.ntmps218
 have HS : Hid (SI (w.alloc (.cells #[.slice B m d, .int .i64 own] 207)) .i64 B m l) := H.out.below ((Below.refl _ w).alloc (Nat.le_refl _) _) (Nat.le_refl _)
 have hm0 : (m : Int) ≠ 0 := by omega
 have w1 : wrap64 (sumK l m + (m : Int) / 2) = sumK l m + (m : Int) / 2 := IntWalk.wrap64_in _ (by omega)
 have w2 : (sumK l m + (m : Int) / 2).tdiv m = (sumK l m + (m : Int) / 2) / m := Int.tdiv_eq_ediv_of_nonneg (by omega)
 have w3 : wrap64 ((sumK l m + (m : Int) / 2) / m) = (sumK l m + (m : Int) / 2) / m := by
  have h1 : (sumK l m + (m : Int) / 2) / m ≤ sumK l m + (m : Int) / 2 := Int.ediv_le_self _ (by omega)
  have h2 : 0 ≤ (sumK l m + (m : Int) / 2) / m := Int.ediv_nonneg (by omega) (by omega)
  exact IntWalk.wrap64_in _ (by omega)
 clear hs
 go_wp2_with fail
 go_quiet ((go_at_call 220; exact Calls.quiet_of_same ((sum_any _ (si_drewN HS.out _) HW.out hm).mono fun e w' h => ⟨h.1, h.2.symm⟩)))
 go_wp2_with fail
 go_ret
 refine ⟨?_, Go.Proofs.YtoofgblmpjndjaaGreatDoor.K.below_drewN ((Below.refl _ w).alloc (Nat.le_refl _) _) _⟩
 show Ending.returned (Value.int .i64 (wrap64 ((sumK l m + (m : Int) / 2) / m))) = _
 rw [w3]
theorem getD_in {l : List Int} (hw : ∀ v ∈ l, 0 ≤ v ∧ v < 65536) (i : Nat) : 0 ≤ l.getD i 0 ∧ l.getD i 0 < 65536 := by
 rw [List.getD_eq_getElem?_getD]
 cases h : l[i]? with
 | none => simp
 | some v => exact hw v (List.mem_of_getElem? h)
theorem si_at {w : World} {A : Option Addr} {n i : Nat} {l : List Int} {b off : Nat} (h : SI w .i64 (some ⟨b, off, none⟩) n l) (hi : i < n) : w.cell? ⟨b, off + i, none⟩ = some (.int .i64 (l.getD i 0)) := by
 obtain ⟨b', o', x, e, hc, hx, -⟩ := h.cells hi
 injection e with e
 injection e with e1 e2
 subst e1 e2
 rw [getD_at hx.out]; exact hc
theorem emboss_any {A B : Option Addr} {n c m d : Nat} {l : List Int} {own : Int} (w : World) (HB : SI w .i64 B m l) (hw : ∀ v ∈ l, 0 ≤ v ∧ v < 65536) (hm : 9 ≤ m) : Calls Tryz.prog 223 #[.slice A n c, .agg #[.slice B m d, .int .i64 own]] w (DoP w (l.getD 8 0 - l.getD 0 0 + 32768)) := by
 obtain ⟨b, off, x, rfl, -, -, hbl⟩ := HB.cells (i := 0) (by omega)
 have h8 := getD_in hw 8
 have h0 := getD_in hw 0
 have i0 : (0 : Int) < (m : Int) := by omega
 have i8 : (8 : Int) < (m : Int) := by omega
 have HS := HB.below ((Below.refl _ w).alloc (Nat.le_refl _) (.cells #[.slice (some ⟨b, off, none⟩) m d, .int .i64 own] 207)) (Nat.le_refl _)
 have c8 := si_at (A := none) (i := 8) HS (by omega)
 have c0 := si_at (A := none) (i := 0) HS (by omega)
 rw [Nat.add_zero] at c0
 generalize l.getD 8 0 = x8 at *
 generalize l.getD 0 0 = x0 at *
 have w1 : wrap64 (x8 - x0) = x8 - x0 := IntWalk.wrap64_in _ (by omega)
 have w2 : wrap64 (x8 - x0 + 32768) = x8 - x0 + 32768 := IntWalk.wrap64_in _ (by omega)
 clear h8 h0 HS HB hw
 go_enter Tryz.func223, Tryz.ntmps223
 go_wp2_with fail
 go_quiet (fail)
 go_wp2_with fail
 go_ret
 refine ⟨?_, Go.Proofs.YtoofgblmpjndjaaGreatDoor.K.below_drewN ((Below.refl _ w).alloc (Nat.le_refl _) _) _⟩
 show Ending.returned (Value.int .i64 (wrap64 (x8 - x0 + 32768))) = _
 rw [w2]
theorem mul_in {s a : Int} (hs : -600000 ≤ s ∧ s ≤ 600000) (ha : 1 ≤ a ∧ a ≤ 8) : -4800000 ≤ s * a ∧ s * a ≤ 4800000 := by
 have : a = 1 ∨ a = 2 ∨ a = 3 ∨ a = 4 ∨ a = 5 ∨ a = 6 ∨ a = 7 ∨ a = 8 := by omega
 rcases this with rfl | rfl | rfl | rfl | rfl | rfl | rfl | rfl <;> omega
theorem sharpen_any {A B : Option Addr} {n c m d : Nat} {ar l : List Int} {own : Int} (w : World) (HA : SI w .i64 A n ar) (HB : SI w .i64 B m l) (hw : ∀ v ∈ l, 0 ≤ v ∧ v < 65536) (hm : m = 9) (hn : 0 < n) (ho : 0 ≤ own ∧ own < 65536) (ha : 1 ≤ ar.getD 0 0 ∧ ar.getD 0 0 ≤ 8) :
  Calls Tryz.prog 219 #[.slice A n c, .agg #[.slice B m d, .int .i64 own]] w (DoP w (own + (9 * own - sumK l m) * ar.getD 0 0 / 16)) := by
 obtain ⟨b, off, x, rfl, -, -, hbl⟩ := HA.cells (i := 0) hn
 have H := Lib.hid HB
 have HW := Lib.hid hw
 have hs := sumK_in hw m
 have i0 : (0 : Int) < (n : Int) := by omega
 have hb := (Below.refl w.heap.size w).alloc (Nat.le_refl _) (.cells #[.slice B m d, .int .i64 own] 207)
 have c0 := si_at (A := none) (i := 0) (HA.below hb (Nat.le_refl _)) hn
 rw [Nat.add_zero] at c0
 have HS : Hid (SI (w.alloc (.cells #[.slice B m d, .int .i64 own] 207)) .i64 B m l) := H.out.below hb (Nat.le_refl _)
 generalize ar.getD 0 0 = a at *
 have hsm : 0 ≤ sumK l m ∧ sumK l m ≤ 600000 := by subst hm; omega
 have hmi := mul_in (s := 9 * own - sumK l m) (a := a) (by omega) ha
 have w1 : wrap64 (9 * own) = 9 * own := IntWalk.wrap64_in _ (by omega)
 have w2 : wrap64 (9 * own - sumK l m) = 9 * own - sumK l m := IntWalk.wrap64_in _ (by omega)
 have w3 : wrap64 ((9 * own - sumK l m) * a) = (9 * own - sumK l m) * a := IntWalk.wrap64_in _ (by omega)
 have w4 : wrap64 ((9 * own - sumK l m) * a / 16) = (9 * own - sumK l m) * a / 16 := IntWalk.wrap64_in _ (by omega)
 have w5 : wrap64 (own + (9 * own - sumK l m) * a / 16) = own + (9 * own - sumK l m) * a / 16 := IntWalk.wrap64_in _ (by omega)
 have hm4 : m ≤ 4096 := by omega
 clear HA HB hw hs hsm hmi hm ha ho hb
 go_enter Tryz.func219, Tryz.ntmps219
 go_wp2_with fail
 go_quiet ((go_at_call 220; exact Calls.quiet_of_same ((sum_any _ (si_drewN HS.out _) HW.out hm4).mono fun e w' h => ⟨h.1, h.2.symm⟩)))
 go_wp2_with fail
 go_ret
 refine ⟨?_, Go.Proofs.YtoofgblmpjndjaaGreatDoor.K.below_drewN ((Below.refl _ w).alloc (Nat.le_refl _) _) _⟩
 show Ending.returned (Value.int .i64 (wrap64 (own + (9 * own - sumK l m) * a / 16))) = _
 rw [w5]
end Go.Proofs.YtoofgblmpjndjaaGreatDoor.Ard
set_option linter.unusedVariables false
set_option linter.unusedSimpArgs false
namespace Go.Proofs.YtoofgblmpjndjaaGreatDoor.Ard
open Go.RowKit K

theorem mul64_nine (w : World) : Calls Tryz.prog 253 #[.int .u64 1, .int .u64 9] w fun e w' => e = .returned (.tuple #[.int .u64 0, .int .u64 9]) ∧ w = w' := by
 have a1 : bits .and .u64 1 4294967295 = 1 := by decide +kernel
 have a2 : bits .and .u64 9 4294967295 = 9 := by decide +kernel
 have a8 : bits .and .u64 0 4294967295 = 0 := by decide +kernel
 go_enter Tryz.func253, Tryz.ntmps253
 go_wp2
 go_ret2
 exact ⟨rfl, rfl⟩
theorem mul_nine (w : World) : Calls Tryz.prog 244 #[.int .u64 1, .int .u64 9] w fun e w' => e = .returned (.tuple #[.int .u64 0, .int .u64 9]) ∧ w = w' := by
 go_enter Tryz.func244, Tryz.ntmps244
 go_wp2_with (go_at_call 253; refine (mul64_nine _).mono ?_; rintro e w1 ⟨rfl, rfl⟩)
 go_ret2
 exact ⟨rfl, rfl⟩
theorem pair_info : (Tryz.prog.info? 159).map (·.size) = some 2 := by kernel_rfl
theorem run_copy_pairs {P : Program} (w : World) (dT sT ty elem : TypeId) (g o dLen dCap : Nat) (a : Addr) (sLen sCap : Nat) (cur : Array Value) (t : TypeId) (cs : List Value)
  (hu : P.underlying dT = some (.slice elem)) (hs : (P.info? elem).map (·.size) = some 2)
  (hg : w.heap[g]? = some (.cells cur t (0, 0))) (hn : cs.length = Nat.min sLen dLen * 2)
  (hsrc : ∀ j v, cs[j]? = some v → w.cell? (a.add j) = some v) (hfit : o + cs.length ≤ cur.size) (h1 : ∀ v ∈ cs, v.oneCell' = true) :
  (Builtin.copy_ #[dT, sT] ty #[.slice (some ⟨g, o, none⟩) dLen dCap, .slice (some a) sLen sCap]).run P w =
   .ok (goInt (Nat.min sLen dLen)) (w.setRow g (cur.toList.take o ++ cs ++ cur.toList.drop (o + cs.length)).toArray) := by
 have hl := run_loadCells_list (P := P) w a cs hsrc
 have hst := run_storeCells_at P g o t cs 0 cur w hg (by simpa using hfit) h1
 cases hq : P.info? elem with
 | none => simp [hq] at hs
 | some i =>
  have hi : i.size = 2 := by simpa [hq] using hs
  rw [hn] at hl
  simp [Builtin.copy_, run_underlying hu, Builtin.lenOf, Builtin.firstCells, sizeOf, typeInfo, hq, hi, hl, hst]
theorem wpList_copy2 {P : Program} (w : World) {ops : Array Oper} {rest : List Oper} {o : Oper} {a : Act} {Q : Exit → Act → World → Prop} (hgd : o.guard = none) (d s : Operand) (t t' : TypeId)
  (ho : o.op = .call { callee := .builtin .copy, args := #[d, s], argTypes := #[t, t'] }) (v u : Value) (hd : a.eval d = v) (hs : a.eval s = u) {v' : Value} {w' : World}
  (hr : (Builtin.copy_ #[t, t'] o.type #[v, u]).run P w = .ok v' w') (h : wpList P ops Q rest (a.put o.dst v') w') : wpList P ops Q (o :: rest) a w := by
 refine wpList_plain hgd fun K hK => ?_
 unfold Oper.wp execOp
 simp only [ho, resolve, invoke, builtin, Sem.run_bind, Sem.run_pure, Result.andThen_ok, List.map_toArray, List.map_cons, List.map_nil, hd, hs, hr]
 exact hK _ _ h
theorem step_copy2 {P : Program} {ops : Array Oper} {o : Oper} {a : Act} {w : World} {K : Act → World → Prop} {Q : Exit → Act → World → Prop} {E : Prop}
  (hg : o.guard = none) (d x : Operand) (dT sT : TypeId) (hop : o.op = Op.call { callee := Callee.builtin Builtin.copy, args := #[d, x], argTypes := #[dT, sT] })
  (v u : Value) (hd : a.eval d = v) (hx : a.eval x = u) {v' : Value} {w' : World} (hr : (Builtin.copy_ #[dT, sT] o.type #[v, u]).run P w = .ok v' w') (hK : K (a.put o.dst v') w') :
  if Region.wanted o (yielded ops a.tmps) = true then Oper.wp P o a w K Q else E := by
 have hw : Region.wanted o (yielded ops a.tmps) = true := by simp [Region.wanted, hg]
 rw [if_pos hw]
 unfold Oper.wp
 simp [execOp, hop, resolve, invoke, builtin, hd, hx, hr, Result.andThen]
 exact hK
theorem pairInfo : (Tryz.prog.info? 159).map (fun i => (i.zero, i.size, i.bytes)) = some (some (.agg #[.int .i64 0, .int .i64 0]), 2, 16) := by kernel_rfl
theorem made_two (n : Nat) : madeCells #[Value.int .i64 0, Value.int .i64 0] n = (List.replicate n (Value.int .i64 0)).toArray := by
 unfold madeCells
 apply Array.ext
 ·simp
 ·intro i h1 h2
  have : i % 2 = 0 ∨ i % 2 = 1 := by omega
  rcases this with h | h <;> simp [h]
theorem run_nine (w : World) : (Instr.makeSlice 120 (.int .i64 9) (.int .i64 9)).run Tryz.prog w = .ok (.slice (some ⟨w.heap.size, 0, none⟩) 9 9) (w.alloc (.cells (List.replicate 18 (Value.int .i64 0)).toArray 159)) := by
 obtain ⟨i, hi, hz0, hz1, hz2⟩ := info_parts pairInfo
 have := run_make (P := Tryz.prog) w 120 159 i _ Tryz.underlying120 hi hz0 .i64 .i64 9 9 (by omega) (by omega) (by rw [hz2]; decide) (by omega)
 rw [this, hz1, show (Int.toNat 9 * 2) = 18 from rfl, ← made_two]; rfl
def pairRow (x y : Int) (n : Nat) : List Value := (List.replicate n [Value.int .i64 x, Value.int .i64 y]).flatten ++ List.replicate (2 * (9 - n)) (Value.int .i64 0)
structure R2 (w wr : World) (x y : Int) (n : Nat) : Prop where
 bel : Below w.heap.size w wr
 row : wr.heap[w.heap.size]? = some (.cells (pairRow x y n).toArray 159 (0, 0))
def Rep2Post (w : World) (x y : Int) (e : Ending) (w' : World) : Prop :=
 e = .returned (.slice (some ⟨w.heap.size, 0, none⟩) 9 9) ∧ R2 w w' x y 9
theorem R2.step {w wr : World} {x y : Int} {n m : Nat} (h : R2 w wr x y n) (hm : (n = 1 ∧ m = 1) ∨ (n = 2 ∧ m = 2) ∨ (n = 4 ∧ m = 4) ∨ (n = 8 ∧ m = 1)) :
  ∃ W4, (Builtin.copy_ #[120, 120] 3 #[.slice (some ⟨w.heap.size, n * 2, none⟩) (9 - n) (9 - n), .slice (some ⟨w.heap.size, 0, none⟩) n 9]).run Tryz.prog wr.drew = .ok (.int .i64 (m : Int)) W4 ∧ R2 w W4 x y (n + m) := by
 have hg : wr.drew.heap[w.heap.size]? = some (.cells (pairRow x y n).toArray 159 (0, 0)) := h.row
 have hmn : Nat.min n (9 - n) = m := by rcases hm with ⟨rfl, rfl⟩ | ⟨rfl, rfl⟩ | ⟨rfl, rfl⟩ | ⟨rfl, rfl⟩ <;> rfl
 refine ⟨_, (run_copy_pairs (P := Tryz.prog) wr.drew 120 120 3 159 w.heap.size (n * 2) (9 - n) (9 - n) ⟨w.heap.size, 0, none⟩ n 9 _ 159 ((pairRow x y n).take (m * 2)) Tryz.underlying120 pair_info hg ?_ ?_ ?_ ?_).trans (by rw [hmn]; rfl), ?_⟩
 ·rw [hmn]; rcases hm with ⟨rfl, rfl⟩ | ⟨rfl, rfl⟩ | ⟨rfl, rfl⟩ | ⟨rfl, rfl⟩ <;> rfl
 ·intro j u hu
  have h1 : (pairRow x y n)[j]? = some u := by
   rw [List.getElem?_take] at hu
   split at hu
   ·exact hu
   ·cases hu
  rw [Addr.add_lit, Nat.zero_add]
  simp [World.cell?, hg, h1]
 ·rcases hm with ⟨rfl, rfl⟩ | ⟨rfl, rfl⟩ | ⟨rfl, rfl⟩ | ⟨rfl, rfl⟩ <;> simp [pairRow]
 ·intro v hv
  have hv2 := List.mem_of_mem_take hv
  unfold pairRow at hv2
  simp only [List.mem_append, List.mem_flatten, List.mem_replicate] at hv2
  rcases hv2 with ⟨l, ⟨-, rfl⟩, hv2⟩ | ⟨-, rfl⟩
  ·simp at hv2; rcases hv2 with rfl | rfl <;> rfl
  ·rfl
 ·refine ⟨below_setRow h.bel.drew (Nat.le_refl _) _, ?_⟩
  rw [setRow_heap _ _ _ _ 159 _ hg]
  rcases hm with ⟨rfl, rfl⟩ | ⟨rfl, rfl⟩ | ⟨rfl, rfl⟩ | ⟨rfl, rfl⟩ <;> rfl
set_option maxRecDepth 20000 in
set_option maxHeartbeats 1000000 in
theorem repeat2_any {A : Option Addr} {cp : Nat} {x y : Int} (w : World) (HA : Sl w A [.int .i64 x, .int .i64 y]) :
  Calls Tryz.prog 213 #[.slice A 1 cp, .int .i64 9] w (Rep2Post w x y) := by
 obtain ⟨b, off, rfl, c0⟩ := HA 0 _ rfl
 rw [Nat.add_zero] at c0
 have hb := World.block_lt_of_cell? w _ c0
 have hmk := run_nine w
 obtain ⟨W0, hW0⟩ : ∃ W0, w.alloc (.cells (List.replicate 18 (Value.int .i64 0)).toArray 159) = W0 := ⟨_, rfl⟩
 rw [hW0] at hmk
 have hb0 : Below w.heap.size w W0 := by rw [← hW0]; exact (Below.refl _ w).alloc (Nat.le_refl _) _
 have hg0 : W0.heap[w.heap.size]? = some (.cells (pairRow x y 0).toArray 159 (0, 0)) := by rw [← hW0]; exact heap_alloc_new w _
 have hcp : ∃ W1, (Builtin.copy_ #[120, 120] 3 #[.slice (some ⟨w.heap.size, 0, none⟩) 9 9, .slice (some ⟨b, off, none⟩) 1 cp]).run Tryz.prog W0 = .ok (.int .i64 1) W1 ∧ R2 w W1 x y 1 := by
  refine ⟨_, run_copy_pairs (P := Tryz.prog) W0 120 120 3 159 w.heap.size 0 9 9 ⟨b, off, none⟩ 1 cp _ 159 [.int .i64 x, .int .i64 y] Tryz.underlying120 pair_info hg0 rfl ?_ (by simp [pairRow]) (by intro v hv; simp at hv; rcases hv with rfl | rfl <;> rfl), ?_⟩
  ·intro j u hu
   obtain ⟨b', off', e, hc⟩ := HA j u hu
   injection e with e
   injection e with e1 e2
   subst e1 e2
   rw [Addr.add_lit]
   exact (hb0.cell (p := ⟨b, off + j, none⟩) hb).trans hc
  ·refine ⟨below_setRow hb0 (Nat.le_refl _) _, ?_⟩
   rw [setRow_heap _ _ _ _ 159 _ hg0]
   rfl
 obtain ⟨W1, hcp, hR1⟩ := hcp
 have HR1 := Lib.hid hR1
 clear hW0 hb0 hg0 hR1
 go_enter Tryz.func213, Tryz.ntmps213
 go_wp2_with (first | (go_at_call 244; refine (mul_nine _).mono ?_; rintro e w1 ⟨rfl, rfl⟩))
 clear hmk hcp
 go_loopw [8] (fun si wr => (si = .int .i64 1 ∧ R2 w wr x y 1) ∨ (si = .int .i64 2 ∧ R2 w wr x y 2) ∨ (si = .int .i64 4 ∧ R2 w wr x y 4) ∨ (si = .int .i64 8 ∧ R2 w wr x y 8) ∨ (si = .int .i64 9 ∧ R2 w wr x y 9)) (fun si _ => 9 - (intOf si).toNat)
 case atStart => exact .inl ⟨rfl, HR1.out⟩
 case round =>
  clear HR1
  rcases hrel with ⟨rfl, hR⟩ | ⟨rfl, hR⟩ | ⟨rfl, hR⟩ | ⟨rfl, hR⟩ | ⟨rfl, hR⟩
  ·obtain ⟨W4, hcp, hR4⟩ := hR.step (m := 1) (by simp)
   have HR4 := Lib.hid hR4
   clear hR hR4
   go_wp2
   go_region
   go_wp2
   go_roundw
   case rel => exact .inr (.inl ⟨rfl, HR4.out⟩)
   case measure => simp [intOf]
  ·obtain ⟨W4, hcp, hR4⟩ := hR.step (m := 2) (by simp)
   have HR4 := Lib.hid hR4
   clear hR hR4
   go_wp2
   go_region
   go_wp2
   go_roundw
   case rel => exact .inr (.inr (.inl ⟨rfl, HR4.out⟩))
   case measure => simp [intOf]
  ·obtain ⟨W4, hcp, hR4⟩ := hR.step (m := 4) (by simp)
   have HR4 := Lib.hid hR4
   clear hR hR4
   go_wp2
   go_region
   go_wp2
   go_roundw
   case rel => exact .inr (.inr (.inr (.inl ⟨rfl, HR4.out⟩)))
   case measure => simp [intOf]
  ·obtain ⟨W4, hcp, hR4⟩ := hR.step (m := 1) (by simp)
   have HR4 := Lib.hid hR4
   clear hR hR4
   go_wp2
   go_region
   go_wp2
   go_roundw
   case rel => exact .inr (.inr (.inr (.inr ⟨rfl, HR4.out⟩)))
   case measure => simp [intOf]
  ·have HR := Lib.hid hR
   clear hR
   go_wp2
   go_ret
   exact ⟨rfl, HR.out⟩
end Go.Proofs.YtoofgblmpjndjaaGreatDoor.Ard
set_option linter.unusedVariables false
set_option linter.unusedSimpArgs false
namespace Go.Proofs.YtoofgblmpjndjaaGreatDoor.Ard
open Go.RowKit K

theorem place_in {W H a b k : Nat} (ha : a < W) (hb : b < H) (hk : k < 4) : 4 * (b * W + a) + k < 4 * W * H := by
 have h1 : b * W + a + 1 ≤ W * H := by
  have : (b + 1) * W ≤ H * W := Nat.mul_le_mul_right W hb
  rw [Nat.add_mul, Nat.one_mul, Nat.mul_comm H W] at this
  omega
 rw [Nat.mul_assoc]; omega
end Go.Proofs.YtoofgblmpjndjaaGreatDoor.Ard
set_option linter.unusedVariables false
set_option linter.unusedSimpArgs false
namespace Go.Proofs.YtoofgblmpjndjaaGreatDoor.Ard
open Go.RowKit K

theorem infoInt : (Tryz.prog.info? 3).map (fun i => (i.zero, i.size, i.bytes)) = some (some (.int .i64 0), 1, 8) := by kernel_rfl
def NewI (w : World) (l : List Int) (e : Ending) (w' : World) : Prop :=
 ∃ A c, e = .returned (.slice A l.length c) ∧ w'.ownsRow w.heap.size 3 1 (.slice A l.length c) l.length (l.map (.int .i64)) ∧ Below w.heap.size w w'
theorem own_base {w : World} {base base' e sz n : Nat} {v : Value} {xs : List Value} (h : w.ownsRow base e sz v n xs) (hb : base' ≤ base) : w.ownsRow base' e sz v n xs :=
 ⟨h.1, h.2.imp id fun ⟨g, cap, cur, hv, hg, r⟩ => ⟨g, cap, cur, hv, Nat.le_trans hb hg, r⟩⟩
def rowF (W H : Nat) (pix : List Int) (x y : Int) (n p k : Nat) (j i : Nat) : List Int := (List.range i).map fun (i : Nat) => atF W H pix (x - n + i) (y - p + j) k
def partF (W H : Nat) (pix : List Int) (x y : Int) (n p k : Nat) (j : Nat) : List Int := (List.range j).flatMap fun (j : Nat) => rowF W H pix x y n p k j (2 * n + 1)
theorem partF_succ (W H : Nat) (pix : List Int) (x y : Int) (n p k j : Nat) : partF W H pix x y n p k (j + 1) = partF W H pix x y n p k j ++ rowF W H pix x y n p k j (2 * n + 1) := by
 unfold partF; rw [List.range_succ, List.flatMap_append]; simp
theorem partF_len (W H : Nat) (pix : List Int) (x y : Int) (n p k j : Nat) : (partF W H pix x y n p k j).length = j * (2 * n + 1) := flat_len _ _ (fun j => by simp [rowF]) _
theorem rowF_succ (W H : Nat) (pix : List Int) (x y : Int) (n p k j i : Nat) : rowF W H pix x y n p k j (i + 1) = rowF W H pix x y n p k j i ++ [atF W H pix (x - n + i) (y - p + j) k] := by
 unfold rowF; rw [List.range_succ, List.map_append]; simp
theorem partF_all (W H : Nat) (pix : List Int) (x y : Int) (n p k : Nat) : partF W H pix x y n p k (2 * p + 1) = winF W H pix x y n p k := rfl
theorem sl_new (w : World) (cs : List Value) (T : TypeId) : Sl (w.alloc (.cells cs.toArray T)) (some ⟨w.heap.size, 0, none⟩) cs := fun j u hu => ⟨w.heap.size, 0, rfl, by rw [World.cell?_alloc_new]; simpa using hu⟩
theorem own_on {w w' : World} {base e sz n : Nat} {v : Value} {xs : List Value} (h : w.ownsRow base e sz v n xs) (hb : Below w.heap.size w w') : w'.ownsRow base e sz v n xs :=
 ⟨h.1, h.2.imp id fun ⟨g, cap, cur, hv, hg, hc, r⟩ => ⟨g, cap, cur, hv, hg, (hb.block g (Array.getElem?_eq_some_iff.1 hc).1).trans hc, r⟩⟩
end Go.Proofs.YtoofgblmpjndjaaGreatDoor.Ard
