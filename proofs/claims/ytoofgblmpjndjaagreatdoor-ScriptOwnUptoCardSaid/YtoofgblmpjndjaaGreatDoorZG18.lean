/-
  Texts of this claim, joined by program (Spl, Wsl). Walks: the program's spell. (Printed by gen_spell.py.)
-/
import Derived.Test.YtoofgblmpjndjaaGreatDoorZG17
import Derived.Test.YtoofgblmpjndjaaGreatDoorZG9
import Derived.Test.YtoofgblmpjndjaaGreatDoorZG12
import Derived.Test.YtoofgblmpjndjaaGreatDoorZG14
import Derived.Shelf.Strings.BuilderK
import Derived.Test.YtoofgblmpjndjaaGreatDoorProg
set_option linter.unusedVariables false
set_option linter.unusedSimpArgs false
namespace Go.Proofs.YtoofgblmpjndjaaGreatDoor.Scr
open Go.RowKit K Go.Lib Go.Shelf

theorem argsW_take {op : Tx} : ∀ {l : List Int} {k : Nat} {a : Int}, l[k]? = some a → argsW op (l.take (k + 1)) = argsW op (l.take k) ++ [wordA op k a]
 | [], k, a, h => by simp at h
 | x :: r, 0, a, h => by
  have : x = a := by simpa using h
  subst this
  simp only [List.take_succ_cons, List.take_zero]
  unfold argsW wordA writeT
  by_cases ho : op = [119, 114, 105, 116, 101]
  ·simp [ho]
  ·simp [ho]
 | x :: r, k + 1, a, h => by
  have h2 : r[k]? = some a := by simpa using h
  rw [List.take_succ_cons, List.take_succ_cons, List.take_add_one, h2]
  unfold argsW wordA
  have h0 : ¬ (op = writeT ∧ k + 1 = 0) := by omega
  rw [if_neg h0]
  simp only [Option.toList_some, List.map_append, List.map_cons, List.map_nil]
  split <;> simp
theorem wpList_append_slS {P : Program} {ops : Array Oper} {rest : List Oper} {o : Oper} {a : Act} {w : World} {Q : Exit → Act → World → Prop} (hgd : o.guard = none) (s x : Operand) (t : TypeId)
  (ho : o.op = .call { callee := .builtin .append, args := #[s, x], argTypes := #[t, t] })
  (base e size bytes : Nat) (z : Value) (ht : P.underlying t = some (.slice e)) (hinfo : (P.info? e).map (fun i => (i.zero, i.size, i.bytes)) = some (some z, size, bytes)) (hzs : z.cells.size = size) (hsz : 0 < size)
  (v : Value) (n : Nat) (xs : List Value) (hs : a.eval s = v) (hown : w.ownsRow base e size v n xs)
  (A : Option Addr) (m c : Nat) (news : List Value) (hx : a.eval x = .slice A m c) (hl : news.length = m * size) (hr : Sl w A news) (h1 : ∀ u ∈ news, u.oneCell' = true)
  (h63 : n + m ≤ maxLen) (hbytes : (n + m) * bytes ≤ 140737488355328) (hbase : base ≤ w.heap.size)
  (h : ∀ A' c' w', n + m ≤ c' → w'.ownsRow base e size (.slice A' (n + m) c') (n + m) (xs ++ news) → w.grownBy w' v.ownBlock → wpList P ops Q rest (a.put o.dst (.slice A' (n + m) c')) w') : wpList P ops Q (o :: rest) a w :=
 wpList_plain hgd fun K hK => wp_append_sl s x t ho base e size bytes z ht hinfo hzs hsz v n xs hs hown A m c news hx hl hr h1 h63 hbytes hbase fun v' w' q1 q2 _ => by
  obtain ⟨A', c', rfl, hc⟩ := own_shape q1
  exact hK _ _ (h A' c' w' hc q1 q2)
def SpellP (w : World) (s : St) (e : Ending) (w' : World) : Prop := Below w.heap.size w w' ∧
 if stopS s = true then e = .returned (.slice none 0 0) else ∃ A c, e = .returned (.slice A (spellW s).length c) ∧ w'.ownsRow w.heap.size 9 1 (.slice A (spellW s).length c) (spellW s).length ((spellW s).map vS)
theorem stopS_cons {s : St} {a : Int} (h : s.args[0]? = some a) : stopS s = (decide (s.op = writeT) && decide (a < 1 ∨ 6 < a)) := by
 unfold stopS
 cases hs : s.args with
 | nil => rw [hs] at h; cases h
 | cons x r =>
  rw [hs] at h
  have : x = a := by simpa using h
  subst this
  rfl
theorem stopS_nil {s : St} (h : s.args = []) : stopS s = false := by unfold stopS; rw [h]; simp
structure SB (w V : World) (CS : Array Value) : Prop where
 bx : V.heap[w.heap.size]? = some (.cells CS 37 (0, 0))
 bel : Below w.heap.size w V
theorem SB.on {w V V2 : World} {CS : Array Value} (h : SB w V CS) (hb : Below (w.heap.size + 1) V V2) : SB w V2 CS := ⟨(hb.block _ (by omega)).trans h.bx, h.bel.trans (hb.mono (by omega))⟩
theorem SB.lt {w V : World} {CS : Array Value} (h : SB w V CS) : w.heap.size + 1 ≤ V.heap.size := (Array.getElem?_eq_some_iff.1 h.bx).1
theorem SB.cells {w V : World} {v0 v1 v2 v3 v4 v5 : Value} (h : SB w V #[v0, v1, v2, v3, v4, v5]) : V.cell? ⟨w.heap.size, 1, none⟩ = some v1 ∧ V.cell? ⟨w.heap.size, 2, none⟩ = some v2 ∧ V.cell? ⟨w.heap.size, 3, none⟩ = some v3 ∧ V.cell? ⟨w.heap.size, 4, none⟩ = some v4 ∧ V.cell? ⟨w.heap.size, 5, none⟩ = some v5 :=
 ⟨Ard.row_cell h.bx 1, Ard.row_cell h.bx 2, Ard.row_cell h.bx 3, Ard.row_cell h.bx 4, Ard.row_cell h.bx 5⟩
set_option maxRecDepth 20000 in
set_option maxHeartbeats 8000000 in
theorem spell_00 {line : Int} {s : St} {A A2 : Option Addr} {n c m c2 : Nat} (w : World) (HSS : SS w A n s.srcs) (HSI : SI w .i64 A2 m s.args) (hn : n + m ≤ 1099511627776) (hbd : ∀ a ∈ s.args, -9223372036854775808 ≤ a ∧ a ≤ 9223372036854775807) (HV : Vars w) (hd : s.dst = []) (hf : s.file = []) :
  Calls Tryz.prog 29 #[.agg #[.int .i64 line, .string (ba s.op), .string (ba s.dst), .slice A n c, .string (ba s.file), .slice A2 m c2]] w (SpellP w s) := by
 have HD := Lib.hid hd
 have HF := Lib.hid hf
 have q1 : ((ba s.dst).toList == []) = true := by rw [tl_ba]; rw [hd]; rfl
 have q2 : ((ba s.file).toList == []) = true := by rw [tl_ba]; rw [hf]; rfl
 have q3 : ((ba s.op).toList == [119, 114, 105, 116, 101]) = decide (s.op = writeT) := by rw [tl_ba]; by_cases h : s.op = writeT; (· rw [h]; rfl); (· rw [decide_eq_false h]; exact beq_eq_false_iff_ne.2 h)
 obtain ⟨zo, hzo⟩ : ∃ z, ba s.op = z := ⟨_, rfl⟩
 obtain ⟨zd, hzd⟩ : ∃ z, ba s.dst = z := ⟨_, rfl⟩
 obtain ⟨zf, hzf⟩ : ∃ z, ba s.file = z := ⟨_, rfl⟩
 rw [hzd] at q1 ⊢
 rw [hzf] at q2 ⊢
 rw [hzo] at q3 ⊢
 have HZO := Lib.hid hzo
 have HZD := Lib.hid hzd
 have HZF := Lib.hid hzf
 obtain ⟨bw, hwr⟩ : ∃ b, decide (s.op = writeT) = b := ⟨_, rfl⟩
 rw [hwr] at q3
 have HWR := Lib.hid hwr
 obtain ⟨W0, hW0, HS0⟩ : ∃ W0, w.alloc (.cells #[.int .i64 line, .string zo, .string zd, .slice A n c, .string zf, .slice A2 m c2] 37) = W0 ∧ Hid (SB w W0 #[.int .i64 line, .string zo, .string zd, .slice A n c, .string zf, .slice A2 m c2]) := ⟨_, rfl, ⟨heap_alloc_new w _, (Below.refl _ w).alloc (Nat.le_refl _) _⟩⟩
 have y0 := HS0.out.cells.1
 obtain ⟨V1, hV1⟩ : ∃ x, W0.alloc (.cells #[.string zo] 9) = x := ⟨_, rfl⟩
 have HO1 : Hid (V1.ownsRow (w.heap.size + 1) 9 1 (.slice (some ⟨W0.heap.size, 0, none⟩) 1 1) 1 [.string zo]) := by rw [← hV1]; exact own_lower (own_lit W0 [.string zo] 9 (by show 1 ≤ maxLen; decide)) HS0.out.lt
 have HS1 := Lib.hid (HS0.out.on (V2 := V1) (by rw [← hV1]; exact (Below.refl _ _).alloc HS0.out.lt _))
 obtain ⟨G1, hG1⟩ : ∃ x, W0.heap.size = x := ⟨_, rfl⟩
 rw [hG1] at HO1
 obtain ⟨-, x2, x3, x4, x5⟩ := HS1.out.cells
 have HSSH := Lib.hid HSS
 have HSIH := Lib.hid HSI
 have HN := Lib.hid hn
 have HBD := Lib.hid hbd
 have HVV := Lib.hid HV
 clear hd hf hzo hzd hzf hwr HSS HSI hn hbd HV
 go_enter Tryz.func29, Tryz.ntmps29
 go_wp2_with (first | (at_builtin; (have HSV : SS V1 A n s.srcs := HSSH.out.below (HS1.out.bel)); refine wpList_append_slS rfl (.tmp 17) (.tmp 19) _ rfl (w.heap.size + 1) 9 1 16 (.string ⟨#[]⟩) Tryz.underlying34 infoStr rfl (by omega) (.slice (some ⟨G1, 0, none⟩) (1) 1) (1) [.string zo] rfl HO1.out A n c (s.srcs.map vS) rfl (by rw [List.length_map, HSV.len]; omega) HSV.sl (by intro u hu; obtain ⟨x, _, rfl⟩ := List.mem_map.1 hu; rfl) (by have := HN.out; unfold maxLen; omega) (by have := HN.out; omega) HS1.out.lt ?_; intro As capS V2 _ ho hg; (have HO2 := Lib.hid ho); (have HS2 := Lib.hid (HS1.out.on ((Below.refl _ _).grown hg HS1.out.lt (fun q hq => (HO1.out.lt q hq).1)))); clear HSV ho hg x2 x3 x4 x5; obtain ⟨x1, x2, x3, x4, x5⟩ := HS2.out.cells) | fail)
 obtain ⟨HW, hHW⟩ : ∃ l : List Tx, s.op :: ((if s.dst = [] then [] else [s.dst]) ++ (s.srcs ++ (if s.file = [] then [] else [s.file]))) = l := ⟨_, rfl⟩
 have HHW := Lib.hid hHW
 have hlen : 1 + n = HW.length := by rw [← hHW, if_pos HD.out, if_pos HF.out]; simp [HSSH.out.len]; try omega
 have hmap : ([.string zo] ++ s.srcs.map vS) = HW.map vS := by rw [← hHW, if_pos HD.out, if_pos HF.out, ← HZO.out]; simp [vS]
 have HO9 : Hid (V2.ownsRow (w.heap.size + 1) 9 1 (.slice As HW.length capS) HW.length (HW.map vS)) := by show World.ownsRow _ _ _ _ _ _ _; rw [← hmap, ← hlen]; exact HO2.out
 have HHB : Hid (HW.length ≤ n + 3) := by show _ ≤ _; omega
 rw [hlen]
 clear hHW hlen hmap x1 x2 x3 x4
 go_loopw [3, 32] (fun s3 s32 wx => ∃ (k : Nat) (A1 : Option Addr) (c1 : Nat) (ws : List Tx), k ≤ m ∧ s32 = .int .i64 (k : Int) ∧ s3 = .slice A1 ws.length c1 ∧ Hid (wx.ownsRow (w.heap.size + 1) 9 1 (.slice A1 ws.length c1) ws.length (ws.map vS)) ∧ Hid (ws = HW ++ argsW s.op (s.args.take k)) ∧ Hid (1 ≤ k → stopS s = false) ∧ Hid (ws.length = HW.length + k) ∧ Hid (SB w wx #[.int .i64 line, .string zo, .string zd, .slice A n c, .string zf, .slice A2 m c2])) (fun _ s32 _ => m - (intOf s32).toNat)
 case atStart => exact ⟨0, As, capS, HW, Nat.zero_le _, rfl, rfl, HO9, by show _ = _; simp [argsW], (fun h => by omega), rfl, HS2⟩
 case round =>
  obtain ⟨k, A1, c1, ws, hk, rfl, rfl, HOW, HWS, HNS, HWL, HSB⟩ := hrel
  by_cases hlt : k < m
  ·have HSI := HSIH.out.below HSB.out.bel (Nat.le_refl _)
   obtain ⟨ab, ao, a, rfl, hca, hka, hab⟩ := HSI.cells (i := k) hlt
   have HLT := Lib.hid hlt
   have HKA := Lib.hid hka.out
   have hb := HBD.out a (List.mem_of_getElem? hka.out)
   have HBA := Lib.hid hb
   have HTK : Hid (argsW s.op (s.args.take (k + 1)) = argsW s.op (s.args.take k) ++ [wordA s.op k a]) := argsW_take hka.out
   obtain ⟨y1, -, -, -, -⟩ := HSB.out.cells
   have d2 : decide ((k : Int) < (m : Int)) = true := decide_eq_true (by omega)
   have e2 : decide (k < m) = true := decide_eq_true hlt
   have l0 : (k : Int) < m := by omega
   have z0 : (0 : Int) ≤ k := by omega
   have HU : Hid (wrap64 ((k : Int) + 1) = ((k + 1 : Nat) : Int)) := by show _ = _; have := HN.out; rw [IntWalk.wrap64_in _ (by omega)]; rfl
   have HWB : Hid (ws.length ≤ 1099511627779) := by show _ ≤ _; have := HWL.out; have := HHB.out; have := HN.out; omega
   clear HSI hka hab hlt hk hb
   by_cases hw : bw = true ∧ k = 0
   ·obtain ⟨rfl, rfl⟩ := hw
    rw [Nat.add_zero] at hca
    have hop : s.op = writeT := of_decide_eq_true HWR.out
    have hst := stopS_cons HKA.out
    rw [decide_eq_true hop, Bool.true_and] at hst
    have p0 : (((0 : Nat) : Int) == 0) = true := rfl
    by_cases hs1 : a < 1 ∨ 6 < a
    ·rw [decide_eq_true hs1] at hst
     have HST := Lib.hid hst
     clear hst hop
     rcases hs1 with hs1 | hs1
     ·have g1 : decide (a < 1) = true := decide_eq_true hs1
      clear hs1
      go_wp2_with fail
      go_ret
      refine ⟨HSB.out.bel, ?_⟩
      rw [if_pos HST.out]
      rfl
     ·have g1 : decide (a < 1) = false := decide_eq_false (by omega)
      have g2 : decide ((6 : Int) < a) = true := decide_eq_true hs1
      clear hs1
      go_wp2_with fail
      go_ret
      refine ⟨HSB.out.bel, ?_⟩
      rw [if_pos HST.out]
      rfl
    ·rw [decide_eq_false hs1] at hst
     have HST := Lib.hid hst
     have g1 : decide (a < 1) = false := decide_eq_false (by omega)
     have g2 : decide ((6 : Int) < a) = false := decide_eq_false (by omega)
     obtain ⟨j, hj, hj6⟩ : ∃ j : Nat, a = (j : Int) + 1 ∧ j < 6 := ⟨(a - 1).toNat, by omega, by omega⟩
     have u3 : wrap64 (a - 1) = (j : Int) := by rw [hj, IntWalk.wrap64_in _ (by omega)]; omega
     have u4 : IntKind.i64.wrap (a - 1) = (j : Int) := by rw [hj, IntKind.wrap_i64]; omega
     have l6 : (j : Int) < 6 := by omega
     have z6 : (0 : Int) ≤ j := by omega
     have HWA : Hid (wordA s.op 0 a = fmtsM.getD j []) := by show _ = _; unfold wordA; rw [if_pos ⟨hop, rfl⟩, hj]; congr 1; omega
     have HJ6 := Lib.hid hj6
     clear hst hop hs1 hj hj6
     go_wp2_with (first | (go_at_call 49; refine (formats_at _).mono ?_; rintro e F ⟨gf, rfl, hfc, -, hbf⟩; (have hcj := hfc j HJ6.out); rw [← HWA.out] at hcj; obtain ⟨zw, hzw⟩ : ∃ z, ba (wordA s.op 0 a) = z := ⟨_, rfl⟩; rw [hzw] at hcj; (have HZW := Lib.hid hzw); (have HSF := Lib.hid (HSB.out.on (hbf.mono HSB.out.lt))); (have HOF := Lib.hid (own_below HOW.out hbf)); clear hfc hbf hzw y1) | (at_builtin; (have HSa := Lib.hid (HSF.out.on ((Below.refl _ F).alloc HSF.out.lt (.cells #[.string zw] 9)))); refine Jp.wpList_push rfl (.tmp 50) (.tmp 56) _ rfl (w.heap.size + 1) 9 1 16 (.string ⟨#[]⟩) Tryz.underlying34 infoStr rfl (by omega) (.slice A1 ws.length c1) ws.length (ws.map vS) rfl (HOF.out.alloc _) F.heap.size 1 1 [.string zw] 9 rfl rfl (heap_alloc_new F _) (by simp [Value.oneCell']) (by omega) (by have := HWB.out; unfold maxLen; omega) (by have := HWB.out; omega) HSa.out.lt _ rfl ?_; intro g9 cap9 V9 ho hg _ _; (have HO9 := Lib.hid ho); (have HS9 := Lib.hid (HSa.out.on ((Below.refl _ _).grown hg HSa.out.lt (fun q hq => (HOF.out.lt q hq).1)))); clear ho hg) | fail)
     have HL9 : (ws ++ [wordA s.op 0 a]).length = ws.length + 1 := by rw [List.length_append]; rfl
     go_roundw
     case rel => exact ⟨0 + 1, some ⟨g9, 0, none⟩, cap9, (ws ++ [wordA s.op 0 a]), HLT.out, by first | rfl | rw [HU.out], by rw [HL9], by show World.ownsRow _ _ _ _ _ _ _; rw [HL9, List.map_append]; show World.ownsRow _ _ _ _ _ _ (_ ++ [.string (ba (wordA s.op 0 a))]); rw [HZW.out]; exact HO9.out, by show _ = _; rw [HTK.out, ← List.append_assoc, ← HWS.out], fun _ => HST.out, by show _ = _; have := HWL.out; omega, HS9⟩
     case measure => first | exact meas_by (d := 1) HLT.out (by omega) | (rw [HU.out]; exact meas_by (d := 1) HLT.out (by omega))
   ·have HWA : Hid (wordA s.op k a = itoa a) := by
     show _ = _
     unfold wordA
     rw [if_neg (fun h => hw ⟨by rw [← HWR.out]; exact decide_eq_true h.1, h.2⟩)]
    have HNS2 : Hid (stopS s = false) := by
     show _ = _
     by_cases h0 : k = 0
     ·subst h0
      rw [stopS_cons HKA.out]
      have : decide (s.op = writeT) = false := by rw [HWR.out]; cases bw with | false => rfl | true => exact absurd ⟨rfl, rfl⟩ hw
      rw [this, Bool.false_and]
     ·exact HNS.out (by omega)
    have HIT := Lib.hid (itoa_any a HBA.out.1 HBA.out.2 wr (HVV.out.below HSB.out.bel (Nat.le_refl _)))
    rw [← HWA.out] at HIT
    obtain ⟨zw, hzw⟩ : ∃ z, ba (wordA s.op k a) = z := ⟨_, rfl⟩
    rw [hzw] at HIT
    have HZW := Lib.hid hzw
    clear hzw
    cases bw with
    | false =>
     clear hw
     go_wp2_with (first | (go_at_call 62; refine HIT.out.mono ?_; rintro e F ⟨rfl, hbf⟩; (have HSF := Lib.hid (HSB.out.on (hbf.mono HSB.out.lt))); (have HOF := Lib.hid (own_below HOW.out hbf)); clear hbf y1) | (at_builtin; (have HSa := Lib.hid (HSF.out.on ((Below.refl _ F).alloc HSF.out.lt (.cells #[.string zw] 9)))); refine Jp.wpList_push rfl (.tmp 58) (.tmp 61) _ rfl (w.heap.size + 1) 9 1 16 (.string ⟨#[]⟩) Tryz.underlying34 infoStr rfl (by omega) (.slice A1 ws.length c1) ws.length (ws.map vS) rfl (HOF.out.alloc _) F.heap.size 1 1 [.string zw] 9 rfl rfl (heap_alloc_new F _) (by simp [Value.oneCell']) (by omega) (by have := HWB.out; unfold maxLen; omega) (by have := HWB.out; omega) HSa.out.lt _ rfl ?_; intro g9 cap9 V9 ho hg _ _; (have HO9 := Lib.hid ho); (have HS9 := Lib.hid (HSa.out.on ((Below.refl _ _).grown hg HSa.out.lt (fun q hq => (HOF.out.lt q hq).1)))); clear ho hg) | fail)
     have HL9 : (ws ++ [wordA s.op k a]).length = ws.length + 1 := by rw [List.length_append]; rfl
     go_roundw
     case rel => exact ⟨k + 1, some ⟨g9, 0, none⟩, cap9, (ws ++ [wordA s.op k a]), HLT.out, by first | rfl | rw [HU.out], by rw [HL9], by show World.ownsRow _ _ _ _ _ _ _; rw [HL9, List.map_append]; show World.ownsRow _ _ _ _ _ _ (_ ++ [.string (ba (wordA s.op k a))]); rw [HZW.out]; exact HO9.out, by show _ = _; rw [HTK.out, ← List.append_assoc, ← HWS.out], fun _ => HNS2.out, by show _ = _; have := HWL.out; omega, HS9⟩
     case measure => first | exact meas_by (d := 1) HLT.out (by omega) | (rw [HU.out]; exact meas_by (d := 1) HLT.out (by omega))
    | true =>
     have p0 : ((k : Int) == 0) = false := by simp; intro h; exact hw ⟨rfl, by omega⟩
     clear hw
     go_wp2_with (first | (go_at_call 62; refine HIT.out.mono ?_; rintro e F ⟨rfl, hbf⟩; (have HSF := Lib.hid (HSB.out.on (hbf.mono HSB.out.lt))); (have HOF := Lib.hid (own_below HOW.out hbf)); clear hbf y1) | (at_builtin; (have HSa := Lib.hid (HSF.out.on ((Below.refl _ F).alloc HSF.out.lt (.cells #[.string zw] 9)))); refine Jp.wpList_push rfl (.tmp 58) (.tmp 61) _ rfl (w.heap.size + 1) 9 1 16 (.string ⟨#[]⟩) Tryz.underlying34 infoStr rfl (by omega) (.slice A1 ws.length c1) ws.length (ws.map vS) rfl (HOF.out.alloc _) F.heap.size 1 1 [.string zw] 9 rfl rfl (heap_alloc_new F _) (by simp [Value.oneCell']) (by omega) (by have := HWB.out; unfold maxLen; omega) (by have := HWB.out; omega) HSa.out.lt _ rfl ?_; intro g9 cap9 V9 ho hg _ _; (have HO9 := Lib.hid ho); (have HS9 := Lib.hid (HSa.out.on ((Below.refl _ _).grown hg HSa.out.lt (fun q hq => (HOF.out.lt q hq).1)))); clear ho hg) | fail)
     have HL9 : (ws ++ [wordA s.op k a]).length = ws.length + 1 := by rw [List.length_append]; rfl
     go_roundw
     case rel => exact ⟨k + 1, some ⟨g9, 0, none⟩, cap9, (ws ++ [wordA s.op k a]), HLT.out, by first | rfl | rw [HU.out], by rw [HL9], by show World.ownsRow _ _ _ _ _ _ _; rw [HL9, List.map_append]; show World.ownsRow _ _ _ _ _ _ (_ ++ [.string (ba (wordA s.op k a))]); rw [HZW.out]; exact HO9.out, by show _ = _; rw [HTK.out, ← List.append_assoc, ← HWS.out], fun _ => HNS2.out, by show _ = _; have := HWL.out; omega, HS9⟩
     case measure => first | exact meas_by (d := 1) HLT.out (by omega) | (rw [HU.out]; exact meas_by (d := 1) HLT.out (by omega))
  ·obtain rfl : k = m := by omega
   have d2 : decide ((k : Int) < (k : Int)) = false := decide_eq_false (by omega)
   have HTA : s.args.take k = s.args := List.take_of_length_le (by rw [HSIH.out.len]; exact Nat.le_refl _)
   have HSP : Hid (ws = spellW s) := by
    show _ = _
    rw [HWS.out, HTA, ← HHW.out]
    unfold spellW
    simp
   have HNS3 : Hid (stopS s = false) := by
    show _ = _
    by_cases h0 : k = 0
    ·exact stopS_nil (List.eq_nil_of_length_eq_zero (by rw [HSIH.out.len]; exact h0))
    ·exact HNS.out (by omega)
   clear hlt hk HTA
   go_wp2_with fail
   go_ret
   refine ⟨HSB.out.bel, ?_⟩
   rw [if_neg (by rw [HNS3.out]; decide), ← HSP.out]
   exact ⟨A1, c1, rfl, own_lower HOW.out (by omega)⟩
set_option maxRecDepth 20000 in
set_option maxHeartbeats 8000000 in
theorem spell_01 {line : Int} {s : St} {A A2 : Option Addr} {n c m c2 : Nat} (w : World) (HSS : SS w A n s.srcs) (HSI : SI w .i64 A2 m s.args) (hn : n + m ≤ 1099511627776) (hbd : ∀ a ∈ s.args, -9223372036854775808 ≤ a ∧ a ≤ 9223372036854775807) (HV : Vars w) (hd : s.dst = []) (hf : s.file ≠ []) :
  Calls Tryz.prog 29 #[.agg #[.int .i64 line, .string (ba s.op), .string (ba s.dst), .slice A n c, .string (ba s.file), .slice A2 m c2]] w (SpellP w s) := by
 have HD := Lib.hid hd
 have HF := Lib.hid hf
 have q1 : ((ba s.dst).toList == []) = true := by rw [tl_ba]; rw [hd]; rfl
 have q2 : ((ba s.file).toList == []) = false := by rw [tl_ba]; simpa using hf
 have q3 : ((ba s.op).toList == [119, 114, 105, 116, 101]) = decide (s.op = writeT) := by rw [tl_ba]; by_cases h : s.op = writeT; (· rw [h]; rfl); (· rw [decide_eq_false h]; exact beq_eq_false_iff_ne.2 h)
 obtain ⟨zo, hzo⟩ : ∃ z, ba s.op = z := ⟨_, rfl⟩
 obtain ⟨zd, hzd⟩ : ∃ z, ba s.dst = z := ⟨_, rfl⟩
 obtain ⟨zf, hzf⟩ : ∃ z, ba s.file = z := ⟨_, rfl⟩
 rw [hzd] at q1 ⊢
 rw [hzf] at q2 ⊢
 rw [hzo] at q3 ⊢
 have HZO := Lib.hid hzo
 have HZD := Lib.hid hzd
 have HZF := Lib.hid hzf
 obtain ⟨bw, hwr⟩ : ∃ b, decide (s.op = writeT) = b := ⟨_, rfl⟩
 rw [hwr] at q3
 have HWR := Lib.hid hwr
 obtain ⟨W0, hW0, HS0⟩ : ∃ W0, w.alloc (.cells #[.int .i64 line, .string zo, .string zd, .slice A n c, .string zf, .slice A2 m c2] 37) = W0 ∧ Hid (SB w W0 #[.int .i64 line, .string zo, .string zd, .slice A n c, .string zf, .slice A2 m c2]) := ⟨_, rfl, ⟨heap_alloc_new w _, (Below.refl _ w).alloc (Nat.le_refl _) _⟩⟩
 have y0 := HS0.out.cells.1
 obtain ⟨V1, hV1⟩ : ∃ x, W0.alloc (.cells #[.string zo] 9) = x := ⟨_, rfl⟩
 have HO1 : Hid (V1.ownsRow (w.heap.size + 1) 9 1 (.slice (some ⟨W0.heap.size, 0, none⟩) 1 1) 1 [.string zo]) := by rw [← hV1]; exact own_lower (own_lit W0 [.string zo] 9 (by show 1 ≤ maxLen; decide)) HS0.out.lt
 have HS1 := Lib.hid (HS0.out.on (V2 := V1) (by rw [← hV1]; exact (Below.refl _ _).alloc HS0.out.lt _))
 obtain ⟨G1, hG1⟩ : ∃ x, W0.heap.size = x := ⟨_, rfl⟩
 rw [hG1] at HO1
 obtain ⟨-, x2, x3, x4, x5⟩ := HS1.out.cells
 have HSSH := Lib.hid HSS
 have HSIH := Lib.hid HSI
 have HN := Lib.hid hn
 have HBD := Lib.hid hbd
 have HVV := Lib.hid HV
 clear hd hf hzo hzd hzf hwr HSS HSI hn hbd HV
 go_enter Tryz.func29, Tryz.ntmps29
 go_wp2_with (first | (at_builtin; (have HSV : SS V1 A n s.srcs := HSSH.out.below (HS1.out.bel)); refine wpList_append_slS rfl (.tmp 17) (.tmp 19) _ rfl (w.heap.size + 1) 9 1 16 (.string ⟨#[]⟩) Tryz.underlying34 infoStr rfl (by omega) (.slice (some ⟨G1, 0, none⟩) (1) 1) (1) [.string zo] rfl HO1.out A n c (s.srcs.map vS) rfl (by rw [List.length_map, HSV.len]; omega) HSV.sl (by intro u hu; obtain ⟨x, _, rfl⟩ := List.mem_map.1 hu; rfl) (by have := HN.out; unfold maxLen; omega) (by have := HN.out; omega) HS1.out.lt ?_; intro As capS V2 _ ho hg; (have HO2 := Lib.hid ho); (have HS2 := Lib.hid (HS1.out.on ((Below.refl _ _).grown hg HS1.out.lt (fun q hq => (HO1.out.lt q hq).1)))); clear HSV ho hg x2 x3 x4 x5; obtain ⟨x1, x2, x3, x4, x5⟩ := HS2.out.cells) | (at_builtin; (have HSa := Lib.hid (HS2.out.on ((Below.refl _ V2).alloc HS2.out.lt (.cells #[.string zf] 9)))); refine Jp.wpList_push rfl (.tmp 24) (.tmp 27) _ rfl (w.heap.size + 1) 9 1 16 (.string ⟨#[]⟩) Tryz.underlying34 infoStr rfl (by omega) (.slice As (1 + n) capS) (1 + n) ([.string zo] ++ s.srcs.map vS) rfl (HO2.out.alloc _) V2.heap.size 1 1 [.string zf] 9 rfl rfl (heap_alloc_new V2 _) (by simp [Value.oneCell']) (by omega) (by have := HN.out; unfold maxLen; omega) (by have := HN.out; omega) HSa.out.lt _ rfl ?_; intro g3 cap3 V3 ho hg _ _; (have HO3 := Lib.hid ho); (have HS3 := Lib.hid (HSa.out.on ((Below.refl _ _).grown hg HSa.out.lt (fun q hq => (HO2.out.lt q hq).1)))); clear ho hg x1 x2 x3 x4 x5; obtain ⟨x1, x2, x3, x4, x5⟩ := HS3.out.cells) | fail)
 obtain ⟨HW, hHW⟩ : ∃ l : List Tx, s.op :: ((if s.dst = [] then [] else [s.dst]) ++ (s.srcs ++ (if s.file = [] then [] else [s.file]))) = l := ⟨_, rfl⟩
 have HHW := Lib.hid hHW
 have hlen : 1 + n + 1 = HW.length := by rw [← hHW, if_pos HD.out, if_neg HF.out]; simp [HSSH.out.len]; try omega
 have hmap : (([.string zo] ++ s.srcs.map vS) ++ [.string zf]) = HW.map vS := by rw [← hHW, if_pos HD.out, if_neg HF.out, ← HZO.out, ← HZF.out]; simp [vS]
 have HO9 : Hid (V3.ownsRow (w.heap.size + 1) 9 1 (.slice (some ⟨g3, 0, none⟩) HW.length cap3) HW.length (HW.map vS)) := by show World.ownsRow _ _ _ _ _ _ _; rw [← hmap, ← hlen]; exact HO3.out
 have HHB : Hid (HW.length ≤ n + 3) := by show _ ≤ _; omega
 rw [hlen]
 clear hHW hlen hmap x1 x2 x3 x4
 go_loopw [3, 32] (fun s3 s32 wx => ∃ (k : Nat) (A1 : Option Addr) (c1 : Nat) (ws : List Tx), k ≤ m ∧ s32 = .int .i64 (k : Int) ∧ s3 = .slice A1 ws.length c1 ∧ Hid (wx.ownsRow (w.heap.size + 1) 9 1 (.slice A1 ws.length c1) ws.length (ws.map vS)) ∧ Hid (ws = HW ++ argsW s.op (s.args.take k)) ∧ Hid (1 ≤ k → stopS s = false) ∧ Hid (ws.length = HW.length + k) ∧ Hid (SB w wx #[.int .i64 line, .string zo, .string zd, .slice A n c, .string zf, .slice A2 m c2])) (fun _ s32 _ => m - (intOf s32).toNat)
 case atStart => exact ⟨0, (some ⟨g3, 0, none⟩), cap3, HW, Nat.zero_le _, rfl, rfl, HO9, by show _ = _; simp [argsW], (fun h => by omega), rfl, HS3⟩
 case round =>
  obtain ⟨k, A1, c1, ws, hk, rfl, rfl, HOW, HWS, HNS, HWL, HSB⟩ := hrel
  by_cases hlt : k < m
  ·have HSI := HSIH.out.below HSB.out.bel (Nat.le_refl _)
   obtain ⟨ab, ao, a, rfl, hca, hka, hab⟩ := HSI.cells (i := k) hlt
   have HLT := Lib.hid hlt
   have HKA := Lib.hid hka.out
   have hb := HBD.out a (List.mem_of_getElem? hka.out)
   have HBA := Lib.hid hb
   have HTK : Hid (argsW s.op (s.args.take (k + 1)) = argsW s.op (s.args.take k) ++ [wordA s.op k a]) := argsW_take hka.out
   obtain ⟨y1, -, -, -, -⟩ := HSB.out.cells
   have d2 : decide ((k : Int) < (m : Int)) = true := decide_eq_true (by omega)
   have e2 : decide (k < m) = true := decide_eq_true hlt
   have l0 : (k : Int) < m := by omega
   have z0 : (0 : Int) ≤ k := by omega
   have HU : Hid (wrap64 ((k : Int) + 1) = ((k + 1 : Nat) : Int)) := by show _ = _; have := HN.out; rw [IntWalk.wrap64_in _ (by omega)]; rfl
   have HWB : Hid (ws.length ≤ 1099511627779) := by show _ ≤ _; have := HWL.out; have := HHB.out; have := HN.out; omega
   clear HSI hka hab hlt hk hb
   by_cases hw : bw = true ∧ k = 0
   ·obtain ⟨rfl, rfl⟩ := hw
    rw [Nat.add_zero] at hca
    have hop : s.op = writeT := of_decide_eq_true HWR.out
    have hst := stopS_cons HKA.out
    rw [decide_eq_true hop, Bool.true_and] at hst
    have p0 : (((0 : Nat) : Int) == 0) = true := rfl
    by_cases hs1 : a < 1 ∨ 6 < a
    ·rw [decide_eq_true hs1] at hst
     have HST := Lib.hid hst
     clear hst hop
     rcases hs1 with hs1 | hs1
     ·have g1 : decide (a < 1) = true := decide_eq_true hs1
      clear hs1
      go_wp2_with fail
      go_ret
      refine ⟨HSB.out.bel, ?_⟩
      rw [if_pos HST.out]
      rfl
     ·have g1 : decide (a < 1) = false := decide_eq_false (by omega)
      have g2 : decide ((6 : Int) < a) = true := decide_eq_true hs1
      clear hs1
      go_wp2_with fail
      go_ret
      refine ⟨HSB.out.bel, ?_⟩
      rw [if_pos HST.out]
      rfl
    ·rw [decide_eq_false hs1] at hst
     have HST := Lib.hid hst
     have g1 : decide (a < 1) = false := decide_eq_false (by omega)
     have g2 : decide ((6 : Int) < a) = false := decide_eq_false (by omega)
     obtain ⟨j, hj, hj6⟩ : ∃ j : Nat, a = (j : Int) + 1 ∧ j < 6 := ⟨(a - 1).toNat, by omega, by omega⟩
     have u3 : wrap64 (a - 1) = (j : Int) := by rw [hj, IntWalk.wrap64_in _ (by omega)]; omega
     have u4 : IntKind.i64.wrap (a - 1) = (j : Int) := by rw [hj, IntKind.wrap_i64]; omega
     have l6 : (j : Int) < 6 := by omega
     have z6 : (0 : Int) ≤ j := by omega
     have HWA : Hid (wordA s.op 0 a = fmtsM.getD j []) := by show _ = _; unfold wordA; rw [if_pos ⟨hop, rfl⟩, hj]; congr 1; omega
     have HJ6 := Lib.hid hj6
     clear hst hop hs1 hj hj6
     go_wp2_with (first | (go_at_call 49; refine (formats_at _).mono ?_; rintro e F ⟨gf, rfl, hfc, -, hbf⟩; (have hcj := hfc j HJ6.out); rw [← HWA.out] at hcj; obtain ⟨zw, hzw⟩ : ∃ z, ba (wordA s.op 0 a) = z := ⟨_, rfl⟩; rw [hzw] at hcj; (have HZW := Lib.hid hzw); (have HSF := Lib.hid (HSB.out.on (hbf.mono HSB.out.lt))); (have HOF := Lib.hid (own_below HOW.out hbf)); clear hfc hbf hzw y1) | (at_builtin; (have HSa := Lib.hid (HSF.out.on ((Below.refl _ F).alloc HSF.out.lt (.cells #[.string zw] 9)))); refine Jp.wpList_push rfl (.tmp 50) (.tmp 56) _ rfl (w.heap.size + 1) 9 1 16 (.string ⟨#[]⟩) Tryz.underlying34 infoStr rfl (by omega) (.slice A1 ws.length c1) ws.length (ws.map vS) rfl (HOF.out.alloc _) F.heap.size 1 1 [.string zw] 9 rfl rfl (heap_alloc_new F _) (by simp [Value.oneCell']) (by omega) (by have := HWB.out; unfold maxLen; omega) (by have := HWB.out; omega) HSa.out.lt _ rfl ?_; intro g9 cap9 V9 ho hg _ _; (have HO9 := Lib.hid ho); (have HS9 := Lib.hid (HSa.out.on ((Below.refl _ _).grown hg HSa.out.lt (fun q hq => (HOF.out.lt q hq).1)))); clear ho hg) | fail)
     have HL9 : (ws ++ [wordA s.op 0 a]).length = ws.length + 1 := by rw [List.length_append]; rfl
     go_roundw
     case rel => exact ⟨0 + 1, some ⟨g9, 0, none⟩, cap9, (ws ++ [wordA s.op 0 a]), HLT.out, by first | rfl | rw [HU.out], by rw [HL9], by show World.ownsRow _ _ _ _ _ _ _; rw [HL9, List.map_append]; show World.ownsRow _ _ _ _ _ _ (_ ++ [.string (ba (wordA s.op 0 a))]); rw [HZW.out]; exact HO9.out, by show _ = _; rw [HTK.out, ← List.append_assoc, ← HWS.out], fun _ => HST.out, by show _ = _; have := HWL.out; omega, HS9⟩
     case measure => first | exact meas_by (d := 1) HLT.out (by omega) | (rw [HU.out]; exact meas_by (d := 1) HLT.out (by omega))
   ·have HWA : Hid (wordA s.op k a = itoa a) := by
     show _ = _
     unfold wordA
     rw [if_neg (fun h => hw ⟨by rw [← HWR.out]; exact decide_eq_true h.1, h.2⟩)]
    have HNS2 : Hid (stopS s = false) := by
     show _ = _
     by_cases h0 : k = 0
     ·subst h0
      rw [stopS_cons HKA.out]
      have : decide (s.op = writeT) = false := by rw [HWR.out]; cases bw with | false => rfl | true => exact absurd ⟨rfl, rfl⟩ hw
      rw [this, Bool.false_and]
     ·exact HNS.out (by omega)
    have HIT := Lib.hid (itoa_any a HBA.out.1 HBA.out.2 wr (HVV.out.below HSB.out.bel (Nat.le_refl _)))
    rw [← HWA.out] at HIT
    obtain ⟨zw, hzw⟩ : ∃ z, ba (wordA s.op k a) = z := ⟨_, rfl⟩
    rw [hzw] at HIT
    have HZW := Lib.hid hzw
    clear hzw
    cases bw with
    | false =>
     clear hw
     go_wp2_with (first | (go_at_call 62; refine HIT.out.mono ?_; rintro e F ⟨rfl, hbf⟩; (have HSF := Lib.hid (HSB.out.on (hbf.mono HSB.out.lt))); (have HOF := Lib.hid (own_below HOW.out hbf)); clear hbf y1) | (at_builtin; (have HSa := Lib.hid (HSF.out.on ((Below.refl _ F).alloc HSF.out.lt (.cells #[.string zw] 9)))); refine Jp.wpList_push rfl (.tmp 58) (.tmp 61) _ rfl (w.heap.size + 1) 9 1 16 (.string ⟨#[]⟩) Tryz.underlying34 infoStr rfl (by omega) (.slice A1 ws.length c1) ws.length (ws.map vS) rfl (HOF.out.alloc _) F.heap.size 1 1 [.string zw] 9 rfl rfl (heap_alloc_new F _) (by simp [Value.oneCell']) (by omega) (by have := HWB.out; unfold maxLen; omega) (by have := HWB.out; omega) HSa.out.lt _ rfl ?_; intro g9 cap9 V9 ho hg _ _; (have HO9 := Lib.hid ho); (have HS9 := Lib.hid (HSa.out.on ((Below.refl _ _).grown hg HSa.out.lt (fun q hq => (HOF.out.lt q hq).1)))); clear ho hg) | fail)
     have HL9 : (ws ++ [wordA s.op k a]).length = ws.length + 1 := by rw [List.length_append]; rfl
     go_roundw
     case rel => exact ⟨k + 1, some ⟨g9, 0, none⟩, cap9, (ws ++ [wordA s.op k a]), HLT.out, by first | rfl | rw [HU.out], by rw [HL9], by show World.ownsRow _ _ _ _ _ _ _; rw [HL9, List.map_append]; show World.ownsRow _ _ _ _ _ _ (_ ++ [.string (ba (wordA s.op k a))]); rw [HZW.out]; exact HO9.out, by show _ = _; rw [HTK.out, ← List.append_assoc, ← HWS.out], fun _ => HNS2.out, by show _ = _; have := HWL.out; omega, HS9⟩
     case measure => first | exact meas_by (d := 1) HLT.out (by omega) | (rw [HU.out]; exact meas_by (d := 1) HLT.out (by omega))
    | true =>
     have p0 : ((k : Int) == 0) = false := by simp; intro h; exact hw ⟨rfl, by omega⟩
     clear hw
     go_wp2_with (first | (go_at_call 62; refine HIT.out.mono ?_; rintro e F ⟨rfl, hbf⟩; (have HSF := Lib.hid (HSB.out.on (hbf.mono HSB.out.lt))); (have HOF := Lib.hid (own_below HOW.out hbf)); clear hbf y1) | (at_builtin; (have HSa := Lib.hid (HSF.out.on ((Below.refl _ F).alloc HSF.out.lt (.cells #[.string zw] 9)))); refine Jp.wpList_push rfl (.tmp 58) (.tmp 61) _ rfl (w.heap.size + 1) 9 1 16 (.string ⟨#[]⟩) Tryz.underlying34 infoStr rfl (by omega) (.slice A1 ws.length c1) ws.length (ws.map vS) rfl (HOF.out.alloc _) F.heap.size 1 1 [.string zw] 9 rfl rfl (heap_alloc_new F _) (by simp [Value.oneCell']) (by omega) (by have := HWB.out; unfold maxLen; omega) (by have := HWB.out; omega) HSa.out.lt _ rfl ?_; intro g9 cap9 V9 ho hg _ _; (have HO9 := Lib.hid ho); (have HS9 := Lib.hid (HSa.out.on ((Below.refl _ _).grown hg HSa.out.lt (fun q hq => (HOF.out.lt q hq).1)))); clear ho hg) | fail)
     have HL9 : (ws ++ [wordA s.op k a]).length = ws.length + 1 := by rw [List.length_append]; rfl
     go_roundw
     case rel => exact ⟨k + 1, some ⟨g9, 0, none⟩, cap9, (ws ++ [wordA s.op k a]), HLT.out, by first | rfl | rw [HU.out], by rw [HL9], by show World.ownsRow _ _ _ _ _ _ _; rw [HL9, List.map_append]; show World.ownsRow _ _ _ _ _ _ (_ ++ [.string (ba (wordA s.op k a))]); rw [HZW.out]; exact HO9.out, by show _ = _; rw [HTK.out, ← List.append_assoc, ← HWS.out], fun _ => HNS2.out, by show _ = _; have := HWL.out; omega, HS9⟩
     case measure => first | exact meas_by (d := 1) HLT.out (by omega) | (rw [HU.out]; exact meas_by (d := 1) HLT.out (by omega))
  ·obtain rfl : k = m := by omega
   have d2 : decide ((k : Int) < (k : Int)) = false := decide_eq_false (by omega)
   have HTA : s.args.take k = s.args := List.take_of_length_le (by rw [HSIH.out.len]; exact Nat.le_refl _)
   have HSP : Hid (ws = spellW s) := by
    show _ = _
    rw [HWS.out, HTA, ← HHW.out]
    unfold spellW
    simp
   have HNS3 : Hid (stopS s = false) := by
    show _ = _
    by_cases h0 : k = 0
    ·exact stopS_nil (List.eq_nil_of_length_eq_zero (by rw [HSIH.out.len]; exact h0))
    ·exact HNS.out (by omega)
   clear hlt hk HTA
   go_wp2_with fail
   go_ret
   refine ⟨HSB.out.bel, ?_⟩
   rw [if_neg (by rw [HNS3.out]; decide), ← HSP.out]
   exact ⟨A1, c1, rfl, own_lower HOW.out (by omega)⟩
set_option maxRecDepth 20000 in
set_option maxHeartbeats 8000000 in
theorem spell_10 {line : Int} {s : St} {A A2 : Option Addr} {n c m c2 : Nat} (w : World) (HSS : SS w A n s.srcs) (HSI : SI w .i64 A2 m s.args) (hn : n + m ≤ 1099511627776) (hbd : ∀ a ∈ s.args, -9223372036854775808 ≤ a ∧ a ≤ 9223372036854775807) (HV : Vars w) (hd : s.dst ≠ []) (hf : s.file = []) :
  Calls Tryz.prog 29 #[.agg #[.int .i64 line, .string (ba s.op), .string (ba s.dst), .slice A n c, .string (ba s.file), .slice A2 m c2]] w (SpellP w s) := by
 have HD := Lib.hid hd
 have HF := Lib.hid hf
 have q1 : ((ba s.dst).toList == []) = false := by rw [tl_ba]; simpa using hd
 have q2 : ((ba s.file).toList == []) = true := by rw [tl_ba]; rw [hf]; rfl
 have q3 : ((ba s.op).toList == [119, 114, 105, 116, 101]) = decide (s.op = writeT) := by rw [tl_ba]; by_cases h : s.op = writeT; (· rw [h]; rfl); (· rw [decide_eq_false h]; exact beq_eq_false_iff_ne.2 h)
 obtain ⟨zo, hzo⟩ : ∃ z, ba s.op = z := ⟨_, rfl⟩
 obtain ⟨zd, hzd⟩ : ∃ z, ba s.dst = z := ⟨_, rfl⟩
 obtain ⟨zf, hzf⟩ : ∃ z, ba s.file = z := ⟨_, rfl⟩
 rw [hzd] at q1 ⊢
 rw [hzf] at q2 ⊢
 rw [hzo] at q3 ⊢
 have HZO := Lib.hid hzo
 have HZD := Lib.hid hzd
 have HZF := Lib.hid hzf
 obtain ⟨bw, hwr⟩ : ∃ b, decide (s.op = writeT) = b := ⟨_, rfl⟩
 rw [hwr] at q3
 have HWR := Lib.hid hwr
 obtain ⟨W0, hW0, HS0⟩ : ∃ W0, w.alloc (.cells #[.int .i64 line, .string zo, .string zd, .slice A n c, .string zf, .slice A2 m c2] 37) = W0 ∧ Hid (SB w W0 #[.int .i64 line, .string zo, .string zd, .slice A n c, .string zf, .slice A2 m c2]) := ⟨_, rfl, ⟨heap_alloc_new w _, (Below.refl _ w).alloc (Nat.le_refl _) _⟩⟩
 have y0 := HS0.out.cells.1
 obtain ⟨V1, hV1⟩ : ∃ x, W0.alloc (.cells #[.string zo] 9) = x := ⟨_, rfl⟩
 have HO1 : Hid (V1.ownsRow (w.heap.size + 1) 9 1 (.slice (some ⟨W0.heap.size, 0, none⟩) 1 1) 1 [.string zo]) := by rw [← hV1]; exact own_lower (own_lit W0 [.string zo] 9 (by show 1 ≤ maxLen; decide)) HS0.out.lt
 have HS1 := Lib.hid (HS0.out.on (V2 := V1) (by rw [← hV1]; exact (Below.refl _ _).alloc HS0.out.lt _))
 obtain ⟨G1, hG1⟩ : ∃ x, W0.heap.size = x := ⟨_, rfl⟩
 rw [hG1] at HO1
 obtain ⟨-, x2, x3, x4, x5⟩ := HS1.out.cells
 have HSSH := Lib.hid HSS
 have HSIH := Lib.hid HSI
 have HN := Lib.hid hn
 have HBD := Lib.hid hbd
 have HVV := Lib.hid HV
 clear hd hf hzo hzd hzf hwr HSS HSI hn hbd HV
 go_enter Tryz.func29, Tryz.ntmps29
 go_wp2_with (first | (at_builtin; (have HSa := Lib.hid (HS1.out.on ((Below.refl _ V1).alloc HS1.out.lt (.cells #[.string zd] 9)))); refine Jp.wpList_push rfl (.tmp 12) (.tmp 15) _ rfl (w.heap.size + 1) 9 1 16 (.string ⟨#[]⟩) Tryz.underlying34 infoStr rfl (by omega) (.slice (some ⟨G1, 0, none⟩) (1) 1) (1) [.string zo] rfl (HO1.out.alloc _) V1.heap.size 1 1 [.string zd] 9 rfl rfl (heap_alloc_new V1 _) (by simp [Value.oneCell']) (by omega) (by have := HN.out; unfold maxLen; omega) (by have := HN.out; omega) HSa.out.lt _ rfl ?_; intro g2 cap2 V2 ho hg _ _; (have HO2 := Lib.hid ho); (have HS2 := Lib.hid (HSa.out.on ((Below.refl _ _).grown hg HSa.out.lt (fun q hq => (HO1.out.lt q hq).1)))); clear ho hg x2 x3 x4 x5; obtain ⟨x1, x2, x3, x4, x5⟩ := HS2.out.cells) | (at_builtin; (have HSV : SS V2 A n s.srcs := HSSH.out.below (HS2.out.bel)); refine wpList_append_slS rfl (.tmp 17) (.tmp 19) _ rfl (w.heap.size + 1) 9 1 16 (.string ⟨#[]⟩) Tryz.underlying34 infoStr rfl (by omega) (.slice (some ⟨g2, 0, none⟩) (1 + 1) cap2) (1 + 1) ([.string zo] ++ [.string zd]) rfl HO2.out A n c (s.srcs.map vS) rfl (by rw [List.length_map, HSV.len]; omega) HSV.sl (by intro u hu; obtain ⟨x, _, rfl⟩ := List.mem_map.1 hu; rfl) (by have := HN.out; unfold maxLen; omega) (by have := HN.out; omega) HS2.out.lt ?_; intro As capS V3 _ ho hg; (have HO3 := Lib.hid ho); (have HS3 := Lib.hid (HS2.out.on ((Below.refl _ _).grown hg HS2.out.lt (fun q hq => (HO2.out.lt q hq).1)))); clear HSV ho hg x1 x2 x3 x4 x5; obtain ⟨x1, x2, x3, x4, x5⟩ := HS3.out.cells) | fail)
 obtain ⟨HW, hHW⟩ : ∃ l : List Tx, s.op :: ((if s.dst = [] then [] else [s.dst]) ++ (s.srcs ++ (if s.file = [] then [] else [s.file]))) = l := ⟨_, rfl⟩
 have HHW := Lib.hid hHW
 have hlen : 1 + 1 + n = HW.length := by rw [← hHW, if_neg HD.out, if_pos HF.out]; simp [HSSH.out.len]; try omega
 have hmap : (([.string zo] ++ [.string zd]) ++ s.srcs.map vS) = HW.map vS := by rw [← hHW, if_neg HD.out, if_pos HF.out, ← HZO.out, ← HZD.out]; simp [vS]
 have HO9 : Hid (V3.ownsRow (w.heap.size + 1) 9 1 (.slice As HW.length capS) HW.length (HW.map vS)) := by show World.ownsRow _ _ _ _ _ _ _; rw [← hmap, ← hlen]; exact HO3.out
 have HHB : Hid (HW.length ≤ n + 3) := by show _ ≤ _; omega
 rw [hlen]
 clear hHW hlen hmap x1 x2 x3 x4
 go_loopw [3, 32] (fun s3 s32 wx => ∃ (k : Nat) (A1 : Option Addr) (c1 : Nat) (ws : List Tx), k ≤ m ∧ s32 = .int .i64 (k : Int) ∧ s3 = .slice A1 ws.length c1 ∧ Hid (wx.ownsRow (w.heap.size + 1) 9 1 (.slice A1 ws.length c1) ws.length (ws.map vS)) ∧ Hid (ws = HW ++ argsW s.op (s.args.take k)) ∧ Hid (1 ≤ k → stopS s = false) ∧ Hid (ws.length = HW.length + k) ∧ Hid (SB w wx #[.int .i64 line, .string zo, .string zd, .slice A n c, .string zf, .slice A2 m c2])) (fun _ s32 _ => m - (intOf s32).toNat)
 case atStart => exact ⟨0, As, capS, HW, Nat.zero_le _, rfl, rfl, HO9, by show _ = _; simp [argsW], (fun h => by omega), rfl, HS3⟩
 case round =>
  obtain ⟨k, A1, c1, ws, hk, rfl, rfl, HOW, HWS, HNS, HWL, HSB⟩ := hrel
  by_cases hlt : k < m
  ·have HSI := HSIH.out.below HSB.out.bel (Nat.le_refl _)
   obtain ⟨ab, ao, a, rfl, hca, hka, hab⟩ := HSI.cells (i := k) hlt
   have HLT := Lib.hid hlt
   have HKA := Lib.hid hka.out
   have hb := HBD.out a (List.mem_of_getElem? hka.out)
   have HBA := Lib.hid hb
   have HTK : Hid (argsW s.op (s.args.take (k + 1)) = argsW s.op (s.args.take k) ++ [wordA s.op k a]) := argsW_take hka.out
   obtain ⟨y1, -, -, -, -⟩ := HSB.out.cells
   have d2 : decide ((k : Int) < (m : Int)) = true := decide_eq_true (by omega)
   have e2 : decide (k < m) = true := decide_eq_true hlt
   have l0 : (k : Int) < m := by omega
   have z0 : (0 : Int) ≤ k := by omega
   have HU : Hid (wrap64 ((k : Int) + 1) = ((k + 1 : Nat) : Int)) := by show _ = _; have := HN.out; rw [IntWalk.wrap64_in _ (by omega)]; rfl
   have HWB : Hid (ws.length ≤ 1099511627779) := by show _ ≤ _; have := HWL.out; have := HHB.out; have := HN.out; omega
   clear HSI hka hab hlt hk hb
   by_cases hw : bw = true ∧ k = 0
   ·obtain ⟨rfl, rfl⟩ := hw
    rw [Nat.add_zero] at hca
    have hop : s.op = writeT := of_decide_eq_true HWR.out
    have hst := stopS_cons HKA.out
    rw [decide_eq_true hop, Bool.true_and] at hst
    have p0 : (((0 : Nat) : Int) == 0) = true := rfl
    by_cases hs1 : a < 1 ∨ 6 < a
    ·rw [decide_eq_true hs1] at hst
     have HST := Lib.hid hst
     clear hst hop
     rcases hs1 with hs1 | hs1
     ·have g1 : decide (a < 1) = true := decide_eq_true hs1
      clear hs1
      go_wp2_with fail
      go_ret
      refine ⟨HSB.out.bel, ?_⟩
      rw [if_pos HST.out]
      rfl
     ·have g1 : decide (a < 1) = false := decide_eq_false (by omega)
      have g2 : decide ((6 : Int) < a) = true := decide_eq_true hs1
      clear hs1
      go_wp2_with fail
      go_ret
      refine ⟨HSB.out.bel, ?_⟩
      rw [if_pos HST.out]
      rfl
    ·rw [decide_eq_false hs1] at hst
     have HST := Lib.hid hst
     have g1 : decide (a < 1) = false := decide_eq_false (by omega)
     have g2 : decide ((6 : Int) < a) = false := decide_eq_false (by omega)
     obtain ⟨j, hj, hj6⟩ : ∃ j : Nat, a = (j : Int) + 1 ∧ j < 6 := ⟨(a - 1).toNat, by omega, by omega⟩
     have u3 : wrap64 (a - 1) = (j : Int) := by rw [hj, IntWalk.wrap64_in _ (by omega)]; omega
     have u4 : IntKind.i64.wrap (a - 1) = (j : Int) := by rw [hj, IntKind.wrap_i64]; omega
     have l6 : (j : Int) < 6 := by omega
     have z6 : (0 : Int) ≤ j := by omega
     have HWA : Hid (wordA s.op 0 a = fmtsM.getD j []) := by show _ = _; unfold wordA; rw [if_pos ⟨hop, rfl⟩, hj]; congr 1; omega
     have HJ6 := Lib.hid hj6
     clear hst hop hs1 hj hj6
     go_wp2_with (first | (go_at_call 49; refine (formats_at _).mono ?_; rintro e F ⟨gf, rfl, hfc, -, hbf⟩; (have hcj := hfc j HJ6.out); rw [← HWA.out] at hcj; obtain ⟨zw, hzw⟩ : ∃ z, ba (wordA s.op 0 a) = z := ⟨_, rfl⟩; rw [hzw] at hcj; (have HZW := Lib.hid hzw); (have HSF := Lib.hid (HSB.out.on (hbf.mono HSB.out.lt))); (have HOF := Lib.hid (own_below HOW.out hbf)); clear hfc hbf hzw y1) | (at_builtin; (have HSa := Lib.hid (HSF.out.on ((Below.refl _ F).alloc HSF.out.lt (.cells #[.string zw] 9)))); refine Jp.wpList_push rfl (.tmp 50) (.tmp 56) _ rfl (w.heap.size + 1) 9 1 16 (.string ⟨#[]⟩) Tryz.underlying34 infoStr rfl (by omega) (.slice A1 ws.length c1) ws.length (ws.map vS) rfl (HOF.out.alloc _) F.heap.size 1 1 [.string zw] 9 rfl rfl (heap_alloc_new F _) (by simp [Value.oneCell']) (by omega) (by have := HWB.out; unfold maxLen; omega) (by have := HWB.out; omega) HSa.out.lt _ rfl ?_; intro g9 cap9 V9 ho hg _ _; (have HO9 := Lib.hid ho); (have HS9 := Lib.hid (HSa.out.on ((Below.refl _ _).grown hg HSa.out.lt (fun q hq => (HOF.out.lt q hq).1)))); clear ho hg) | fail)
     have HL9 : (ws ++ [wordA s.op 0 a]).length = ws.length + 1 := by rw [List.length_append]; rfl
     go_roundw
     case rel => exact ⟨0 + 1, some ⟨g9, 0, none⟩, cap9, (ws ++ [wordA s.op 0 a]), HLT.out, by first | rfl | rw [HU.out], by rw [HL9], by show World.ownsRow _ _ _ _ _ _ _; rw [HL9, List.map_append]; show World.ownsRow _ _ _ _ _ _ (_ ++ [.string (ba (wordA s.op 0 a))]); rw [HZW.out]; exact HO9.out, by show _ = _; rw [HTK.out, ← List.append_assoc, ← HWS.out], fun _ => HST.out, by show _ = _; have := HWL.out; omega, HS9⟩
     case measure => first | exact meas_by (d := 1) HLT.out (by omega) | (rw [HU.out]; exact meas_by (d := 1) HLT.out (by omega))
   ·have HWA : Hid (wordA s.op k a = itoa a) := by
     show _ = _
     unfold wordA
     rw [if_neg (fun h => hw ⟨by rw [← HWR.out]; exact decide_eq_true h.1, h.2⟩)]
    have HNS2 : Hid (stopS s = false) := by
     show _ = _
     by_cases h0 : k = 0
     ·subst h0
      rw [stopS_cons HKA.out]
      have : decide (s.op = writeT) = false := by rw [HWR.out]; cases bw with | false => rfl | true => exact absurd ⟨rfl, rfl⟩ hw
      rw [this, Bool.false_and]
     ·exact HNS.out (by omega)
    have HIT := Lib.hid (itoa_any a HBA.out.1 HBA.out.2 wr (HVV.out.below HSB.out.bel (Nat.le_refl _)))
    rw [← HWA.out] at HIT
    obtain ⟨zw, hzw⟩ : ∃ z, ba (wordA s.op k a) = z := ⟨_, rfl⟩
    rw [hzw] at HIT
    have HZW := Lib.hid hzw
    clear hzw
    cases bw with
    | false =>
     clear hw
     go_wp2_with (first | (go_at_call 62; refine HIT.out.mono ?_; rintro e F ⟨rfl, hbf⟩; (have HSF := Lib.hid (HSB.out.on (hbf.mono HSB.out.lt))); (have HOF := Lib.hid (own_below HOW.out hbf)); clear hbf y1) | (at_builtin; (have HSa := Lib.hid (HSF.out.on ((Below.refl _ F).alloc HSF.out.lt (.cells #[.string zw] 9)))); refine Jp.wpList_push rfl (.tmp 58) (.tmp 61) _ rfl (w.heap.size + 1) 9 1 16 (.string ⟨#[]⟩) Tryz.underlying34 infoStr rfl (by omega) (.slice A1 ws.length c1) ws.length (ws.map vS) rfl (HOF.out.alloc _) F.heap.size 1 1 [.string zw] 9 rfl rfl (heap_alloc_new F _) (by simp [Value.oneCell']) (by omega) (by have := HWB.out; unfold maxLen; omega) (by have := HWB.out; omega) HSa.out.lt _ rfl ?_; intro g9 cap9 V9 ho hg _ _; (have HO9 := Lib.hid ho); (have HS9 := Lib.hid (HSa.out.on ((Below.refl _ _).grown hg HSa.out.lt (fun q hq => (HOF.out.lt q hq).1)))); clear ho hg) | fail)
     have HL9 : (ws ++ [wordA s.op k a]).length = ws.length + 1 := by rw [List.length_append]; rfl
     go_roundw
     case rel => exact ⟨k + 1, some ⟨g9, 0, none⟩, cap9, (ws ++ [wordA s.op k a]), HLT.out, by first | rfl | rw [HU.out], by rw [HL9], by show World.ownsRow _ _ _ _ _ _ _; rw [HL9, List.map_append]; show World.ownsRow _ _ _ _ _ _ (_ ++ [.string (ba (wordA s.op k a))]); rw [HZW.out]; exact HO9.out, by show _ = _; rw [HTK.out, ← List.append_assoc, ← HWS.out], fun _ => HNS2.out, by show _ = _; have := HWL.out; omega, HS9⟩
     case measure => first | exact meas_by (d := 1) HLT.out (by omega) | (rw [HU.out]; exact meas_by (d := 1) HLT.out (by omega))
    | true =>
     have p0 : ((k : Int) == 0) = false := by simp; intro h; exact hw ⟨rfl, by omega⟩
     clear hw
     go_wp2_with (first | (go_at_call 62; refine HIT.out.mono ?_; rintro e F ⟨rfl, hbf⟩; (have HSF := Lib.hid (HSB.out.on (hbf.mono HSB.out.lt))); (have HOF := Lib.hid (own_below HOW.out hbf)); clear hbf y1) | (at_builtin; (have HSa := Lib.hid (HSF.out.on ((Below.refl _ F).alloc HSF.out.lt (.cells #[.string zw] 9)))); refine Jp.wpList_push rfl (.tmp 58) (.tmp 61) _ rfl (w.heap.size + 1) 9 1 16 (.string ⟨#[]⟩) Tryz.underlying34 infoStr rfl (by omega) (.slice A1 ws.length c1) ws.length (ws.map vS) rfl (HOF.out.alloc _) F.heap.size 1 1 [.string zw] 9 rfl rfl (heap_alloc_new F _) (by simp [Value.oneCell']) (by omega) (by have := HWB.out; unfold maxLen; omega) (by have := HWB.out; omega) HSa.out.lt _ rfl ?_; intro g9 cap9 V9 ho hg _ _; (have HO9 := Lib.hid ho); (have HS9 := Lib.hid (HSa.out.on ((Below.refl _ _).grown hg HSa.out.lt (fun q hq => (HOF.out.lt q hq).1)))); clear ho hg) | fail)
     have HL9 : (ws ++ [wordA s.op k a]).length = ws.length + 1 := by rw [List.length_append]; rfl
     go_roundw
     case rel => exact ⟨k + 1, some ⟨g9, 0, none⟩, cap9, (ws ++ [wordA s.op k a]), HLT.out, by first | rfl | rw [HU.out], by rw [HL9], by show World.ownsRow _ _ _ _ _ _ _; rw [HL9, List.map_append]; show World.ownsRow _ _ _ _ _ _ (_ ++ [.string (ba (wordA s.op k a))]); rw [HZW.out]; exact HO9.out, by show _ = _; rw [HTK.out, ← List.append_assoc, ← HWS.out], fun _ => HNS2.out, by show _ = _; have := HWL.out; omega, HS9⟩
     case measure => first | exact meas_by (d := 1) HLT.out (by omega) | (rw [HU.out]; exact meas_by (d := 1) HLT.out (by omega))
  ·obtain rfl : k = m := by omega
   have d2 : decide ((k : Int) < (k : Int)) = false := decide_eq_false (by omega)
   have HTA : s.args.take k = s.args := List.take_of_length_le (by rw [HSIH.out.len]; exact Nat.le_refl _)
   have HSP : Hid (ws = spellW s) := by
    show _ = _
    rw [HWS.out, HTA, ← HHW.out]
    unfold spellW
    simp
   have HNS3 : Hid (stopS s = false) := by
    show _ = _
    by_cases h0 : k = 0
    ·exact stopS_nil (List.eq_nil_of_length_eq_zero (by rw [HSIH.out.len]; exact h0))
    ·exact HNS.out (by omega)
   clear hlt hk HTA
   go_wp2_with fail
   go_ret
   refine ⟨HSB.out.bel, ?_⟩
   rw [if_neg (by rw [HNS3.out]; decide), ← HSP.out]
   exact ⟨A1, c1, rfl, own_lower HOW.out (by omega)⟩
set_option maxRecDepth 20000 in
set_option maxHeartbeats 8000000 in
theorem spell_11 {line : Int} {s : St} {A A2 : Option Addr} {n c m c2 : Nat} (w : World) (HSS : SS w A n s.srcs) (HSI : SI w .i64 A2 m s.args) (hn : n + m ≤ 1099511627776) (hbd : ∀ a ∈ s.args, -9223372036854775808 ≤ a ∧ a ≤ 9223372036854775807) (HV : Vars w) (hd : s.dst ≠ []) (hf : s.file ≠ []) :
  Calls Tryz.prog 29 #[.agg #[.int .i64 line, .string (ba s.op), .string (ba s.dst), .slice A n c, .string (ba s.file), .slice A2 m c2]] w (SpellP w s) := by
 have HD := Lib.hid hd
 have HF := Lib.hid hf
 have q1 : ((ba s.dst).toList == []) = false := by rw [tl_ba]; simpa using hd
 have q2 : ((ba s.file).toList == []) = false := by rw [tl_ba]; simpa using hf
 have q3 : ((ba s.op).toList == [119, 114, 105, 116, 101]) = decide (s.op = writeT) := by rw [tl_ba]; by_cases h : s.op = writeT; (· rw [h]; rfl); (· rw [decide_eq_false h]; exact beq_eq_false_iff_ne.2 h)
 obtain ⟨zo, hzo⟩ : ∃ z, ba s.op = z := ⟨_, rfl⟩
 obtain ⟨zd, hzd⟩ : ∃ z, ba s.dst = z := ⟨_, rfl⟩
 obtain ⟨zf, hzf⟩ : ∃ z, ba s.file = z := ⟨_, rfl⟩
 rw [hzd] at q1 ⊢
 rw [hzf] at q2 ⊢
 rw [hzo] at q3 ⊢
 have HZO := Lib.hid hzo
 have HZD := Lib.hid hzd
 have HZF := Lib.hid hzf
 obtain ⟨bw, hwr⟩ : ∃ b, decide (s.op = writeT) = b := ⟨_, rfl⟩
 rw [hwr] at q3
 have HWR := Lib.hid hwr
 obtain ⟨W0, hW0, HS0⟩ : ∃ W0, w.alloc (.cells #[.int .i64 line, .string zo, .string zd, .slice A n c, .string zf, .slice A2 m c2] 37) = W0 ∧ Hid (SB w W0 #[.int .i64 line, .string zo, .string zd, .slice A n c, .string zf, .slice A2 m c2]) := ⟨_, rfl, ⟨heap_alloc_new w _, (Below.refl _ w).alloc (Nat.le_refl _) _⟩⟩
 have y0 := HS0.out.cells.1
 obtain ⟨V1, hV1⟩ : ∃ x, W0.alloc (.cells #[.string zo] 9) = x := ⟨_, rfl⟩
 have HO1 : Hid (V1.ownsRow (w.heap.size + 1) 9 1 (.slice (some ⟨W0.heap.size, 0, none⟩) 1 1) 1 [.string zo]) := by rw [← hV1]; exact own_lower (own_lit W0 [.string zo] 9 (by show 1 ≤ maxLen; decide)) HS0.out.lt
 have HS1 := Lib.hid (HS0.out.on (V2 := V1) (by rw [← hV1]; exact (Below.refl _ _).alloc HS0.out.lt _))
 obtain ⟨G1, hG1⟩ : ∃ x, W0.heap.size = x := ⟨_, rfl⟩
 rw [hG1] at HO1
 obtain ⟨-, x2, x3, x4, x5⟩ := HS1.out.cells
 have HSSH := Lib.hid HSS
 have HSIH := Lib.hid HSI
 have HN := Lib.hid hn
 have HBD := Lib.hid hbd
 have HVV := Lib.hid HV
 clear hd hf hzo hzd hzf hwr HSS HSI hn hbd HV
 go_enter Tryz.func29, Tryz.ntmps29
 go_wp2_with (first | (at_builtin; (have HSa := Lib.hid (HS1.out.on ((Below.refl _ V1).alloc HS1.out.lt (.cells #[.string zd] 9)))); refine Jp.wpList_push rfl (.tmp 12) (.tmp 15) _ rfl (w.heap.size + 1) 9 1 16 (.string ⟨#[]⟩) Tryz.underlying34 infoStr rfl (by omega) (.slice (some ⟨G1, 0, none⟩) (1) 1) (1) [.string zo] rfl (HO1.out.alloc _) V1.heap.size 1 1 [.string zd] 9 rfl rfl (heap_alloc_new V1 _) (by simp [Value.oneCell']) (by omega) (by have := HN.out; unfold maxLen; omega) (by have := HN.out; omega) HSa.out.lt _ rfl ?_; intro g2 cap2 V2 ho hg _ _; (have HO2 := Lib.hid ho); (have HS2 := Lib.hid (HSa.out.on ((Below.refl _ _).grown hg HSa.out.lt (fun q hq => (HO1.out.lt q hq).1)))); clear ho hg x2 x3 x4 x5; obtain ⟨x1, x2, x3, x4, x5⟩ := HS2.out.cells) | (at_builtin; (have HSV : SS V2 A n s.srcs := HSSH.out.below (HS2.out.bel)); refine wpList_append_slS rfl (.tmp 17) (.tmp 19) _ rfl (w.heap.size + 1) 9 1 16 (.string ⟨#[]⟩) Tryz.underlying34 infoStr rfl (by omega) (.slice (some ⟨g2, 0, none⟩) (1 + 1) cap2) (1 + 1) ([.string zo] ++ [.string zd]) rfl HO2.out A n c (s.srcs.map vS) rfl (by rw [List.length_map, HSV.len]; omega) HSV.sl (by intro u hu; obtain ⟨x, _, rfl⟩ := List.mem_map.1 hu; rfl) (by have := HN.out; unfold maxLen; omega) (by have := HN.out; omega) HS2.out.lt ?_; intro As capS V3 _ ho hg; (have HO3 := Lib.hid ho); (have HS3 := Lib.hid (HS2.out.on ((Below.refl _ _).grown hg HS2.out.lt (fun q hq => (HO2.out.lt q hq).1)))); clear HSV ho hg x1 x2 x3 x4 x5; obtain ⟨x1, x2, x3, x4, x5⟩ := HS3.out.cells) | (at_builtin; (have HSa := Lib.hid (HS3.out.on ((Below.refl _ V3).alloc HS3.out.lt (.cells #[.string zf] 9)))); refine Jp.wpList_push rfl (.tmp 24) (.tmp 27) _ rfl (w.heap.size + 1) 9 1 16 (.string ⟨#[]⟩) Tryz.underlying34 infoStr rfl (by omega) (.slice As (1 + 1 + n) capS) (1 + 1 + n) (([.string zo] ++ [.string zd]) ++ s.srcs.map vS) rfl (HO3.out.alloc _) V3.heap.size 1 1 [.string zf] 9 rfl rfl (heap_alloc_new V3 _) (by simp [Value.oneCell']) (by omega) (by have := HN.out; unfold maxLen; omega) (by have := HN.out; omega) HSa.out.lt _ rfl ?_; intro g4 cap4 V4 ho hg _ _; (have HO4 := Lib.hid ho); (have HS4 := Lib.hid (HSa.out.on ((Below.refl _ _).grown hg HSa.out.lt (fun q hq => (HO3.out.lt q hq).1)))); clear ho hg x1 x2 x3 x4 x5; obtain ⟨x1, x2, x3, x4, x5⟩ := HS4.out.cells) | fail)
 obtain ⟨HW, hHW⟩ : ∃ l : List Tx, s.op :: ((if s.dst = [] then [] else [s.dst]) ++ (s.srcs ++ (if s.file = [] then [] else [s.file]))) = l := ⟨_, rfl⟩
 have HHW := Lib.hid hHW
 have hlen : 1 + 1 + n + 1 = HW.length := by rw [← hHW, if_neg HD.out, if_neg HF.out]; simp [HSSH.out.len]; try omega
 have hmap : ((([.string zo] ++ [.string zd]) ++ s.srcs.map vS) ++ [.string zf]) = HW.map vS := by rw [← hHW, if_neg HD.out, if_neg HF.out, ← HZO.out, ← HZD.out, ← HZF.out]; simp [vS]
 have HO9 : Hid (V4.ownsRow (w.heap.size + 1) 9 1 (.slice (some ⟨g4, 0, none⟩) HW.length cap4) HW.length (HW.map vS)) := by show World.ownsRow _ _ _ _ _ _ _; rw [← hmap, ← hlen]; exact HO4.out
 have HHB : Hid (HW.length ≤ n + 3) := by show _ ≤ _; omega
 rw [hlen]
 clear hHW hlen hmap x1 x2 x3 x4
 go_loopw [3, 32] (fun s3 s32 wx => ∃ (k : Nat) (A1 : Option Addr) (c1 : Nat) (ws : List Tx), k ≤ m ∧ s32 = .int .i64 (k : Int) ∧ s3 = .slice A1 ws.length c1 ∧ Hid (wx.ownsRow (w.heap.size + 1) 9 1 (.slice A1 ws.length c1) ws.length (ws.map vS)) ∧ Hid (ws = HW ++ argsW s.op (s.args.take k)) ∧ Hid (1 ≤ k → stopS s = false) ∧ Hid (ws.length = HW.length + k) ∧ Hid (SB w wx #[.int .i64 line, .string zo, .string zd, .slice A n c, .string zf, .slice A2 m c2])) (fun _ s32 _ => m - (intOf s32).toNat)
 case atStart => exact ⟨0, (some ⟨g4, 0, none⟩), cap4, HW, Nat.zero_le _, rfl, rfl, HO9, by show _ = _; simp [argsW], (fun h => by omega), rfl, HS4⟩
 case round =>
  obtain ⟨k, A1, c1, ws, hk, rfl, rfl, HOW, HWS, HNS, HWL, HSB⟩ := hrel
  by_cases hlt : k < m
  ·have HSI := HSIH.out.below HSB.out.bel (Nat.le_refl _)
   obtain ⟨ab, ao, a, rfl, hca, hka, hab⟩ := HSI.cells (i := k) hlt
   have HLT := Lib.hid hlt
   have HKA := Lib.hid hka.out
   have hb := HBD.out a (List.mem_of_getElem? hka.out)
   have HBA := Lib.hid hb
   have HTK : Hid (argsW s.op (s.args.take (k + 1)) = argsW s.op (s.args.take k) ++ [wordA s.op k a]) := argsW_take hka.out
   obtain ⟨y1, -, -, -, -⟩ := HSB.out.cells
   have d2 : decide ((k : Int) < (m : Int)) = true := decide_eq_true (by omega)
   have e2 : decide (k < m) = true := decide_eq_true hlt
   have l0 : (k : Int) < m := by omega
   have z0 : (0 : Int) ≤ k := by omega
   have HU : Hid (wrap64 ((k : Int) + 1) = ((k + 1 : Nat) : Int)) := by show _ = _; have := HN.out; rw [IntWalk.wrap64_in _ (by omega)]; rfl
   have HWB : Hid (ws.length ≤ 1099511627779) := by show _ ≤ _; have := HWL.out; have := HHB.out; have := HN.out; omega
   clear HSI hka hab hlt hk hb
   by_cases hw : bw = true ∧ k = 0
   ·obtain ⟨rfl, rfl⟩ := hw
    rw [Nat.add_zero] at hca
    have hop : s.op = writeT := of_decide_eq_true HWR.out
    have hst := stopS_cons HKA.out
    rw [decide_eq_true hop, Bool.true_and] at hst
    have p0 : (((0 : Nat) : Int) == 0) = true := rfl
    by_cases hs1 : a < 1 ∨ 6 < a
    ·rw [decide_eq_true hs1] at hst
     have HST := Lib.hid hst
     clear hst hop
     rcases hs1 with hs1 | hs1
     ·have g1 : decide (a < 1) = true := decide_eq_true hs1
      clear hs1
      go_wp2_with fail
      go_ret
      refine ⟨HSB.out.bel, ?_⟩
      rw [if_pos HST.out]
      rfl
     ·have g1 : decide (a < 1) = false := decide_eq_false (by omega)
      have g2 : decide ((6 : Int) < a) = true := decide_eq_true hs1
      clear hs1
      go_wp2_with fail
      go_ret
      refine ⟨HSB.out.bel, ?_⟩
      rw [if_pos HST.out]
      rfl
    ·rw [decide_eq_false hs1] at hst
     have HST := Lib.hid hst
     have g1 : decide (a < 1) = false := decide_eq_false (by omega)
     have g2 : decide ((6 : Int) < a) = false := decide_eq_false (by omega)
     obtain ⟨j, hj, hj6⟩ : ∃ j : Nat, a = (j : Int) + 1 ∧ j < 6 := ⟨(a - 1).toNat, by omega, by omega⟩
     have u3 : wrap64 (a - 1) = (j : Int) := by rw [hj, IntWalk.wrap64_in _ (by omega)]; omega
     have u4 : IntKind.i64.wrap (a - 1) = (j : Int) := by rw [hj, IntKind.wrap_i64]; omega
     have l6 : (j : Int) < 6 := by omega
     have z6 : (0 : Int) ≤ j := by omega
     have HWA : Hid (wordA s.op 0 a = fmtsM.getD j []) := by show _ = _; unfold wordA; rw [if_pos ⟨hop, rfl⟩, hj]; congr 1; omega
     have HJ6 := Lib.hid hj6
     clear hst hop hs1 hj hj6
     go_wp2_with (first | (go_at_call 49; refine (formats_at _).mono ?_; rintro e F ⟨gf, rfl, hfc, -, hbf⟩; (have hcj := hfc j HJ6.out); rw [← HWA.out] at hcj; obtain ⟨zw, hzw⟩ : ∃ z, ba (wordA s.op 0 a) = z := ⟨_, rfl⟩; rw [hzw] at hcj; (have HZW := Lib.hid hzw); (have HSF := Lib.hid (HSB.out.on (hbf.mono HSB.out.lt))); (have HOF := Lib.hid (own_below HOW.out hbf)); clear hfc hbf hzw y1) | (at_builtin; (have HSa := Lib.hid (HSF.out.on ((Below.refl _ F).alloc HSF.out.lt (.cells #[.string zw] 9)))); refine Jp.wpList_push rfl (.tmp 50) (.tmp 56) _ rfl (w.heap.size + 1) 9 1 16 (.string ⟨#[]⟩) Tryz.underlying34 infoStr rfl (by omega) (.slice A1 ws.length c1) ws.length (ws.map vS) rfl (HOF.out.alloc _) F.heap.size 1 1 [.string zw] 9 rfl rfl (heap_alloc_new F _) (by simp [Value.oneCell']) (by omega) (by have := HWB.out; unfold maxLen; omega) (by have := HWB.out; omega) HSa.out.lt _ rfl ?_; intro g9 cap9 V9 ho hg _ _; (have HO9 := Lib.hid ho); (have HS9 := Lib.hid (HSa.out.on ((Below.refl _ _).grown hg HSa.out.lt (fun q hq => (HOF.out.lt q hq).1)))); clear ho hg) | fail)
     have HL9 : (ws ++ [wordA s.op 0 a]).length = ws.length + 1 := by rw [List.length_append]; rfl
     go_roundw
     case rel => exact ⟨0 + 1, some ⟨g9, 0, none⟩, cap9, (ws ++ [wordA s.op 0 a]), HLT.out, by first | rfl | rw [HU.out], by rw [HL9], by show World.ownsRow _ _ _ _ _ _ _; rw [HL9, List.map_append]; show World.ownsRow _ _ _ _ _ _ (_ ++ [.string (ba (wordA s.op 0 a))]); rw [HZW.out]; exact HO9.out, by show _ = _; rw [HTK.out, ← List.append_assoc, ← HWS.out], fun _ => HST.out, by show _ = _; have := HWL.out; omega, HS9⟩
     case measure => first | exact meas_by (d := 1) HLT.out (by omega) | (rw [HU.out]; exact meas_by (d := 1) HLT.out (by omega))
   ·have HWA : Hid (wordA s.op k a = itoa a) := by
     show _ = _
     unfold wordA
     rw [if_neg (fun h => hw ⟨by rw [← HWR.out]; exact decide_eq_true h.1, h.2⟩)]
    have HNS2 : Hid (stopS s = false) := by
     show _ = _
     by_cases h0 : k = 0
     ·subst h0
      rw [stopS_cons HKA.out]
      have : decide (s.op = writeT) = false := by rw [HWR.out]; cases bw with | false => rfl | true => exact absurd ⟨rfl, rfl⟩ hw
      rw [this, Bool.false_and]
     ·exact HNS.out (by omega)
    have HIT := Lib.hid (itoa_any a HBA.out.1 HBA.out.2 wr (HVV.out.below HSB.out.bel (Nat.le_refl _)))
    rw [← HWA.out] at HIT
    obtain ⟨zw, hzw⟩ : ∃ z, ba (wordA s.op k a) = z := ⟨_, rfl⟩
    rw [hzw] at HIT
    have HZW := Lib.hid hzw
    clear hzw
    cases bw with
    | false =>
     clear hw
     go_wp2_with (first | (go_at_call 62; refine HIT.out.mono ?_; rintro e F ⟨rfl, hbf⟩; (have HSF := Lib.hid (HSB.out.on (hbf.mono HSB.out.lt))); (have HOF := Lib.hid (own_below HOW.out hbf)); clear hbf y1) | (at_builtin; (have HSa := Lib.hid (HSF.out.on ((Below.refl _ F).alloc HSF.out.lt (.cells #[.string zw] 9)))); refine Jp.wpList_push rfl (.tmp 58) (.tmp 61) _ rfl (w.heap.size + 1) 9 1 16 (.string ⟨#[]⟩) Tryz.underlying34 infoStr rfl (by omega) (.slice A1 ws.length c1) ws.length (ws.map vS) rfl (HOF.out.alloc _) F.heap.size 1 1 [.string zw] 9 rfl rfl (heap_alloc_new F _) (by simp [Value.oneCell']) (by omega) (by have := HWB.out; unfold maxLen; omega) (by have := HWB.out; omega) HSa.out.lt _ rfl ?_; intro g9 cap9 V9 ho hg _ _; (have HO9 := Lib.hid ho); (have HS9 := Lib.hid (HSa.out.on ((Below.refl _ _).grown hg HSa.out.lt (fun q hq => (HOF.out.lt q hq).1)))); clear ho hg) | fail)
     have HL9 : (ws ++ [wordA s.op k a]).length = ws.length + 1 := by rw [List.length_append]; rfl
     go_roundw
     case rel => exact ⟨k + 1, some ⟨g9, 0, none⟩, cap9, (ws ++ [wordA s.op k a]), HLT.out, by first | rfl | rw [HU.out], by rw [HL9], by show World.ownsRow _ _ _ _ _ _ _; rw [HL9, List.map_append]; show World.ownsRow _ _ _ _ _ _ (_ ++ [.string (ba (wordA s.op k a))]); rw [HZW.out]; exact HO9.out, by show _ = _; rw [HTK.out, ← List.append_assoc, ← HWS.out], fun _ => HNS2.out, by show _ = _; have := HWL.out; omega, HS9⟩
     case measure => first | exact meas_by (d := 1) HLT.out (by omega) | (rw [HU.out]; exact meas_by (d := 1) HLT.out (by omega))
    | true =>
     have p0 : ((k : Int) == 0) = false := by simp; intro h; exact hw ⟨rfl, by omega⟩
     clear hw
     go_wp2_with (first | (go_at_call 62; refine HIT.out.mono ?_; rintro e F ⟨rfl, hbf⟩; (have HSF := Lib.hid (HSB.out.on (hbf.mono HSB.out.lt))); (have HOF := Lib.hid (own_below HOW.out hbf)); clear hbf y1) | (at_builtin; (have HSa := Lib.hid (HSF.out.on ((Below.refl _ F).alloc HSF.out.lt (.cells #[.string zw] 9)))); refine Jp.wpList_push rfl (.tmp 58) (.tmp 61) _ rfl (w.heap.size + 1) 9 1 16 (.string ⟨#[]⟩) Tryz.underlying34 infoStr rfl (by omega) (.slice A1 ws.length c1) ws.length (ws.map vS) rfl (HOF.out.alloc _) F.heap.size 1 1 [.string zw] 9 rfl rfl (heap_alloc_new F _) (by simp [Value.oneCell']) (by omega) (by have := HWB.out; unfold maxLen; omega) (by have := HWB.out; omega) HSa.out.lt _ rfl ?_; intro g9 cap9 V9 ho hg _ _; (have HO9 := Lib.hid ho); (have HS9 := Lib.hid (HSa.out.on ((Below.refl _ _).grown hg HSa.out.lt (fun q hq => (HOF.out.lt q hq).1)))); clear ho hg) | fail)
     have HL9 : (ws ++ [wordA s.op k a]).length = ws.length + 1 := by rw [List.length_append]; rfl
     go_roundw
     case rel => exact ⟨k + 1, some ⟨g9, 0, none⟩, cap9, (ws ++ [wordA s.op k a]), HLT.out, by first | rfl | rw [HU.out], by rw [HL9], by show World.ownsRow _ _ _ _ _ _ _; rw [HL9, List.map_append]; show World.ownsRow _ _ _ _ _ _ (_ ++ [.string (ba (wordA s.op k a))]); rw [HZW.out]; exact HO9.out, by show _ = _; rw [HTK.out, ← List.append_assoc, ← HWS.out], fun _ => HNS2.out, by show _ = _; have := HWL.out; omega, HS9⟩
     case measure => first | exact meas_by (d := 1) HLT.out (by omega) | (rw [HU.out]; exact meas_by (d := 1) HLT.out (by omega))
  ·obtain rfl : k = m := by omega
   have d2 : decide ((k : Int) < (k : Int)) = false := decide_eq_false (by omega)
   have HTA : s.args.take k = s.args := List.take_of_length_le (by rw [HSIH.out.len]; exact Nat.le_refl _)
   have HSP : Hid (ws = spellW s) := by
    show _ = _
    rw [HWS.out, HTA, ← HHW.out]
    unfold spellW
    simp
   have HNS3 : Hid (stopS s = false) := by
    show _ = _
    by_cases h0 : k = 0
    ·exact stopS_nil (List.eq_nil_of_length_eq_zero (by rw [HSIH.out.len]; exact h0))
    ·exact HNS.out (by omega)
   clear hlt hk HTA
   go_wp2_with fail
   go_ret
   refine ⟨HSB.out.bel, ?_⟩
   rw [if_neg (by rw [HNS3.out]; decide), ← HSP.out]
   exact ⟨A1, c1, rfl, own_lower HOW.out (by omega)⟩
theorem spell_any {line : Int} {s : St} {A A2 : Option Addr} {n c m c2 : Nat} (w : World) (HSS : SS w A n s.srcs) (HSI : SI w .i64 A2 m s.args) (hn : n + m ≤ 1099511627776) (hbd : ∀ a ∈ s.args, -9223372036854775808 ≤ a ∧ a ≤ 9223372036854775807) (HV : Vars w) :
  Calls Tryz.prog 29 #[.agg (stC line (ba s.op) (ba s.dst) A n c (ba s.file) A2 m c2)] w (SpellP w s) := by
 by_cases hd : s.dst = []
 ·by_cases hf : s.file = []
  ·exact spell_00 w HSS HSI hn hbd HV hd hf
  ·exact spell_01 w HSS HSI hn hbd HV hd hf
 ·by_cases hf : s.file = []
  ·exact spell_10 w HSS HSI hn hbd HV hd hf
  ·exact spell_11 w HSS HSI hn hbd HV hd hf
end Go.Proofs.YtoofgblmpjndjaaGreatDoor.Scr
set_option linter.unusedVariables false
namespace Go.Proofs.YtoofgblmpjndjaaGreatDoor.Scs
open Go.Shelf Go.Proofs
def lays166_ren : Go.Shelf.Ren := ⟨fun | 166 => 32 | 240 => 65 | 276 => 91 | n => n, fun | 0 => 0 | 3 => 3 | 4 => 4 | 9 => 9 | 20 => 20 | 37 => 58 | 70 => 57 | 72 => 60 | 75 => 64 | 164 => 111 | 80 => 69 | 5 => 5 | n => n, fun | n => n⟩
theorem lays166 : Go.Proofs.Lays.n166 Tryz.prog lays166_ren := {
 mixed := by kernel_rfl
 f166 := Tryz.func32.trans (congrArg some (by kernel_rfl))
 f240 := Tryz.func65.trans (congrArg some (by kernel_rfl))
 f276 := Tryz.func91.trans (congrArg some (by kernel_rfl))
 t0 := Tryz.underlying0
 a0 := Tryz.isAgg0
 z0 := Tryz.sizeOf0
 v0 := Tryz.zeroValue0
 t3 := Tryz.underlying3
 a3 := Tryz.isAgg3
 z3 := Tryz.sizeOf3
 v3 := Tryz.zeroValue3
 t4 := Tryz.underlying4
 a4 := Tryz.isAgg4
 z4 := Tryz.sizeOf4
 v4 := Tryz.zeroValue4
 t9 := Tryz.underlying9
 a9 := Tryz.isAgg9
 z9 := Tryz.sizeOf9
 v9 := Tryz.zeroValue9
 t20 := Tryz.underlying20
 a20 := Tryz.isAgg20
 z20 := Tryz.sizeOf20
 v20 := Tryz.zeroValue20
 t37 := Tryz.underlying58
 a37 := Tryz.isAgg58
 z37 := Tryz.sizeOf58
 v37 := Tryz.zeroValue58
 t70 := Tryz.underlying57
 a70 := Tryz.isAgg57
 z70 := Tryz.sizeOf57
 v70 := Tryz.zeroValue57
 t72 := Tryz.underlying60
 a72 := Tryz.isAgg60
 z72 := Tryz.sizeOf60
 v72 := Tryz.zeroValue60
 t75 := Tryz.underlying64
 a75 := Tryz.isAgg64
 z75 := Tryz.sizeOf64
 v75 := Tryz.zeroValue64
 t164 := Tryz.underlying111
 a164 := Tryz.isAgg111
 z164 := Tryz.sizeOf111
 v164 := Tryz.zeroValue111 }
theorem Builder_Extra_166 : Builder.Extra Tryz.prog lays166_ren := {
 sizeBuilder := by kernel_rfl
 liesBuilder := by kernel_rfl
 t5 := Tryz.underlying5
 a5 := Tryz.isAgg5
 z5 := Tryz.sizeOf5
 v5 := Tryz.zeroValue5
 infoByte := by kernel_rfl
 cellsByte := by kernel_rfl
 sizeByte := by kernel_rfl
 neB5 := by decide }
open Go.RowKit in
theorem Builder_WriteString_k (B b : Nat) (bs : List Value) (s : ByteArray) (w : World) (h : Lib.IsBuilderF 60 5 B b bs w) (hlen : bs.length + s.size ≤ 140737488355328) (hBw : B ≤ w.heap.size) :
  Calls Tryz.prog 32 #[.pointer (some ⟨b, 0, none⟩), .string s] w fun e w' => e = .returned (.tuple #[.int .i64 s.size, .nilIface]) ∧ (Lib.BuilderAtF 60 5 B b (.pointer (some ⟨b, 0, none⟩)) (bs ++ Lib.strCells s) w' ∧ Below B w w' ∧ Lib.OthersKept 5 (some b) w w') := Any.Builder_WriteString_k lays166 Builder_Extra_166 B b bs s w h hlen hBw
end Go.Proofs.YtoofgblmpjndjaaGreatDoor.Scs
