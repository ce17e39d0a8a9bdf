/-
  Walks: the reference's merged and Least.
-/
import Derived.Test.YtpecemkjoklhfaaLstA
import Derived.Deep.RegionHeld3
import Derived.Outline
set_option linter.unusedVariables false
set_option linter.unusedSimpArgs false
namespace Go.Proofs.Ytpecemkjoklhfaa.Lst
open Go.RowKit K Pfx Bld Pm

/-- a list of the call's own that is appended to -/
structure Ap (w wr : World) (base : Nat) (v : Value) (O : List Int) : Prop where
  bel : Below w.heap.size w wr
  own : wr.ownsRow base 3 1 v O.length (O.map (.int .i64))
  lo : w.heap.size ≤ base
  hi : base ≤ wr.heap.size
theorem Ap.nil {w wr : World} (h : Below w.heap.size w wr) : Ap w wr wr.heap.size (.slice none 0 0) [] := ⟨h, World.ownsRow_nil _ _ _ _, h.size, Nat.le_refl _⟩
theorem Ap.drewN {w wr : World} {base : Nat} {v : Value} {O : List Int} (h : Ap w wr base v O) (k : Nat) : Ap w (wr.drewN k) base v O :=
  ⟨below_drewN h.bel k, h.own.kept (row := none) (grown_drewN (World.grownBy.refl _ _) k) (by cases v.ownBlock with | none => exact .inl rfl | some b => exact .inr (by simp)), h.lo, h.hi⟩
/-- one number more: its own block, the append -/
theorem Ap.push {w wr w2 : World} {base : Nat} {v v' : Value} {O : List Int} {x : Int} {o : Obj} (h : Ap w wr base v O)
    (hown : w2.ownsRow base 3 1 v' (O.length + 1) (O.map (.int .i64) ++ [.int .i64 x])) (hg : (wr.alloc o).grownBy w2 v.ownBlock) : Ap w w2 base v' (O ++ [x]) := by
  have hs := hg.size
  have h0 := h.hi
  simp at hs
  exact ⟨(h.bel.alloc h.bel.size o).grown hg (by simp; have := h.bel.size; omega) (fun k hk => by have := (h.own.lt k hk).1; have := h.lo; omega), by rw [List.length_append, List.map_append]; exact hown, h.lo, by omega⟩
theorem Ap.below {w wr : World} {base : Nat} {v : Value} {O : List Int} (h : Ap w wr base v O) : Below base wr wr := Below.refl _ _
set_option maxHeartbeats 2000000 in
theorem merged_any {A B : Option Addr} {n c m d : Nat} {a b : List Int} (w : World) (HA : SI w .i64 A n a) (HB : SI w .i64 B m b) (ha : a.Pairwise (· ≤ ·)) (hb : b.Pairwise (· ≤ ·)) (hnm : n + m ≤ 1073741824) :
    Calls Try.prog 39 #[.slice A n c, .slice B m d] w (SortPost w (n + m) (fun S => S.Perm (a ++ b) ∧ S.Pairwise (· ≤ ·))) := by
  have hla := Lib.hid HA.len
  have hlb := Lib.hid HB.len
  have Ha := Lib.hid ha
  have Hb := Lib.hid hb
  have HAO := Lib.hid HA
  have HBO := Lib.hid HB
  clear ha hb HA HB
  go_enter Try.func39, Try.ntmps39
  go_wp2
  go_loopw [5, 6, 7] (fun v si sk wr => ∃ (i k : Nat) (O : List Int), i ≤ n ∧ k ≤ m ∧ si = .int .i64 i ∧ sk = .int .i64 k ∧ Ap w wr w.heap.size v O ∧ MG a b O i k) (fun _ si sk _ => n + m - (intOf si).toNat - (intOf sk).toNat)
  case atStart => exact ⟨0, 0, [], by omega, by omega, rfl, rfl, Ap.nil (Below.refl _ _), MG.start a b⟩
  case round =>
    obtain ⟨i, k, O, hi, hk, rfl, rfl, hAp, hM⟩ := hrel
    have hOl : O.length = i + k := hM.len (by rw [hla.out]; exact hi) (by rw [hlb.out]; exact hk)
    have HA := HAO.out.below hAp.bel (Nat.le_refl _)
    have HB := HBO.out.below hAp.bel (Nat.le_refl _)
    obtain ⟨Av, cv, rfl⟩ := own_form hAp.own
    have HM := Lib.hid hM
    have HOl := Lib.hid hOl
    have HAp := Lib.hid hAp
    clear hM hOl hAp
    by_cases hki : k < m
    · obtain ⟨b2, o2, y, rfl, hc2, hy, -⟩ := HB.cells hki
      have d2 : decide ((k : Int) < (m : Int)) = true := by simp; omega
      have e2 : decide ((m : Int) ≤ (k : Int)) = false := by simp; omega
      have e2' : decide (m ≤ k) = false := by simp; omega
      by_cases hin : i < n
      · obtain ⟨b1, o1, x, rfl, hc1, hx, -⟩ := HA.cells hin
        have d1 : decide ((i : Int) < (n : Int)) = true := by simp; omega
        have d1' : decide (i < n) = true := by simp; omega
        by_cases hxy : x ≤ y
        · have t1 : decide (x ≤ y) = true := by simpa using hxy
          have HM2 := Lib.hid (HM.out.pushA Ha.out hx.out (drop_ge Hb.out hy.out hxy))
          clear hxy
          go_wp2
          go_quiet (fail)
          have hq := HAp.out.drewN nq
          have hqo := hq.own
          have hqh := hq.hi
          have hqs := hq.bel.size
          generalize hW : wr.drewN nq = W at *
          have k1 : W.cell? ⟨b1, o1 + i, none⟩ = some (.int .i64 x) := by rw [← hW]; exact hc1
          have HQ := Lib.hid hq
          clear hW hc1 hc2 hq hqs
          go_wp2_with (at_builtin; refine wpList_append_sl _ rfl (.tmp 39) (.tmp 44) _ rfl w.heap.size 3 1 8 _ Try.underlying22 infoInt rfl (by omega) (.slice Av O.length cv) O.length _ rfl (hqo.alloc _) _ 1 1 [.int .i64 x] rfl rfl (Sl.one W _ _) ?c1 ?c2 ?c3 ?c4 ?_)
          case c1 => simp [Value.oneCell']
          case c2 => unfold maxLen; have := HOl.out; omega
          case c3 => have := HOl.out; omega
          case c4 => simp; omega
          intro v2 w2 hown2 hg2 _
          have HP := Lib.hid (HQ.out.push hown2 hg2)
          clear hown2 hg2 hqo HA HB
          go_wp2
          go_roundw
          case rel => exact ⟨i + 1, k, O ++ [x], by omega, by omega, by go_num, rfl, HP.out, HM2.out⟩
          case measure => simp [intOf]; omega
        · have t1 : decide (x ≤ y) = false := by simpa using hxy
          have HM2 := Lib.hid ((HM.out.swap.pushA Hb.out hy.out (drop_ge Ha.out hx.out (by omega))).swap)
          clear hxy
          go_wp2
          go_quiet (fail)
          have hq := HAp.out.drewN nq
          have hqo := hq.own
          have hqh := hq.hi
          have hqs := hq.bel.size
          generalize hW : wr.drewN nq = W at *
          have k1 : W.cell? ⟨b2, o2 + k, none⟩ = some (.int .i64 y) := by rw [← hW]; exact hc2
          have HQ := Lib.hid hq
          clear hW hc1 hc2 hq hqs
          go_wp2_with (at_builtin; refine wpList_append_sl _ rfl (.tmp 48) (.tmp 53) _ rfl w.heap.size 3 1 8 _ Try.underlying22 infoInt rfl (by omega) (.slice Av O.length cv) O.length _ rfl (hqo.alloc _) _ 1 1 [.int .i64 y] rfl rfl (Sl.one W _ _) ?c1 ?c2 ?c3 ?c4 ?_)
          case c1 => simp [Value.oneCell']
          case c2 => unfold maxLen; have := HOl.out; omega
          case c3 => have := HOl.out; omega
          case c4 => simp; omega
          intro v2 w2 hown2 hg2 _
          have HP := Lib.hid (HQ.out.push hown2 hg2)
          clear hown2 hg2 hqo HA HB
          go_wp2
          go_roundw
          case rel => exact ⟨i, k + 1, O ++ [y], by omega, by omega, rfl, by go_num, HP.out, HM2.out⟩
          case measure => simp [intOf]; omega
      · have d1 : decide ((i : Int) < (n : Int)) = false := by simp; omega
        have d1' : decide (i < n) = false := by simp; omega
        have HM2 := Lib.hid ((HM.out.swap.pushA Hb.out hy.out (by
          rw [List.drop_of_length_le (by rw [hla.out]; omega)]; intro z hz; cases hz)).swap)
        go_wp2
        go_quiet (fail)
        have hq := HAp.out.drewN nq
        have hqo := hq.own
        have hqh := hq.hi
        have hqs := hq.bel.size
        generalize hW : wr.drewN nq = W at *
        have k1 : W.cell? ⟨b2, o2 + k, none⟩ = some (.int .i64 y) := by rw [← hW]; exact hc2
        have HQ := Lib.hid hq
        clear hW hc2 hq hqs
        go_wp2_with (at_builtin; refine wpList_append_sl _ rfl (.tmp 48) (.tmp 53) _ rfl w.heap.size 3 1 8 _ Try.underlying22 infoInt rfl (by omega) (.slice Av O.length cv) O.length _ rfl (hqo.alloc _) _ 1 1 [.int .i64 y] rfl rfl (Sl.one W _ _) ?c1 ?c2 ?c3 ?c4 ?_)
        case c1 => simp [Value.oneCell']
        case c2 => unfold maxLen; have := HOl.out; omega
        case c3 => have := HOl.out; omega
        case c4 => simp; omega
        intro v2 w2 hown2 hg2 _
        have HP := Lib.hid (HQ.out.push hown2 hg2)
        clear hown2 hg2 hqo HA HB
        go_wp2
        go_roundw
        case rel => exact ⟨i, k + 1, O ++ [y], by omega, by omega, rfl, by go_num, HP.out, HM2.out⟩
        case measure => simp [intOf]; omega
    · have d2 : decide ((k : Int) < (m : Int)) = false := by simp; omega
      have e2 : decide ((m : Int) ≤ (k : Int)) = true := by simp; omega
      have e2' : decide (m ≤ k) = true := by simp; omega
      by_cases hin : i < n
      · obtain ⟨b1, o1, x, rfl, hc1, hx, -⟩ := HA.cells hin
        have d1 : decide ((i : Int) < (n : Int)) = true := by simp; omega
        have HM2 := Lib.hid (HM.out.pushA Ha.out hx.out (by
          rw [List.drop_of_length_le (by rw [hlb.out]; omega)]; intro z hz; cases hz))
        go_wp2
        go_quiet (fail)
        have hq := HAp.out.drewN nq
        have hqo := hq.own
        have hqh := hq.hi
        have hqs := hq.bel.size
        generalize hW : wr.drewN nq = W at *
        have k1 : W.cell? ⟨b1, o1 + i, none⟩ = some (.int .i64 x) := by rw [← hW]; exact hc1
        have HQ := Lib.hid hq
        clear hW hc1 hq hqs
        go_wp2_with (at_builtin; refine wpList_append_sl _ rfl (.tmp 39) (.tmp 44) _ rfl w.heap.size 3 1 8 _ Try.underlying22 infoInt rfl (by omega) (.slice Av O.length cv) O.length _ rfl (hqo.alloc _) _ 1 1 [.int .i64 x] rfl rfl (Sl.one W _ _) ?c1 ?c2 ?c3 ?c4 ?_)
        case c1 => simp [Value.oneCell']
        case c2 => unfold maxLen; have := HOl.out; omega
        case c3 => have := HOl.out; omega
        case c4 => simp; omega
        intro v2 w2 hown2 hg2 _
        have HP := Lib.hid (HQ.out.push hown2 hg2)
        clear hown2 hg2 hqo HA HB
        go_wp2
        go_roundw
        case rel => exact ⟨i + 1, k, O ++ [x], by omega, by omega, by go_num, rfl, HP.out, HM2.out⟩
        case measure => simp [intOf]; omega
      · have d1 : decide ((i : Int) < (n : Int)) = false := by simp; omega
        have hD := HM.out.done (by rw [hla.out]; omega) (by rw [hlb.out]; omega)
        have HD := Lib.hid hD
        have hl : O.length = n + m := by have := HOl.out; omega
        have HO2 : Hid (wr.ownsRow w.heap.size 3 1 (.slice Av (n + m) cv) (n + m) (O.map (.int .i64))) := by show World.ownsRow _ _ _ _ _ _ _; have := HAp.out.own; rw [hl] at this; exact this
        rw [hl]
        clear hD hl HA HB
        go_wp2
        go_ret
        exact ⟨_, _, O, rfl, HO2.out, HAp.out.bel, HD.out⟩

theorem pairsW_mem (W : List Int) : ∀ z ∈ pairsW W, ∃ u ∈ W, ∃ v ∈ W, z = u + v := by
  induction W using pairsW.induct with
  | case1 a b t ih =>
    intro z hz
    rw [pairsW, List.mem_cons] at hz
    rcases hz with rfl | hz
    · exact ⟨a, by simp, b, by simp, rfl⟩
    · obtain ⟨u, hu, v, hv, e⟩ := ih z hz
      exact ⟨u, by simp [hu], v, by simp [hv], e⟩
  | case2 R hR =>
    intro c hc
    rw [pairsW] at hc
    · cases hc
    · exact hR
theorem pairsW_sorted {W : List Int} (h : W.Pairwise (· ≤ ·)) : (pairsW W).Pairwise (· ≤ ·) := by
  induction W using pairsW.induct with
  | case1 a b t ih =>
    rw [List.pairwise_cons, List.pairwise_cons] at h
    obtain ⟨h1, h2, h3⟩ := h
    rw [pairsW, List.pairwise_cons]
    refine ⟨fun z hz => ?_, ih h3⟩
    obtain ⟨u, hu, v, hv, rfl⟩ := pairsW_mem t z hz
    have := h1 u (by simp [hu])
    have := h2 v hv
    omega
  | case2 R hR =>
    rw [pairsW]
    · exact List.Pairwise.nil
    · exact hR
theorem undrew {w wr : World} {row : Option Nat} (h : w.drew.grownBy wr row) : w.grownBy wr row := ⟨h.os, h.tape, h.output, h.size, h.block⟩
def LeastPost (w : World) (l : List Int) (most : Nat) (e : Ending) (w' : World) : Prop :=
  Below w.heap.size w w' ∧ ∃ W, IsW (posL l l.length) (most - 1) W ∧ e = .returned (.int .i64 (W.take (2 * (posL l l.length).length - 2)).sum)
theorem posL_bd {l : List Int} (h : l.any heavyC = false) : ∀ x ∈ posL l l.length, 0 ≤ x ∧ x ≤ 1073741824 := fun x hx => by
  have hm : x ∈ l := by
    have := (List.mem_filter.1 hx).1
    exact List.mem_of_mem_take this
  have := List.any_eq_false.1 h x hm
  simp [heavyC] at this
  omega
theorem pow_j {j : Nat} (h : j ≤ 15) : (1073741824 : Int) * 2 ^ j ≤ 35184372088832 := by
  have := Nat.pow_le_pow_right (n := 2) (by omega) h
  have e : (2 : Int) ^ j = ((2 ^ j : Nat) : Int) := by simp
  rw [e]; have : 2 ^ j ≤ 32768 := this
  omega
theorem sum_bd {W : List Int} {B : Int} (h : ∀ x ∈ W, 0 ≤ x ∧ x ≤ B) (k : Nat) : 0 ≤ (W.take k).sum ∧ (W.take k).sum ≤ k * B ∨ W.length < k := by
  induction k with
  | zero => left; simp
  | succ k ih =>
    rcases Nat.lt_or_ge k W.length with hk | hk
    · have hx : W[k]? = some W[k] := List.getElem?_eq_getElem hk
      have := h _ (List.getElem_mem hk)
      rcases ih with ih | ih
      · left
        rw [take_snoc hx, List.sum_append_int]
        simp only [List.sum_cons, List.sum_nil]
        have e : ((k + 1 : Nat) : Int) * B = k * B + B := by push_cast; rw [Int.add_mul, Int.one_mul]
        rw [e]; omega
      · omega
    · right; omega
set_option maxRecDepth 20000 in
set_option maxHeartbeats 4000000 in
theorem least_any {A : Option Addr} {n c most : Nat} {l : List Int} (w : World) (HA : SI w .i64 A n l) (hn : n ≤ 4096) (hg : l.any heavyC = false) (m1 : 1 ≤ most) (m2 : most ≤ 16)
    (p2 : 2 ≤ (posL l l.length).length) (pm : (posL l l.length).length ≤ 2 ^ most) :
    Calls Try.prog 18 #[.slice A n c, .int .i64 most] w (LeastPost w l most) := by
  have hlen := Lib.hid HA.len
  have HAO := Lib.hid HA
  have HBD := Lib.hid (posL_bd hg)
  have HPM := Lib.hid pm
  clear HA hg pm
  go_enter Try.func18, Try.ntmps18
  go_wp2
  go_loopw [5, 6] (fun v si wr => ∃ k : Nat, k ≤ n ∧ si = .int .i64 k ∧ Ap w wr w.heap.size v (posL l k)) (fun _ si _ => n - (intOf si).toNat)
  case atStart => exact ⟨0, by omega, rfl, Ap.nil (Below.refl _ _)⟩
  case round =>
    obtain ⟨k, hk, rfl, hAp⟩ := hrel
    have HA := HAO.out.below hAp.bel (Nat.le_refl _)
    obtain ⟨Av, cv, rfl⟩ := own_form hAp.own
    have hpl := posL_le l k
    by_cases hlt : k < n
    · obtain ⟨b1, o1, x, rfl, hc1, hx, -⟩ := HA.cells hlt
      have d1 : decide ((k : Int) < (n : Int)) = true := by simp; omega
      have hps := posL_succ hx.out
      by_cases hx0 : 0 < x
      · have t1 : decide (0 < x) = true := by simpa using hx0
        rw [if_pos hx0] at hps
        have HPS := Lib.hid hps
        have hqo := hAp.own
        have hqh := hAp.hi
        have HQ := Lib.hid hAp
        clear hps hAp HA hx0
        go_wp2_with (at_builtin; refine wpList_append_sl _ rfl (.tmp 24) (.tmp 29) _ rfl w.heap.size 3 1 8 _ Try.underlying22 infoInt rfl (by omega) (.slice Av (posL l k).length cv) (posL l k).length _ rfl (hqo.alloc _) _ 1 1 [.int .i64 x] rfl rfl (Sl.one wr _ _) ?c1 ?c2 ?c3 ?c4 ?_)
        case c1 => simp [Value.oneCell']
        case c2 => unfold maxLen; omega
        case c3 => omega
        case c4 => simp; omega
        intro v2 w2 hown2 hg2 _
        have HP : Hid (Ap w w2 w.heap.size v2 (posL l (k + 1))) := by show Ap _ _ _ _ _; rw [HPS.out]; exact HQ.out.push hown2 hg2
        clear hown2 hg2 hqo
        go_wp2
        go_roundw
        case rel => exact ⟨k + 1, by omega, by go_num, HP.out⟩
        case measure => simp [intOf]; omega
      · have t1 : decide (0 < x) = false := by simpa using hx0
        rw [if_neg hx0, List.append_nil] at hps
        have HP : Hid (Ap w wr w.heap.size (.slice Av (posL l k).length cv) (posL l (k + 1))) := by show Ap _ _ _ _ _; rw [hps]; exact hAp
        clear hps hAp HA hx0
        go_wp2
        go_roundw
        case rel => exact ⟨k + 1, by omega, by go_num, HP.out⟩
        case measure => simp [intOf]; omega
    · have d1 : decide ((k : Int) < (n : Int)) = false := by simp; omega
      obtain rfl : k = n := by omega
      have eP : posL l k = posL l l.length := by rw [hlen.out]
      rw [eP] at hAp hpl ⊢
      clear eP
      generalize hPP : posL l l.length = P at *
      have HPP := Lib.hid hPP
      clear hPP
      have hsP : SI wr .i64 Av P.length P := SI.of_own hAp.own (by show _ * 8 ≤ _; omega)
      have HB1 := Lib.hid hAp.bel
      clear hAp HA
      go_wp2_with fail
      refine (sorted_any _ hsP).mono ?_
      rintro e w2 ⟨A1, c1, S, rfl, hown2, hb2, hperm, hsort⟩
      have hSl : S.length = P.length := hperm.length_eq
      have HSL := Lib.hid hSl
      have hs2 : SI w2 .i64 A1 P.length S := SI.of_own hown2 (by show _ * 8 ≤ _; omega)
      have HS2 := Lib.hid hs2
      have HPERM := Lib.hid hperm
      have HSORT := Lib.hid hsort
      have HB2 := Lib.hid (HB1.out.trans (hb2.mono HB1.out.size))
      clear hown2 hb2 hsP hSl hs2 hperm hsort
      obtain ⟨wz, rfl⟩ : ∃ wz : World, wz = wr := ⟨_, rfl⟩
      go_wp2
      go_loopw [7, 8, 9, 10] (fun v sn _ _ wr => ∃ (j : Nat) (Ar : Option Addr) (cr : Nat) (W : List Int), j ≤ most - 1 ∧ sn = .int .i64 ((j : Int) + 1) ∧ v = .slice Ar W.length cr ∧ SI wr .i64 Ar W.length W ∧ IsW P j W ∧ Below w2.heap.size w2 wr) (fun _ sn _ _ _ => most - (intOf sn).toNat)
      case atStart => exact ⟨0, A1, c1, S, by omega, by go_num, by rw [HSL.out], by rw [HSL.out]; exact HS2.out, ⟨HPERM.out, HSORT.out⟩, Below.refl _ _⟩
      case round =>
        obtain ⟨j, Ar, cr, W, hj, rfl, rfl, hsr, hW, hb3⟩ := hrel
        have hWl := hW.len (by omega)
        have HW := Lib.hid hW
        have HSR := Lib.hid hsr
        have HB3 := Lib.hid hb3
        clear hsr hW hb3
        by_cases hjm : j + 1 < most
        · have d2 : decide ((j : Int) + 1 < (most : Int)) = true := by simp; omega
          obtain ⟨wo, rfl⟩ : ∃ wo : World, wo = wr := ⟨_, rfl⟩
          have HWB : Hid (∀ x ∈ W, 0 ≤ x ∧ x ≤ 35184372088832) := fun x hx => by
            have := IsW.bd (by omega) HBD.out j W HW.out x hx
            have := pow_j (j := j) (by omega)
            omega
          go_wp2
          go_loopw [9, 10] (fun v si wr => ∃ q : Nat, 2 * q ≤ W.length ∧ si = .int .i64 (2 * (q : Int)) ∧ Ap wo wr wo.heap.size v ((pairsW W).take q)) (fun _ si _ => W.length + 1 - (intOf si).toNat)
          case atStart => exact ⟨0, by omega, rfl, Ap.nil (Below.refl _ _)⟩
          case round =>
            obtain ⟨q, hq, rfl, hAp⟩ := hrel
            obtain ⟨Av, cv, rfl⟩ := own_form hAp.own
            have HR := HSR.out.below hAp.bel (Nat.le_refl _)
            have hql : ((pairsW W).take q).length = q := by rw [List.length_take, pairsW_len]; omega
            by_cases hlt : 2 * q + 1 < W.length
            · have d3 : decide (2 * (q : Int) + 1 < (W.length : Int)) = true := by simp; omega
              obtain ⟨b1, o1, x, rfl, hw1, hx, hbl⟩ := HSR.out.cells (i := 2 * q) (by omega)
              have hc1 : wr.cell? ⟨b1, o1 + 2 * q, none⟩ = some (.int .i64 x) := (hAp.bel.cell (p := ⟨b1, o1 + 2 * q, none⟩) hbl).trans hw1
              obtain ⟨b2, o2, y, e, hc2, hy, -⟩ := HR.cells (i := 2 * q + 1) hlt
              injection e with e
              injection e with e4 e5
              subst e4 e5
              have hxb := HWB.out x (List.mem_of_getElem? hx.out)
              have hyb := HWB.out y (List.mem_of_getElem? hy.out)
              have HPG : Hid ((pairsW W).take (q + 1) = (pairsW W).take q ++ [x + y]) := by
                show _ = _
                refine take_snoc ?_
                rw [pairsW_get W q hlt, getD_of hx.out, getD_of hy.out]
              rw [hql]
              have HQL := Lib.hid hql
              have HQ := Lib.hid hAp
              have hqo := hAp.own
              rw [hql] at hqo
              have hqh := hAp.hi
              clear hAp hql HR
              have hne : some b1 ≠ (Value.slice Av q cv).ownBlock := fun e => by
                have h1 := (hqo.lt b1 e.symm).1
                have := World.block_lt_of_cell? wo _ hw1
                simp at this; omega
              have hqs : wo.heap.size ≤ wr.heap.size := hqh
              have hz0 : 0 ≤ 2 * (q : Int) := by omega
              have hz1 : 0 ≤ 2 * (q : Int) + 1 := by omega
              have hz2 : IntKind.i64.wrap (2 * (q : Int) + 1) = 2 * (q : Int) + 1 := IntWalk.i64_in _ (by omega)
              have hz3 : 2 * (q : Int) < (W.length : Int) := by omega
              have hz4 : 2 * (q : Int) + 1 < (W.length : Int) := by omega
              have hz5 : (2 * (q : Int) + 1).toNat = 2 * q + 1 := by omega
              have hz7 : (2 * (q : Int)).toNat = 2 * q := by omega
              have hz6 : IntKind.i64.wrap (x + y) = x + y := IntWalk.i64_in _ (by omega)
              go_wp2
              go_region_held3 (fun w' => w'.cell? ⟨b1, o1 + 2 * q, none⟩ = some (.int .i64 x) ∧ w'.cell? ⟨b1, o1 + (2 * q + 1), none⟩ = some (.int .i64 y))
                (first
                  | go_keep
                  | exact ⟨cellP hc1 (undrew hg5) hne, cellP hc2 (undrew hg5) hne⟩)
                ((refine step_push (by rfl) _ _ _ (by rfl) wo.heap.size 3 1 8 _ Try.underlying22 infoInt rfl (by omega) (.slice Av q cv) q _ (by rfl) (hqo.alloc _).drew wr.heap.size 1 [.int .i64 (x + y)] 3 (by rfl) (by rfl) (heap_alloc_new wr _) (by simp [Value.oneCell']) (by unfold maxLen; omega) (by omega) (by simp; omega) (wr.heap.size + 1) (by simp) ?_
                  intro gg cap w5 hown5 hg5 hat5 hlt5))
              have HP : Hid (Ap wo w5 wo.heap.size (.slice (some ⟨gg, 0, none⟩) (q + 1) cap) ((pairsW W).take (q + 1))) := by
                show Ap _ _ _ _ _
                rw [HPG.out]
                exact HQ.out.push (by rw [HQL.out]; exact hown5) (by rw [HQL.out]; exact undrew hg5)
              clear hz0 hz1 hz2 hz3 hz4 hz5 hz6 hz7 hown5 hg5 hat5 hqo hc1 hc2 hw1 hne
              go_wp2
              go_roundw
              case rel => exact ⟨q + 1, by omega, eint (by omega), HP.out⟩
              case measure => simp [intOf]; omega
            · have d3 : decide (2 * (q : Int) + 1 < (W.length : Int)) = false := by simp; omega
              have hall : (pairsW W).take q = pairsW W := List.take_of_length_le (by rw [pairsW_len]; omega)
              rw [hql]
              rw [hall] at hAp
              have hpl2 : (pairsW W).length = q := by rw [← hall]; exact hql
              have hown := hAp.own
              rw [hpl2] at hown
              have hsp : SI wr .i64 Av q (pairsW W) := SI.of_own hown (by show _ * 8 ≤ _; omega)
              have hso : SI wr .i64 A1 P.length S := (HS2.out.below HB3.out (Nat.le_refl _)).below hAp.bel (Nat.le_refl _)
              have HPL2 := Lib.hid hpl2
              have HB4 := Lib.hid (HB3.out.trans (hAp.bel.mono HB3.out.size))
              clear hall hown hAp hql hpl2 HR
              go_wp2_with fail
              refine (merged_any _ hso hsp HSORT.out (pairsW_sorted HW.out.sorted) (by omega)).mono ?_
              rintro e w5 ⟨A5, c5, W5, rfl, hown5, hb5, hperm5, hsort5⟩
              have hl5 : W5.length = P.length + q := by rw [hperm5.length_eq, List.length_append, HSL.out, HPL2.out]
              rw [← hl5] at hown5 ⊢
              have hs5 : SI w5 .i64 A5 W5.length W5 := SI.of_own hown5 (by show _ * 8 ≤ _; omega)
              have HS5 := Lib.hid hs5
              have HW5 : Hid (IsW P (j + 1) W5) := ⟨W, HW.out, hperm5.trans (HPERM.out.append_right _), hsort5⟩
              have HB5 := Lib.hid (HB4.out.trans (hb5.mono HB4.out.size))
              clear hl5 hown5 hb5 hperm5 hsort5 hs5 hso hsp
              go_wp2
              go_roundw
              case rel => exact ⟨j + 1, A5, c5, W5, by omega, by go_num, rfl, HS5.out, HW5.out, HB5.out⟩
              case measure => simp [intOf]; omega
        · have d2 : decide ((j : Int) + 1 < (most : Int)) = false := by simp; omega
          obtain rfl : j = most - 1 := by omega
          have hen := HW.out.enough (by omega) (by rw [show most - 1 + 1 = most by omega]; exact HPM.out)
          have HWB : Hid (∀ x ∈ W, 0 ≤ x ∧ x ≤ 35184372088832) := fun x hx => by
            have := IsW.bd (by omega) HBD.out (most - 1) W HW.out x hx
            have := pow_j (j := most - 1) (by omega)
            omega
          have HBB := Lib.hid (HB2.out.trans (HB3.out.mono HB2.out.size))
          go_wp2
          go_loop [11, 12] (fun ss si => ∃ k : Nat, k ≤ 2 * P.length - 2 ∧ si = .int .i64 k ∧ ss = .int .i64 (W.take k).sum) (fun _ si => 2 * P.length - (intOf si).toNat)
          case atStart => exact ⟨0, by omega, rfl, by simp⟩
          case round =>
            obtain ⟨i, hi, rfl, rfl⟩ := hrel
            by_cases hlt : i < 2 * P.length - 2
            · have d3 : decide ((i : Int) < 2 * (P.length : Int) - 2) = true := by simp; omega
              obtain ⟨b1, o1, x, rfl, hc1, hx, -⟩ := HSR.out.cells (i := i) (by omega)
              have hxb := HWB.out x (List.mem_of_getElem? hx.out)
              have hsb := sum_bd HWB.out i
              have hs1 : 0 ≤ (W.take i).sum ∧ (W.take i).sum ≤ 8192 * 35184372088832 := by
                rcases hsb with h | h
                · omega
                · omega
              have HSS : Hid ((W.take (i + 1)).sum = (W.take i).sum + x) := by
                show _ = _
                rw [take_snoc hx.out, List.sum_append_int]; simp
              clear hsb
              go_wp2
              go_round
              case rel => exact ⟨i + 1, by omega, by go_num, eint (by rw [HSS.out])⟩
              case measure => simp [intOf]; omega
            · have d3 : decide ((i : Int) < 2 * (P.length : Int) - 2) = false := by simp; omega
              obtain rfl : i = 2 * P.length - 2 := by omega
              go_wp2
              go_ret
              exact ⟨HBB.out, W, by rw [HPP.out]; exact HW.out, by have e := HPP.out; subst e; rfl⟩
end Go.Proofs.Ytpecemkjoklhfaa.Lst
