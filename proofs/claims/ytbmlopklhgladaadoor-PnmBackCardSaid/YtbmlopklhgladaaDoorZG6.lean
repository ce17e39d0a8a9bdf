/-
  Texts of this claim, joined by program (PnmD, PnmE, PnmF, PnmG). Walks: the reference's reading of samples in digits.
-/
import Derived.Test.YtbmlopklhgladaaDoorZG5
import Derived.Deep.DeepCutAuto
set_option linter.unusedVariables false
set_option linter.unusedSimpArgs false
namespace Go.Proofs.YtbmlopklhgladaaDoor.Pnm
open Go.RowKit K

/-- one sample in digits -/
def smpM (l : List Int) (kind top : Int) (a : Nat) (first : Bool) : Option (Int × Nat) :=
  match gapM l a with
  | none => none
  | some j =>
    if (j = a ∧ (first = true ∨ kind ≠ 1)) ∨ l.length ≤ j then none
    else if kind = 1 then (if l.getD j 0 = 48 ∨ l.getD j 0 = 49 then some (l.getD j 0 - 48, j + 1) else none)
    else match numM l j with
      | none => none
      | some (v, e) => if top < v then none else some (v, e)
def plainM (l : List Int) (kind top : Int) (a0 : Nat) : Nat → Option (List Int × Nat)
  | 0 => some ([], a0)
  | k+1 => match plainM l kind top a0 k with
    | none => none
    | some (out, a) => match smpM l kind top a (decide (k = 0)) with
      | none => none
      | some (v, e) => some (out ++ [v], e)
theorem plainM_none {l : List Int} {kind top : Int} {a0 k n : Nat} (h : plainM l kind top a0 k = none) (hn : k ≤ n) : plainM l kind top a0 n = none := by
  induction n with
  | zero =>
    obtain rfl : k = 0 := by omega
    exact h
  | succ n ih =>
    rcases (by omega : k = n + 1 ∨ k ≤ n) with rfl | h1
    · exact h
    · rw [plainM, ih h1]
theorem smpM_bd {l : List Int} {kind top : Int} {a : Nat} {first : Bool} {v : Int} {e : Nat} (h : smpM l kind top a first = some (v, e)) : 0 ≤ v ∧ v ≤ 999999999 ∧ e ≤ l.length := by
  unfold smpM at h
  cases hg : gapM l a with
  | none => rw [hg] at h; cases h
  | some j =>
    rw [hg] at h
    simp only at h
    split at h
    · cases h
    · rename_i hn
      split at h
      · split at h
        · rename_i hd
          injection h with h
          injection h with h1 h2
          omega
        · cases h
      · cases hm : numM l j with
        | none => rw [hm] at h; cases h
        | some ve =>
          obtain ⟨v', e'⟩ := ve
          rw [hm] at h
          simp only at h
          split at h
          · cases h
          · injection h with h
            injection h with h1 h2
            have := numM_bd hm
            have := this.2.2.2 (by omega)
            omega
theorem plainM_bd {l : List Int} {kind top : Int} {a0 : Nat} : ∀ {k : Nat} {out : List Int} {a : Nat}, plainM l kind top a0 k = some (out, a) → a0 ≤ l.length → out.length = k ∧ a ≤ l.length := by
  intro k
  induction k with
  | zero => intro out a h ha; injection h with h; injection h with h1 h2; subst h1 h2; exact ⟨rfl, ha⟩
  | succ k ih =>
    intro out a h ha
    rw [plainM] at h
    cases hp : plainM l kind top a0 k with
    | none => rw [hp] at h; cases h
    | some oa =>
      obtain ⟨o, a1⟩ := oa
      rw [hp] at h
      simp only at h
      cases hs : smpM l kind top a1 (decide (k = 0)) with
      | none => rw [hs] at h; cases h
      | some ve =>
        obtain ⟨v, e⟩ := ve
        rw [hs] at h
        injection h with h
        injection h with h1 h2
        have := ih hp ha
        have := smpM_bd hs
        subst h1 h2
        exact ⟨by rw [List.length_append]; simp; omega, by omega⟩
/-- samples that are answered, or none -/
def SmpP (w : World) (o : Option (List Int)) (e : Ending) (w' : World) : Prop :=
  Below w.heap.size w w' ∧ match o with
  | none => ∃ v, e = .returned (.tuple #[v, .bool false])
  | some out => ∃ A c, e = .returned (.tuple #[.slice A out.length c, .bool true]) ∧ w'.ownsRow w.heap.size 3 1 (.slice A out.length c) out.length (out.map (.int .i64))
/-- while samples are read: the head in its box, and the samples -/
structure Sm (w wr : World) (hd : Array Value) (A : Option Addr) (c : Nat) (out : List Int) : Prop where
  bel : Below w.heap.size w wr
  box : wr.heap[w.heap.size]? = some (.cells hd 61 (0, 0))
  own : wr.ownsRow (w.heap.size + 1) 3 1 (.slice A out.length c) out.length (out.map (.int .i64))
theorem Sm.lt {w wr : World} {hd : Array Value} {A : Option Addr} {c : Nat} {out : List Int} (h : Sm w wr hd A c out) : w.heap.size < wr.heap.size := (Array.getElem?_eq_some_iff.1 h.box).1
theorem Sm.start (w : World) (hd : Array Value) : Sm w (w.alloc (.cells hd 61)) hd none 0 [] :=
  ⟨(Below.refl _ _).alloc (Nat.le_refl _) _, heap_alloc_new _ _, World.ownsRow_nil _ _ _ _⟩
theorem Sm.push {w wr w' : World} {hd : Array Value} {A : Option Addr} {c g cap : Nat} {out : List Int} {v : Int} {o : Obj} (h : Sm w wr hd A c out) (hg : (wr.alloc o).grownBy w' (Value.slice A out.length c).ownBlock) (ho : w'.ownsRow (w.heap.size + 1) 3 1 (.slice (some ⟨g, 0, none⟩) (out.length + 1) cap) (out.length + 1) (out.map (.int .i64) ++ [.int .i64 v])) : Sm w w' hd (some ⟨g, 0, none⟩) cap (out ++ [v]) := by
  have hl := h.lt
  refine ⟨(h.bel.alloc h.bel.size o).grown hg (by rw [World.size_alloc]; have := h.bel.size; omega) (fun b e => by have := (h.own.lt b e).1; omega), ?_, ?_⟩
  · rw [hg.block _ (by rw [World.size_alloc]; omega) (fun e => by have := (h.own.lt _ e.symm).1; omega)]
    exact (((Below.refl wr.heap.size wr).alloc (Nat.le_refl _) o).block _ hl).trans h.box
  · rw [List.length_append, List.map_append]; exact ho
def hdA (h : Hd) : Array Value := #[.int .i64 h.kind, .int .i64 h.w, .int .i64 h.h, .int .i64 h.top, .int .i64 h.a]
set_option maxRecDepth 20000 in
set_option maxHeartbeats 8000000 in
theorem plain_any {A : Option Addr} {n c N : Nat} {l : List Int} {h : Hd} (w : World) (HA : SI w .u8 A n l) (hwf : ∀ x ∈ l, 0 ≤ x ∧ x < 256) (ha : h.a ≤ n) (hN : N ≤ 1048576) :
    Calls Tryd.prog 27 #[.slice A n c, .agg #[.int .i64 h.kind, .int .i64 h.w, .int .i64 h.h, .int .i64 h.top, .int .i64 h.a], .int .i64 N] w (SmpP w ((plainM l h.kind h.top h.a N).map (·.1))) := by
  have HAA := Lib.hid HA
  have HWF := Lib.hid hwf
  have HLEN := Lib.hid HA.len
  have hbig := HA.bigb
  clear HA hwf
  go_enter Tryd.func27, Tryd.ntmps27
  go_upto_region 2 with (fail)
  have HS0 := Lib.hid (Sm.start w (hdA h))
  unfold hdA at HS0
  generalize (World.alloc w _) = W0 at HS0 ⊢
  have b0 : W0.cell? ⟨w.heap.size, 4, none⟩ = some (.int .i64 (h.a : Int)) := by have := HS0.out.box; simp [World.cell?, this]
  go_wp2_with fail
  clear b0
  go_loopw [8, 9, 10] (fun so sa si wr => ∃ (k a : Nat) (A1 : Option Addr) (c1 : Nat) (out : List Int), k ≤ N ∧ si = .int .i64 k ∧ sa = .int .i64 a ∧ so = .slice A1 out.length c1 ∧ Hid (plainM l h.kind h.top h.a k = some (out, a)) ∧ Sm w wr #[.int .i64 h.kind, .int .i64 h.w, .int .i64 h.h, .int .i64 h.top, .int .i64 h.a] A1 c1 out) (fun _ _ si _ => N - (intOf si).toNat)
  case atStart => exact ⟨0, h.a, none, 0, [], by omega, rfl, rfl, rfl, rfl, HS0.out⟩
  case round =>
    clear HS0
    obtain ⟨k, a, A1, c1, out, hk, rfl, rfl, rfl, HP, hs⟩ := hrel
    have HS := Lib.hid hs
    clear hs
    have hpb := plainM_bd HP.out (by have := HLEN.out; omega)
    have HOL := Lib.hid hpb.1
    have han : a ≤ n := by have := HLEN.out; omega
    have b0 : wr.cell? ⟨w.heap.size, 0, none⟩ = some (.int .i64 h.kind) := by have := HS.out.box; simp [World.cell?, this]
    have b3 : wr.cell? ⟨w.heap.size, 3, none⟩ = some (.int .i64 h.top) := by have := HS.out.box; simp [World.cell?, this]
    have HSI := Lib.hid (HAA.out.below HS.out.bel (Nat.le_refl _))
    clear hpb
    by_cases hlt : k < N
    · have d1 : decide ((k : Int) < (N : Int)) = true := decide_eq_true (by omega)
      have hfail : Hid (smpM l h.kind h.top a (decide (k = 0)) = none → (plainM l h.kind h.top h.a N).map (·.1) = none) := fun hs => by
        rw [plainM_none (k := k + 1) (by rw [plainM, HP.out]; simp only []; rw [hs]) hlt]; rfl
      have hstep : Hid (∀ v e, smpM l h.kind h.top a (decide (k = 0)) = some (v, e) → plainM l h.kind h.top h.a (k + 1) = some (out ++ [v], e)) := fun v e hs => by
        rw [plainM, HP.out]; simp only []; rw [hs]
      go_wp2_with fail
      refine (gap_any wr HSI.out).mono ?_
      rintro e w' ⟨rfl, rfl⟩
--<round
      cases hg : gapM l a with
      | none =>
        rw [show ixI none = (-1 : Int) from rfl]
        have g1 : decide ((-1 : Int) < 0) = true := by decide
        have HF := Lib.hid (hfail.out (by unfold smpM; rw [hg]))
        clear hfail hstep
        go_wp2_with fail
        go_ret2
        rw [HF.out]
        exact ⟨HS.out.bel, _, rfl⟩
      | some j =>
        rw [show ixI (some j) = (j : Int) from rfl]
        have hj := gapM_ge _ _ _ rfl hg
        have hjn0 : j ≤ n := by have := HLEN.out; omega
        have HG := Lib.hid hg
        have g0 : decide ((j : Int) < 0) = false := decide_eq_false (by omega)
        clear hg hj
        by_cases hja : j = a
        · subst hja
          have g1 : ((j : Int) == (j : Int)) = true := by simp
          by_cases hk0 : k = 0
          · have g2 : ((k : Int) == 0) = true := by simp [hk0]
            have HF := Lib.hid (hfail.out (by unfold smpM; rw [HG.out]; simp only []; rw [if_pos (.inl ⟨trivial, .inl (decide_eq_true hk0)⟩)]))
            clear hfail hstep
            go_wp2_with fail
            go_ret2
            rw [HF.out]
            exact ⟨HS.out.bel, _, rfl⟩
          · have g2 : ((k : Int) == 0) = false := by simp; omega
            by_cases hk1 : h.kind = 1
            · have g3 : (h.kind != 1) = false := by simp [hk1]
              have g4 : (h.kind == 1) = true := by simp [hk1]
              have HK1 := Lib.hid hk1
              clear hk1
              by_cases hjn : j < n
              · have g5 : decide ((n : Int) ≤ (j : Int)) = false := decide_eq_false (by omega)
                obtain ⟨b1, o1, hA1, hcell⟩ := byte_at HSI.out hjn
                subst hA1
                obtain ⟨x, hx⟩ : ∃ x, l.getD j 0 = x := ⟨_, rfl⟩
                have hxb := getD_wf HWF.out j
                rw [hx] at hcell hxb
                have HX := Lib.hid hx
                clear hx
                by_cases h48 : x = 48
                · have k48 : (x != 48) = false := by simp [h48]
                  have H48 := Lib.hid h48
                  have hge : 48 ≤ x ∧ x ≤ 49 := by omega
                  clear h48
                  have hsv : smpM l h.kind h.top j (decide (k = 0)) = some (x - 48, j + 1) := by
                    unfold smpM
                    rw [HG.out]
                    simp only []
                    rw [if_neg (by rintro (⟨-, h1 | h1⟩ | h1); exact hk0 (of_decide_eq_true h1); exact h1 HK1.out; have := HLEN.out; omega), if_pos HK1.out, if_pos (by rw [HX.out]; omega), HX.out]
                  have HN := Lib.hid (hstep.out _ _ hsv)
                  clear hfail hstep hsv
                  have hbw := HS.out.lt
                  have hbs := HS.out.bel.size
                  go_wp2_with (at_builtin; refine Ard.wpList_push rfl (.tmp 61) (.tmp 68) _ rfl (w.heap.size + 1) 3 1 8 _ Tryd.underlying55 Ard.infoInt rfl (by omega) (.slice A1 out.length c1) out.length (out.map (.int .i64)) rfl (HS.out.own.alloc _) wr.heap.size 1 1 [.int .i64 (x - 48)] 3 rfl rfl (heap_alloc_new wr _) ?c2 (by omega) ?c3 ?c4 ?c5 _ rfl ?_)
                  case c2 => simp [Value.oneCell']
                  case c3 => have := HOL.out; unfold maxLen; omega
                  case c4 => have := HOL.out; omega
                  case c5 => simp; omega
                  intro g cap w5 hown5 hg5 _ _
                  have HS5 := Lib.hid (HS.out.push hg5 hown5)
                  clear hown5 hg5 HS b0 b3 HSI hbw HOL
                  go_wp2_with fail
                  go_roundw
                  case rel => exact ⟨k + 1, j + 1, _, _, _, by omega, by go_num, by go_num, by rw [List.length_append]; rfl, HN.out, HS5.out⟩
                  case measure => simp [intOf]; omega
                · have k48 : (x != 48) = true := by simp [h48]
                  by_cases h49 : x = 49
                  · have k49 : (x != 49) = false := by simp [h49]
                    have H49 := Lib.hid h49
                    have hge : 48 ≤ x ∧ x ≤ 49 := by omega
                    clear h49
                    have hsv : smpM l h.kind h.top j (decide (k = 0)) = some (x - 48, j + 1) := by
                      unfold smpM
                      rw [HG.out]
                      simp only []
                      rw [if_neg (by rintro (⟨-, h1 | h1⟩ | h1); exact hk0 (of_decide_eq_true h1); exact h1 HK1.out; have := HLEN.out; omega), if_pos HK1.out, if_pos (by rw [HX.out]; omega), HX.out]
                    have HN := Lib.hid (hstep.out _ _ hsv)
                    clear hfail hstep hsv
                    have hbw := HS.out.lt
                    have hbs := HS.out.bel.size
                    go_wp2_with (at_builtin; refine Ard.wpList_push rfl (.tmp 61) (.tmp 68) _ rfl (w.heap.size + 1) 3 1 8 _ Tryd.underlying55 Ard.infoInt rfl (by omega) (.slice A1 out.length c1) out.length (out.map (.int .i64)) rfl (HS.out.own.alloc _) wr.heap.size 1 1 [.int .i64 (x - 48)] 3 rfl rfl (heap_alloc_new wr _) ?c2 (by omega) ?c3 ?c4 ?c5 _ rfl ?_)
                    case c2 => simp [Value.oneCell']
                    case c3 => have := HOL.out; unfold maxLen; omega
                    case c4 => have := HOL.out; omega
                    case c5 => simp; omega
                    intro g cap w5 hown5 hg5 _ _
                    have HS5 := Lib.hid (HS.out.push hg5 hown5)
                    clear hown5 hg5 HS b0 b3 HSI hbw HOL
                    go_wp2_with fail
                    go_roundw
                    case rel => exact ⟨k + 1, j + 1, _, _, _, by omega, by go_num, by go_num, by rw [List.length_append]; rfl, HN.out, HS5.out⟩
                    case measure => simp [intOf]; omega
                  · have k49 : (x != 49) = true := by simp [h49]
                    have HF := Lib.hid (hfail.out (by unfold smpM; rw [HG.out]; simp only []; rw [if_neg (by rintro (⟨-, h1 | h1⟩ | h1); exact hk0 (of_decide_eq_true h1); exact h1 HK1.out; have := HLEN.out; omega), if_pos HK1.out, if_neg (by rw [HX.out]; omega)]))
                    clear hfail hstep
                    go_wp2_with fail
                    go_ret2
                    rw [HF.out]
                    exact ⟨HS.out.bel, _, rfl⟩
              · have g5 : decide ((n : Int) ≤ (j : Int)) = true := decide_eq_true (by omega)
                have HF := Lib.hid (hfail.out (by unfold smpM; rw [HG.out]; simp only []; rw [if_pos (.inr (by have := HLEN.out; omega))]))
                clear hfail hstep
                go_wp2_with fail
                go_ret2
                rw [HF.out]
                exact ⟨HS.out.bel, _, rfl⟩
            · have g3 : (h.kind != 1) = true := by simp [hk1]
              have HF := Lib.hid (hfail.out (by unfold smpM; rw [HG.out]; simp only []; rw [if_pos (.inl ⟨trivial, .inr hk1⟩)]))
              clear hfail hstep
              go_wp2_with fail
              go_ret2
              rw [HF.out]
              exact ⟨HS.out.bel, _, rfl⟩
        · have g1 : ((j : Int) == (a : Int)) = false := by simp; omega
          by_cases hjn : j < n
          · have g5 : decide ((n : Int) ≤ (j : Int)) = false := decide_eq_false (by omega)
            by_cases hk1 : h.kind = 1
            · have g4 : (h.kind == 1) = true := by simp [hk1]
              have HK1 := Lib.hid hk1
              clear hk1
              obtain ⟨b1, o1, hA1, hcell⟩ := byte_at HSI.out hjn
              subst hA1
              obtain ⟨x, hx⟩ : ∃ x, l.getD j 0 = x := ⟨_, rfl⟩
              have hxb := getD_wf HWF.out j
              rw [hx] at hcell hxb
              have HX := Lib.hid hx
              clear hx
              by_cases h48 : x = 48
              · have k48 : (x != 48) = false := by simp [h48]
                have H48 := Lib.hid h48
                have hge : 48 ≤ x ∧ x ≤ 49 := by omega
                clear h48
                have hsv : smpM l h.kind h.top a (decide (k = 0)) = some (x - 48, j + 1) := by
                  unfold smpM
                  rw [HG.out]
                  simp only []
                  rw [if_neg (by rintro (⟨h1, -⟩ | h1); exact hja h1; have := HLEN.out; omega), if_pos HK1.out, if_pos (by rw [HX.out]; omega), HX.out]
                have HN := Lib.hid (hstep.out _ _ hsv)
                clear hfail hstep hsv
                have hbw := HS.out.lt
                have hbs := HS.out.bel.size
                go_wp2_with (at_builtin; refine Ard.wpList_push rfl (.tmp 61) (.tmp 68) _ rfl (w.heap.size + 1) 3 1 8 _ Tryd.underlying55 Ard.infoInt rfl (by omega) (.slice A1 out.length c1) out.length (out.map (.int .i64)) rfl (HS.out.own.alloc _) wr.heap.size 1 1 [.int .i64 (x - 48)] 3 rfl rfl (heap_alloc_new wr _) ?c2 (by omega) ?c3 ?c4 ?c5 _ rfl ?_)
                case c2 => simp [Value.oneCell']
                case c3 => have := HOL.out; unfold maxLen; omega
                case c4 => have := HOL.out; omega
                case c5 => simp; omega
                intro g cap w5 hown5 hg5 _ _
                have HS5 := Lib.hid (HS.out.push hg5 hown5)
                clear hown5 hg5 HS b0 b3 HSI hbw HOL
                go_wp2_with fail
                go_roundw
                case rel => exact ⟨k + 1, j + 1, _, _, _, by omega, by go_num, by go_num, by rw [List.length_append]; rfl, HN.out, HS5.out⟩
                case measure => simp [intOf]; omega
              · have k48 : (x != 48) = true := by simp [h48]
                by_cases h49 : x = 49
                · have k49 : (x != 49) = false := by simp [h49]
                  have H49 := Lib.hid h49
                  have hge : 48 ≤ x ∧ x ≤ 49 := by omega
                  clear h49
                  have hsv : smpM l h.kind h.top a (decide (k = 0)) = some (x - 48, j + 1) := by
                    unfold smpM
                    rw [HG.out]
                    simp only []
                    rw [if_neg (by rintro (⟨h1, -⟩ | h1); exact hja h1; have := HLEN.out; omega), if_pos HK1.out, if_pos (by rw [HX.out]; omega), HX.out]
                  have HN := Lib.hid (hstep.out _ _ hsv)
                  clear hfail hstep hsv
                  have hbw := HS.out.lt
                  have hbs := HS.out.bel.size
                  go_wp2_with (at_builtin; refine Ard.wpList_push rfl (.tmp 61) (.tmp 68) _ rfl (w.heap.size + 1) 3 1 8 _ Tryd.underlying55 Ard.infoInt rfl (by omega) (.slice A1 out.length c1) out.length (out.map (.int .i64)) rfl (HS.out.own.alloc _) wr.heap.size 1 1 [.int .i64 (x - 48)] 3 rfl rfl (heap_alloc_new wr _) ?c2 (by omega) ?c3 ?c4 ?c5 _ rfl ?_)
                  case c2 => simp [Value.oneCell']
                  case c3 => have := HOL.out; unfold maxLen; omega
                  case c4 => have := HOL.out; omega
                  case c5 => simp; omega
                  intro g cap w5 hown5 hg5 _ _
                  have HS5 := Lib.hid (HS.out.push hg5 hown5)
                  clear hown5 hg5 HS b0 b3 HSI hbw HOL
                  go_wp2_with fail
                  go_roundw
                  case rel => exact ⟨k + 1, j + 1, _, _, _, by omega, by go_num, by go_num, by rw [List.length_append]; rfl, HN.out, HS5.out⟩
                  case measure => simp [intOf]; omega
                · have k49 : (x != 49) = true := by simp [h49]
                  have HF := Lib.hid (hfail.out (by unfold smpM; rw [HG.out]; simp only []; rw [if_neg (by rintro (⟨h1, -⟩ | h1); exact hja h1; have := HLEN.out; omega), if_pos HK1.out, if_neg (by rw [HX.out]; omega)]))
                  clear hfail hstep
                  go_wp2_with fail
                  go_ret2
                  rw [HF.out]
                  exact ⟨HS.out.bel, _, rfl⟩
            · have g4 : (h.kind == 1) = false := by simp [hk1]
              have hjl : j ≤ n := by omega
              go_wp2_with fail
              refine (number_any wr HSI.out hjl).mono ?_
              rintro e w' ⟨rfl, rfl⟩
              cases hm : numM l j with
              | none =>
                rw [show numI none = (0, -1) from rfl]
                have g1 : decide ((-1 : Int) < 0) = true := by decide
                have HF := Lib.hid (hfail.out (by unfold smpM; rw [HG.out]; simp only []; rw [if_neg (by rintro (⟨h1, -⟩ | h1); exact hja h1; have := HLEN.out; omega), if_neg hk1, hm]))
                clear hfail hstep
                go_wp2_with fail
                go_ret2
                rw [HF.out]
                exact ⟨HS.out.bel, _, rfl⟩
              | some ve =>
                obtain ⟨v, e⟩ := ve
                rw [show numI (some (v, e)) = (v, (e : Int)) from rfl]
                have hvb := numM_bd hm
                have hee := hvb.2.2.2 (by have := HLEN.out; omega)
                have g1 : decide ((e : Int) < 0) = false := decide_eq_false (by omega)
                have HM := Lib.hid hm
                clear hm
                by_cases ht : h.top < v
                · have g2 : decide (h.top < v) = true := decide_eq_true ht
                  have HF := Lib.hid (hfail.out (by unfold smpM; rw [HG.out]; simp only []; rw [if_neg (by rintro (⟨h1, -⟩ | h1); exact hja h1; have := HLEN.out; omega), if_neg hk1, HM.out]; simp only []; rw [if_pos ht]))
                  clear hfail hstep
                  go_wp2_with fail
                  go_ret2
                  rw [HF.out]
                  exact ⟨HS.out.bel, _, rfl⟩
                · have g2 : decide (h.top < v) = false := decide_eq_false ht
                  have hsv : smpM l h.kind h.top a (decide (k = 0)) = some (v, e) := by
                    unfold smpM
                    rw [HG.out]
                    simp only []
                    rw [if_neg (by rintro (⟨h1, -⟩ | h1); exact hja h1; have := HLEN.out; omega), if_neg hk1, HM.out]
                    simp only []
                    rw [if_neg ht]
                  have HN := Lib.hid (hstep.out _ _ hsv)
                  clear hfail hstep hsv
                  have hbw := HS.out.lt
                  have hbs := HS.out.bel.size
                  go_wp2_with (at_builtin; refine Ard.wpList_push rfl (.tmp 86) (.tmp 88) _ rfl (w.heap.size + 1) 3 1 8 _ Tryd.underlying55 Ard.infoInt rfl (by omega) (.slice A1 out.length c1) out.length (out.map (.int .i64)) rfl (HS.out.own.alloc _) wr.heap.size 1 1 [.int .i64 (v)] 3 rfl rfl (heap_alloc_new wr _) ?c2 (by omega) ?c3 ?c4 ?c5 _ rfl ?_)
                  case c2 => simp [Value.oneCell']
                  case c3 => have := HOL.out; unfold maxLen; omega
                  case c4 => have := HOL.out; omega
                  case c5 => simp; omega
                  intro g cap w5 hown5 hg5 _ _
                  have HS5 := Lib.hid (HS.out.push hg5 hown5)
                  clear hown5 hg5 HS b0 b3 HSI hbw HOL
                  go_wp2_with fail
                  go_roundw
                  case rel => exact ⟨k + 1, e, _, _, _, by omega, by go_num, by go_num, by rw [List.length_append]; rfl, HN.out, HS5.out⟩
                  case measure => simp [intOf]; omega
          · have g5 : decide ((n : Int) ≤ (j : Int)) = true := decide_eq_true (by omega)
            have HF := Lib.hid (hfail.out (by unfold smpM; rw [HG.out]; simp only []; rw [if_pos (.inr (by have := HLEN.out; omega))]))
            clear hfail hstep
            go_wp2_with fail
            go_ret2
            rw [HF.out]
            exact ⟨HS.out.bel, _, rfl⟩
--round>
    · obtain rfl : k = N := by omega
      have d1 : decide ((k : Int) < (k : Int)) = false := decide_eq_false (by omega)
      go_wp2
      go_ret2
      rw [HP.out]
      exact ⟨HS.out.bel, A1, c1, rfl, Ard.own_base HS.out.own (by omega)⟩
end Go.Proofs.YtbmlopklhgladaaDoor.Pnm
set_option linter.unusedVariables false
set_option linter.unusedSimpArgs false
namespace Go.Proofs.YtbmlopklhgladaaDoor.Pnm
open Go.RowKit K

def bitI (l : List Int) (a W row i : Nat) : Int := l.getD (a + i / W * row + i % W / 8) 0 / 2 ^ (7 - i % W % 8) % 2
def valI (l : List Int) (a size i : Nat) : Int := if size = 2 then 256 * l.getD (a + 2 * i) 0 + l.getD (a + 2 * i + 1) 0 else l.getD (a + i) 0
def rawV (l : List Int) (a size : Nat) (top : Int) : Nat → Option (List Int)
  | 0 => some []
  | k+1 => match rawV l a size top k with
    | none => none
    | some out => if top < valI l a size k then none else some (out ++ [valI l a size k])
def rawM (l : List Int) (h : Hd) (N : Nat) : Option (List Int) :=
  if l.length ≤ h.a ∨ ¬ spaceB (l.getD h.a 0) = true then none
  else if h.kind = 4 then
    if l.length - (h.a + 1) < (h.w.toNat + 7) / 8 * h.h.toNat then none
    else some ((List.range N).map (bitI l (h.a + 1) h.w.toNat ((h.w.toNat + 7) / 8)))
  else if l.length - (h.a + 1) < (if 255 < h.top then 2 else 1) * N then none
  else rawV l (h.a + 1) (if 255 < h.top then 2 else 1) h.top N
theorem rawV_none {l : List Int} {a size : Nat} {top : Int} {k n : Nat} (h : rawV l a size top k = none) (hn : k ≤ n) : rawV l a size top n = none := by
  induction n with
  | zero =>
    obtain rfl : k = 0 := by omega
    exact h
  | succ n ih =>
    rcases (by omega : k = n + 1 ∨ k ≤ n) with rfl | h1
    · exact h
    · rw [rawV, ih h1]
theorem rawV_len {l : List Int} {a size : Nat} {top : Int} : ∀ {k : Nat} {out : List Int}, rawV l a size top k = some out → out.length = k := by
  intro k
  induction k with
  | zero => intro out h; injection h with h; subst h; rfl
  | succ k ih =>
    intro out h
    rw [rawV] at h
    cases hp : rawV l a size top k with
    | none => rw [hp] at h; cases h
    | some o =>
      rw [hp] at h
      simp only at h
      split at h
      · cases h
      · injection h with h
        subst h
        rw [List.length_append, ih hp]; rfl
set_option maxRecDepth 20000 in
set_option maxHeartbeats 4000000 in
theorem raw_none {A : Option Addr} {n c N : Nat} {l : List Int} {h : Hd} (w : World) (HA : SI w .u8 A n l) (hs : n ≤ h.a ∨ ¬ spaceB (l.getD h.a 0) = true) :
    Calls Tryd.prog 28 #[.slice A n c, .agg #[.int .i64 h.kind, .int .i64 h.w, .int .i64 h.h, .int .i64 h.top, .int .i64 h.a], .int .i64 N] w (SmpP w (rawM l h N)) := by
  have HF : Hid (rawM l h N = none) := by
    show _ = _
    unfold rawM
    rw [if_pos (by have := HA.len; rcases hs with h1 | h1; exact .inl (by omega); exact .inr h1)]
  have hbig := HA.bigb
  have HAA := Lib.hid HA
  clear HA
  go_enter Tryd.func28, Tryd.ntmps28
  go_upto_region 1 with (fail)
  have HS0 := Lib.hid (Sm.start w (hdA h))
  unfold hdA at HS0
  generalize (World.alloc w _) = W0 at HS0 ⊢
  have b4 : W0.cell? ⟨w.heap.size, 4, none⟩ = some (.int .i64 (h.a : Int)) := by have := HS0.out.box; simp [World.cell?, this]
  by_cases hla : n ≤ h.a
  · have d1 : decide ((n : Int) ≤ (h.a : Int)) = true := decide_eq_true (by omega)
    go_wp2_with fail
    go_ret2
    rw [HF.out]
    exact ⟨HS0.out.bel, _, rfl⟩
  · have d1 : decide ((n : Int) ≤ (h.a : Int)) = false := decide_eq_false (by omega)
    have hsp : spaceB (l.getD h.a 0) = false := by rcases hs with h1 | h1; exact absurd h1 hla; exact Bool.eq_false_iff.2 h1
    obtain ⟨b1, o1, rfl, hcell⟩ := byte_at (HAA.out.below HS0.out.bel (Nat.le_refl _)) (show h.a < n by omega)
    generalize l.getD h.a 0 = x at hcell hsp
    clear hs
    have HSP := Lib.hid hsp
    clear hsp
    go_wp2_with fail
    refine (space_any x W0).mono ?_
    rintro e w' ⟨rfl, rfl⟩
    rw [HSP.out]
    go_wp2_with fail
    go_ret2
    rw [HF.out]
    exact ⟨HS0.out.bel, _, rfl⟩
set_option maxRecDepth 20000 in
set_option maxHeartbeats 8000000 in
theorem raw_vals {A : Option Addr} {n c N : Nat} {l : List Int} {h : Hd} (w : World) (HA : SI w .u8 A n l) (hwf : ∀ x ∈ l, 0 ≤ x ∧ x < 256) (ha : h.a < n) (hs : spaceB (l.getD h.a 0) = true) (hk : h.kind ≠ 4) (hN : N ≤ 1048576) :
    Calls Tryd.prog 28 #[.slice A n c, .agg #[.int .i64 h.kind, .int .i64 h.w, .int .i64 h.h, .int .i64 h.top, .int .i64 h.a], .int .i64 N] w (SmpP w (rawM l h N)) := by
  obtain ⟨size, hsz⟩ : ∃ s : Nat, (if 255 < h.top then 2 else 1) = s := ⟨_, rfl⟩
  have HR : Hid (rawM l h N = if n - (h.a + 1) < size * N then none else rawV l (h.a + 1) size h.top N) := by
    show _ = _
    have := HA.len
    unfold rawM
    rw [if_neg (by rintro (h1 | h1); omega; exact h1 hs), if_neg hk, hsz, this]
  have hbig := HA.bigb
  have HAA := Lib.hid HA
  have HWF := Lib.hid hwf
  have HLEN := Lib.hid HA.len
  have g4 : (h.kind == 4) = false := by simp [hk]
  clear HA hwf
  go_enter Tryd.func28, Tryd.ntmps28
  go_upto_region 1 with (fail)
  have HS0 := Lib.hid (Sm.start w (hdA h))
  unfold hdA at HS0
  generalize (World.alloc w _) = W0 at HS0 ⊢
  have b4 : W0.cell? ⟨w.heap.size, 4, none⟩ = some (.int .i64 (h.a : Int)) := by have := HS0.out.box; simp [World.cell?, this]
  have b3 : W0.cell? ⟨w.heap.size, 3, none⟩ = some (.int .i64 h.top) := by have := HS0.out.box; simp [World.cell?, this]
  have b0 : W0.cell? ⟨w.heap.size, 0, none⟩ = some (.int .i64 h.kind) := by have := HS0.out.box; simp [World.cell?, this]
  have d1 : decide ((n : Int) ≤ (h.a : Int)) = false := decide_eq_false (by omega)
  obtain ⟨b1, o1, rfl, hcell⟩ := byte_at (HAA.out.below HS0.out.bel (Nat.le_refl _)) ha
  generalize l.getD h.a 0 = x at hcell hs
  have HSP := Lib.hid hs
  clear hs
  go_wp2_with fail
  refine (space_any x W0).mono ?_
  rintro e w' ⟨rfl, rfl⟩
  rw [HSP.out]
  clear hcell
  go_upto_if 87 with (fail)
  go_cut [14] (fun s14 wx => s14 = .int .i64 (size : Int) ∧ wx = W0)
  case first =>
    by_cases ht : 255 < h.top
    · have e1 : decide (255 < h.top) = true := decide_eq_true ht
      rw [if_pos ht] at hsz
      subst hsz
      go_wp2
      go_meet
      exact ⟨rfl, rfl⟩
    · have e1 : decide (255 < h.top) = false := decide_eq_false ht
      rw [if_neg ht] at hsz
      subst hsz
      go_wp2
      go_meet
      exact ⟨rfl, rfl⟩
  obtain ⟨rfl, rfl⟩ := hcut
  have hb64 : size ≤ 2 := by rw [← hsz]; split <;> omega
  have hs1 : 1 ≤ size := by rw [← hsz]; split <;> omega
  have HSZ := Lib.hid hsz
  clear hsz
  have hprod : size * N ≤ 2097152 := Nat.le_trans (Nat.mul_le_mul_right N hb64) (by omega)
  have hcast : (size : Int) * (N : Int) = ((size * N : Nat) : Int) := by push_cast; rfl
  by_cases hfit : n - (h.a + 1) < size * N
  · have e1 : decide ((n : Int) - ((h.a : Int) + 1) < (size : Int) * (N : Int)) = true := decide_eq_true (by rw [hcast]; omega)
    have HF : Hid (rawM l h N = none) := by show _ = _; rw [HR.out, if_pos hfit]
    clear hcast
    go_wp2_with fail
    go_ret2
    rw [HF.out]
    exact ⟨HS0.out.bel, _, rfl⟩
--<vals
  · rcases (by omega : size = 1 ∨ size = 2) with hs | hs
    · subst hs
      rw [show ((1 : Nat) : Int) = 1 from rfl]
      have e1 : decide ((n : Int) - ((h.a : Int) + 1) < (1 : Int) * (N : Int)) = false := decide_eq_false (by omega)
      go_wp2_with fail
      go_loopw [8, 15] (fun so si wr => ∃ (k : Nat) (A1 : Option Addr) (c1 : Nat) (out : List Int), k ≤ N ∧ si = .int .i64 k ∧ so = .slice A1 out.length c1 ∧ Hid (rawV l (h.a + 1) 1 h.top k = some out) ∧ Sm w wr #[.int .i64 h.kind, .int .i64 h.w, .int .i64 h.h, .int .i64 h.top, .int .i64 h.a] A1 c1 out) (fun _ si _ => N - (intOf si).toNat)
      case atStart => exact ⟨0, none, 0, [], by omega, rfl, rfl, rfl, HS0.out⟩
      case round =>
        clear HS0 b0 b3 b4
        obtain ⟨k, A1, c1, out, hk1, rfl, rfl, HP, hsm⟩ := hrel
        have HS := Lib.hid hsm
        clear hsm
        have HOL := Lib.hid (rawV_len HP.out)
        have b3 : wr.cell? ⟨w.heap.size, 3, none⟩ = some (.int .i64 h.top) := by have := HS.out.box; simp [World.cell?, this]
        by_cases hlt : k < N
        · have d2 : decide ((k : Int) < (N : Int)) = true := decide_eq_true (by omega)
          have hsi := HAA.out.below HS.out.bel (Nat.le_refl _)
          obtain ⟨b2, o2, hA2, hc0⟩ := byte_at hsi (show h.a + 1 + k < n by omega)
          injection hA2 with hA2
          injection hA2 with q1 q2 q3
          subst q1 q2
          have hv := getD_wf HWF.out (h.a + 1 + k)
          have hval : valI l (h.a + 1) 1 k = l.getD (h.a + 1 + k) 0 := by unfold valI; rw [if_neg (by omega)]
          generalize l.getD (h.a + 1 + k) 0 = v at hc0 hv hval
          have i1 : (h.a : Int) + 1 + (k : Int) < (n : Int) := by omega
          have HV := Lib.hid hval
          clear hval hsi
          by_cases ht : h.top < v
          · have e3 : decide (h.top < v) = true := decide_eq_true ht
            have HF : Hid (rawM l h N = none) := by
              show _ = _
              rw [HR.out, if_neg hfit, rawV_none (k := k + 1) (by rw [rawV, HP.out]; simp only []; rw [HV.out, if_pos ht]) hlt]
            go_wp2_with fail
            go_ret2
            rw [HF.out]
            exact ⟨HS.out.bel, _, rfl⟩
          · have e3 : decide (h.top < v) = false := decide_eq_false ht
            have HN : Hid (rawV l (h.a + 1) 1 h.top (k + 1) = some (out ++ [v])) := by show _ = _; rw [rawV, HP.out]; simp only []; rw [HV.out, if_neg ht]
            have hbw := HS.out.lt
            have hbase : ∀ o, w.heap.size + 1 ≤ (wr.alloc o).heap.size := fun o => by rw [World.size_alloc]; omega
            go_wp2_with (at_builtin; refine Ard.wpList_push rfl (.tmp 128) (.tmp 130) _ rfl (w.heap.size + 1) 3 1 8 _ Tryd.underlying55 Ard.infoInt rfl (by omega) (.slice A1 out.length c1) out.length (out.map (.int .i64)) rfl (HS.out.own.alloc _) wr.heap.size 1 1 [.int .i64 (v)] 3 rfl rfl (heap_alloc_new wr _) ?c2 (by omega) ?c3 ?c4 (hbase _) _ rfl ?_)
            case c2 => simp [Value.oneCell']
            case c3 => have := HOL.out; unfold maxLen; omega
            case c4 => have := HOL.out; omega
            intro g cap w5 hown5 hg5 _ _
            have HS5 := Lib.hid (HS.out.push hg5 hown5)
            clear hown5 hg5 HS b3 hbw hbase HOL hc0
            go_wp2_with fail
            go_roundw
            case rel => exact ⟨k + 1, _, _, _, by omega, by go_num, by rw [List.length_append]; rfl, HN.out, HS5.out⟩
            case measure => simp [intOf]; omega
        · obtain rfl : k = N := by omega
          have d2 : decide ((k : Int) < (k : Int)) = false := decide_eq_false (by omega)
          have HF : Hid (rawM l h k = some out) := by show _ = _; rw [HR.out, if_neg hfit, HP.out]
          go_wp2
          go_ret2
          rw [HF.out]
          exact ⟨HS.out.bel, A1, c1, rfl, Ard.own_base HS.out.own (by omega)⟩
    · subst hs
      rw [show ((2 : Nat) : Int) = 2 from rfl]
      have e1 : decide ((n : Int) - ((h.a : Int) + 1) < (2 : Int) * (N : Int)) = false := decide_eq_false (by omega)
      go_wp2_with fail
      go_loopw [8, 15] (fun so si wr => ∃ (k : Nat) (A1 : Option Addr) (c1 : Nat) (out : List Int), k ≤ N ∧ si = .int .i64 k ∧ so = .slice A1 out.length c1 ∧ Hid (rawV l (h.a + 1) 2 h.top k = some out) ∧ Sm w wr #[.int .i64 h.kind, .int .i64 h.w, .int .i64 h.h, .int .i64 h.top, .int .i64 h.a] A1 c1 out) (fun _ si _ => N - (intOf si).toNat)
      case atStart => exact ⟨0, none, 0, [], by omega, rfl, rfl, rfl, HS0.out⟩
      case round =>
        clear HS0 b0 b3 b4
        obtain ⟨k, A1, c1, out, hk1, rfl, rfl, HP, hsm⟩ := hrel
        have HS := Lib.hid hsm
        clear hsm
        have HOL := Lib.hid (rawV_len HP.out)
        have b3 : wr.cell? ⟨w.heap.size, 3, none⟩ = some (.int .i64 h.top) := by have := HS.out.box; simp [World.cell?, this]
        by_cases hlt : k < N
        · have d2 : decide ((k : Int) < (N : Int)) = true := decide_eq_true (by omega)
          have hsi := HAA.out.below HS.out.bel (Nat.le_refl _)
          obtain ⟨b2, o2, hA2, hc0⟩ := byte_at hsi (show h.a + 1 + 2 * k < n by omega)
          injection hA2 with hA2
          injection hA2 with q1 q2 q3
          subst q1 q2
          obtain ⟨b2, o2, hA2, hc1⟩ := byte_at hsi (show h.a + 1 + 2 * k + 1 < n by omega)
          injection hA2 with hA2
          injection hA2 with q1 q2 q3
          subst q1 q2
          have hv := getD_wf HWF.out (h.a + 1 + 2 * k)
          have hu := getD_wf HWF.out (h.a + 1 + 2 * k + 1)
          have hval : valI l (h.a + 1) 2 k = 256 * l.getD (h.a + 1 + 2 * k) 0 + l.getD (h.a + 1 + 2 * k + 1) 0 := by unfold valI; rw [if_pos rfl]
          generalize l.getD (h.a + 1 + 2 * k) 0 = v at hc0 hv hval
          generalize l.getD (h.a + 1 + 2 * k + 1) 0 = u at hc1 hu hval
          have i1 : (h.a : Int) + 1 + 2 * (k : Int) < (n : Int) := by omega
          have i2 : (h.a : Int) + 1 + 2 * (k : Int) + 1 < (n : Int) := by omega
          have HV := Lib.hid hval
          clear hval hsi
          by_cases ht : h.top < 256 * v + u
          · have e3 : decide (h.top < 256 * v + u) = true := decide_eq_true ht
            have HF : Hid (rawM l h N = none) := by
              show _ = _
              rw [HR.out, if_neg hfit, rawV_none (k := k + 1) (by rw [rawV, HP.out]; simp only []; rw [HV.out, if_pos ht]) hlt]
            go_wp2_with fail
            go_ret2
            rw [HF.out]
            exact ⟨HS.out.bel, _, rfl⟩
          · have e3 : decide (h.top < 256 * v + u) = false := decide_eq_false ht
            have HN : Hid (rawV l (h.a + 1) 2 h.top (k + 1) = some (out ++ [256 * v + u])) := by show _ = _; rw [rawV, HP.out]; simp only []; rw [HV.out, if_neg ht]
            have hbw := HS.out.lt
            have hbase : ∀ o, w.heap.size + 1 ≤ (wr.alloc o).heap.size := fun o => by rw [World.size_alloc]; omega
            go_wp2_with (at_builtin; refine Ard.wpList_push rfl (.tmp 128) (.tmp 130) _ rfl (w.heap.size + 1) 3 1 8 _ Tryd.underlying55 Ard.infoInt rfl (by omega) (.slice A1 out.length c1) out.length (out.map (.int .i64)) rfl (HS.out.own.alloc _) wr.heap.size 1 1 [.int .i64 (256 * v + u)] 3 rfl rfl (heap_alloc_new wr _) ?c2 (by omega) ?c3 ?c4 (hbase _) _ rfl ?_)
            case c2 => simp [Value.oneCell']
            case c3 => have := HOL.out; unfold maxLen; omega
            case c4 => have := HOL.out; omega
            intro g cap w5 hown5 hg5 _ _
            have HS5 := Lib.hid (HS.out.push hg5 hown5)
            clear hown5 hg5 HS b3 hbw hbase HOL hc0 hc1
            go_wp2_with fail
            go_roundw
            case rel => exact ⟨k + 1, _, _, _, by omega, by go_num, by rw [List.length_append]; rfl, HN.out, HS5.out⟩
            case measure => simp [intOf]; omega
        · obtain rfl : k = N := by omega
          have d2 : decide ((k : Int) < (k : Int)) = false := decide_eq_false (by omega)
          have HF : Hid (rawM l h k = some out) := by show _ = _; rw [HR.out, if_neg hfit, HP.out]
          go_wp2
          go_ret2
          rw [HF.out]
          exact ⟨HS.out.bel, A1, c1, rfl, Ard.own_base HS.out.own (by omega)⟩
--vals>
theorem Sm.drew {w wr : World} {hd : Array Value} {A : Option Addr} {c : Nat} {out : List Int} (h : Sm w wr hd A c out) : Sm w wr.drew hd A c out := ⟨h.bel.drew, h.box, h.own.drew⟩
theorem bits_snoc (f : Nat → Int) (k : Nat) : (List.range (k + 1)).map f = (List.range k).map f ++ [f k] := by rw [List.range_succ, List.map_append]; rfl
set_option maxRecDepth 20000 in
set_option maxHeartbeats 8000000 in
theorem raw_bits {A : Option Addr} {n c N W H a : Nat} {top : Int} {l : List Int} (w : World) (HA : SI w .u8 A n l) (hwf : ∀ x ∈ l, 0 ≤ x ∧ x < 256) (ha : a < n) (hs : spaceB (l.getD a 0) = true) (hN : N = W * H) (hW : 1 ≤ W) (hW2 : W ≤ 65536) (hH : H ≤ 65536) (hN2 : N ≤ 1048576) :
    Calls Tryd.prog 28 #[.slice A n c, .agg #[.int .i64 4, .int .i64 (W : Int), .int .i64 (H : Int), .int .i64 top, .int .i64 a], .int .i64 N] w (SmpP w (rawM l ⟨4, W, H, top, a⟩ N)) := by
  obtain ⟨row, hrow⟩ : ∃ r : Nat, (W + 7) / 8 = r := ⟨_, rfl⟩
  have HR : Hid (rawM l ⟨4, W, H, top, a⟩ N = if n - (a + 1) < row * H then none else some ((List.range N).map (bitI l (a + 1) W row))) := by
    show _ = _
    have := HA.len
    unfold rawM
    simp only [Int.toNat_natCast]
    rw [if_neg (by rintro (h1 | h1); omega; exact h1 hs), if_pos trivial, hrow, this]
  have HNN := Lib.hid hN
  clear hN
  have hbig := HA.bigb
  have HAA := Lib.hid HA
  have HWF := Lib.hid hwf
  have HLEN := Lib.hid HA.len
  clear HA hwf
  go_enter Tryd.func28, Tryd.ntmps28
  go_upto_region 1 with (fail)
  have HS0 := Lib.hid (Sm.start w #[.int .i64 4, .int .i64 (W : Int), .int .i64 (H : Int), .int .i64 top, .int .i64 a])
  generalize (World.alloc w _) = W0 at HS0 ⊢
  have b4 : W0.cell? ⟨w.heap.size, 4, none⟩ = some (.int .i64 (a : Int)) := by have := HS0.out.box; simp [World.cell?, this]
  have b1' : W0.cell? ⟨w.heap.size, 1, none⟩ = some (.int .i64 (W : Int)) := by have := HS0.out.box; simp [World.cell?, this]
  have b2' : W0.cell? ⟨w.heap.size, 2, none⟩ = some (.int .i64 (H : Int)) := by have := HS0.out.box; simp [World.cell?, this]
  have b0 : W0.cell? ⟨w.heap.size, 0, none⟩ = some (.int .i64 4) := by have := HS0.out.box; simp [World.cell?, this]
  have d1 : decide ((n : Int) ≤ (a : Int)) = false := decide_eq_false (by omega)
  have d1n : decide (n ≤ a) = false := decide_eq_false (by omega)
  obtain ⟨b1, o1, rfl, hcell⟩ := byte_at (HAA.out.below HS0.out.bel (Nat.le_refl _)) ha
  generalize l.getD a 0 = x at hcell hs
  have HSP := Lib.hid hs
  clear hs
  have e7 : ((W : Int) + 7).tdiv 8 = (row : Int) := by rw [Int.tdiv_eq_ediv_of_nonneg (by omega)]; omega
  have hrH : row * H ≤ 8193 * 65536 := Nat.mul_le_mul (by omega) hH
  have hcast : (row : Int) * (H : Int) = ((row * H : Nat) : Int) := by push_cast; rfl
  go_wp2_with fail
  refine (space_any x W0).mono ?_
  rintro e w' ⟨rfl, rfl⟩
  rw [HSP.out]
  clear hcell
  by_cases hfit : n - (a + 1) < row * H
  · have e1 : decide ((n : Int) - ((a : Int) + 1) < (row : Int) * (H : Int)) = true := decide_eq_true (by rw [hcast]; omega)
    have HF : Hid (rawM l ⟨4, W, H, top, a⟩ N = none) := by show _ = _; rw [HR.out, if_pos hfit]
    clear hcast
    go_wp2_with fail
    go_ret2
    rw [HF.out]
    exact ⟨HS0.out.bel, _, rfl⟩
  · have e1 : decide ((n : Int) - ((a : Int) + 1) < (row : Int) * (H : Int)) = false := decide_eq_false (by rw [hcast]; omega)
    clear hcast
    have HFIT := Lib.hid hfit
    clear hfit
    go_wp2_with fail
    go_loopw [8, 11] (fun so si wr => ∃ (k : Nat) (A1 : Option Addr) (c1 : Nat), k ≤ N ∧ si = .int .i64 k ∧ so = .slice A1 ((List.range k).map (bitI l (a + 1) W row)).length c1 ∧ Sm w wr #[.int .i64 4, .int .i64 (W : Int), .int .i64 (H : Int), .int .i64 top, .int .i64 a] A1 c1 ((List.range k).map (bitI l (a + 1) W row))) (fun _ si _ => N - (intOf si).toNat)
    case atStart => exact ⟨0, none, 0, by omega, rfl, rfl, HS0.out⟩
    case round =>
      clear HS0 b0 b1' b2' b4
      obtain ⟨k, A1, c1, hk1, rfl, rfl, hsm⟩ := hrel
      obtain ⟨out, hout⟩ : ∃ o, (List.range k).map (bitI l (a + 1) W row) = o := ⟨_, rfl⟩
      have HOL : Hid (out.length = k) := by show _ = _; rw [← hout]; simp
      rw [hout] at hsm ⊢
      have HS := Lib.hid hsm
      have HOUT := Lib.hid hout
      clear hsm hout
      have b1' : wr.cell? ⟨w.heap.size, 1, none⟩ = some (.int .i64 (W : Int)) := by have := HS.out.box; simp [World.cell?, this]
      by_cases hlt : k < N
      · have d2 : decide ((k : Int) < (N : Int)) = true := decide_eq_true (by omega)
        have hkH : k / W < H := by rw [Nat.div_lt_iff_lt_mul (by omega), Nat.mul_comm]; have := HNN.out; omega
        have hkW : k % W < W := Nat.mod_lt _ (by omega)
        have hfit2 : k / W * row + k % W / 8 < n - (a + 1) := by
          have h1 : (k / W + 1) * row ≤ H * row := Nat.mul_le_mul_right row hkH
          rw [Nat.add_mul, Nat.one_mul] at h1
          have h2 := HFIT.out
          rw [Nat.mul_comm] at h2
          omega
        have hsi := HAA.out.below HS.out.bel (Nat.le_refl _)
        obtain ⟨b2, o2, hA2, hc0⟩ := byte_at hsi (show a + 1 + k / W * row + k % W / 8 < n by omega)
        injection hA2 with hA2
        injection hA2 with q1 q2 q3
        subst q1 q2
        have hv := getD_wf HWF.out (a + 1 + k / W * row + k % W / 8)
        have hbit : Hid (bitI l (a + 1) W row k = l.getD (a + 1 + k / W * row + k % W / 8) 0 / 2 ^ (7 - k % W % 8) % 2) := rfl
        obtain ⟨xx, hxx⟩ : ∃ x : Nat, k % W = x := ⟨_, rfl⟩
        obtain ⟨yy, hyy⟩ : ∃ y : Nat, k / W = y := ⟨_, rfl⟩
        have t1 : (k : Int).tmod (W : Int) = (xx : Int) := by rw [Int.tmod_eq_emod_of_nonneg (by omega), ← hxx]; push_cast; rfl
        have t2 : (k : Int).tdiv (W : Int) = (yy : Int) := by rw [Int.tdiv_eq_ediv_of_nonneg (by omega), ← hyy]; push_cast; rfl
        rw [hxx, hyy] at hc0 hv hbit
        rw [hxx] at hkW hfit2
        rw [hyy] at hkH hfit2
        have wz : ((W : Int) == 0) = false := by simp; omega
        generalize l.getD (a + 1 + yy * row + xx / 8) 0 = v at hc0 hv hbit
        clear hxx hyy hsi
        go_wp2_with fail
        go_region
        have hbw := HS.out.lt
        have hbase : ∀ o, w.heap.size + 1 ≤ (wr.alloc o).drew.heap.size := fun o => by show _ ≤ (wr.alloc o).heap.size; rw [World.size_alloc]; omega
        have HN : Hid ((List.range (k + 1)).map (bitI l (a + 1) W row) = out ++ [(v / 2 ^ (7 - xx % 8)).tmod 2]) := by
          show _ = _
          rw [bits_snoc, HOUT.out, hbit.out, Int.tmod_eq_emod_of_nonneg (Int.ediv_nonneg hv.1 (Int.pow_nonneg (by omega)))]
        go_wp2_with (at_builtin; refine Ard.wpList_push rfl (.tmp 63) (.tmp 82) _ rfl (w.heap.size + 1) 3 1 8 _ Tryd.underlying55 Ard.infoInt rfl (by omega) (.slice A1 out.length c1) out.length (out.map (.int .i64)) rfl (HS.out.own.alloc _).drew wr.heap.size 1 1 [.int .i64 ((v / 2 ^ (7 - xx % 8)).tmod 2)] 3 rfl rfl (heap_alloc_new wr _) ?c2 (by omega) ?c3 ?c4 (hbase _) _ rfl ?_)
        case c2 => simp [Value.oneCell']
        case c3 => have := HOL.out; unfold maxLen; omega
        case c4 => have := HOL.out; omega
        intro g cap w5 hown5 hg5 _ _
        have HS5 := Lib.hid (HS.out.drew.push hg5 hown5)
        clear hown5 hg5 HS b1' hbw hbase HOL hc0 t1 t2 wz
        go_wp2_with fail
        go_roundw
        case rel => exact ⟨k + 1, _, _, by omega, by go_num, by rw [HN.out, List.length_append]; rfl, by rw [HN.out]; exact HS5.out⟩
        case measure => simp [intOf]; omega
      · obtain rfl : k = N := by omega
        have d2 : decide ((k : Int) < (k : Int)) = false := decide_eq_false (by omega)
        have HF : Hid (rawM l ⟨4, W, H, top, a⟩ k = some out) := by show _ = _; rw [HR.out, if_neg HFIT.out, HOUT.out]
        go_wp2
        go_ret2
        rw [HF.out]
        exact ⟨HS.out.bel, A1, c1, rfl, Ard.own_base HS.out.own (by omega)⟩
end Go.Proofs.YtbmlopklhgladaaDoor.Pnm
set_option linter.unusedVariables false
set_option linter.unusedSimpArgs false
namespace Go.Proofs.YtbmlopklhgladaaDoor.Pnm
open Go.RowKit K

def greatB (w h most : Int) : Bool := decide (4096 < w ∨ 4096 < h ∨ most < w * h ∨ 65536 < w * h)
theorem mul_bd {w h : Int} (w0 : 0 ≤ w) (w1 : w ≤ 999999999) (h0 : 0 ≤ h) (h1 : h ≤ 999999999) : 0 ≤ w * h ∧ w * h ≤ 999999998000000001 := by
  refine ⟨Int.mul_nonneg w0 h0, ?_⟩
  have := Int.mul_le_mul w1 h1 h0 (by omega)
  omega
set_option maxHeartbeats 1000000 in
theorem rgreat_any {W H most : Int} (w : World) (w0 : 0 ≤ W) (w1 : W ≤ 999999999) (h0 : 0 ≤ H) (h1 : H ≤ 999999999) :
    Calls Tryd.prog 26 #[.int .i64 W, .int .i64 H, .int .i64 most] w fun e w' => e = .returned (.bool (greatB W H most)) ∧ w = w' := by
  have hm := mul_bd w0 w1 h0 h1
  obtain ⟨p, hp⟩ : ∃ p, W * H = p := ⟨_, rfl⟩
  rw [hp] at hm
  have hg : Hid (greatB W H most = decide (4096 < W ∨ 4096 < H ∨ most < p ∨ 65536 < p)) := by show _ = _; unfold greatB; rw [hp]
  have hwr : wrap64 (W * H) = p := by rw [hp, IntWalk.wrap64_in _ (by omega)]
  by_cases c1 : 4096 < W
  · have d1 : decide (4096 < W) = true := decide_eq_true c1
    have HG : Hid (greatB W H most = true) := by show _ = _; rw [hg.out]; exact decide_eq_true (.inl c1)
    clear hg hp
    go_enter Tryd.func26, Tryd.ntmps26
    go_wp2
    go_ret
    exact ⟨by rw [HG.out]; rfl, rfl⟩
  · have d1 : decide (4096 < W) = false := decide_eq_false c1
    by_cases c2 : 4096 < H
    · have d2 : decide (4096 < H) = true := decide_eq_true c2
      have HG : Hid (greatB W H most = true) := by show _ = _; rw [hg.out]; exact decide_eq_true (.inr (.inl c2))
      clear hg hp
      go_enter Tryd.func26, Tryd.ntmps26
      go_wp2
      go_ret
      exact ⟨by rw [HG.out]; rfl, rfl⟩
    · have d2 : decide (4096 < H) = false := decide_eq_false c2
      have hpp : W * H = p := hp
      by_cases c3 : most < p
      · have d3 : decide (most < W * H) = true := decide_eq_true (by rw [hpp]; exact c3)
        have HG : Hid (greatB W H most = true) := by show _ = _; rw [hg.out]; exact decide_eq_true (.inr (.inr (.inl c3)))
        clear hg
        go_enter Tryd.func26, Tryd.ntmps26
        go_wp2
        go_ret
        exact ⟨by rw [HG.out]; rfl, rfl⟩
      · have d3 : decide (most < W * H) = false := decide_eq_false (by rw [hpp]; exact c3)
        have HG : Hid (greatB W H most = decide (65536 < p)) := by
          show _ = _; rw [hg.out]
          by_cases c4 : 65536 < p
          · rw [decide_eq_true c4]; exact decide_eq_true (.inr (.inr (.inr c4)))
          · rw [decide_eq_false c4]; exact decide_eq_false (by omega)
        clear hg
        go_enter Tryd.func26, Tryd.ntmps26
        go_wp2
        go_ret
        exact ⟨by rw [HG.out]; rfl, rfl⟩
set_option maxHeartbeats 1000000 in
theorem great_any {W H most : Int} (w : World) (w0 : 0 ≤ W) (w1 : W ≤ 999999999) (h0 : 0 ≤ H) (h1 : H ≤ 999999999) :
    Calls Tryd.prog 22 #[.int .i64 W, .int .i64 H, .int .i64 most] w fun e w' => e = .returned (.bool (greatB W H most)) ∧ w = w' := by
  have hm := mul_bd w0 w1 h0 h1
  obtain ⟨p, hp⟩ : ∃ p, W * H = p := ⟨_, rfl⟩
  rw [hp] at hm
  have hg : Hid (greatB W H most = decide (4096 < W ∨ 4096 < H ∨ most < p ∨ 65536 < p)) := by show _ = _; unfold greatB; rw [hp]
  have hwr : wrap64 (W * H) = p := by rw [hp, IntWalk.wrap64_in _ (by omega)]
  obtain ⟨mx, hmx⟩ : ∃ m, (if W < H then H else W) = m := ⟨_, rfl⟩
  obtain ⟨mn, hmn⟩ : ∃ m, (if 65536 < most then 65536 else most) = m := ⟨_, rfl⟩
  have h1' : Hid (mx = (if W < H then H else W)) := hmx.symm
  have h2' : Hid (mn = (if 65536 < most then 65536 else most)) := hmn.symm
  by_cases c1 : 4096 < mx
  · have d1 : decide (4096 < mx) = true := decide_eq_true c1
    have HG : Hid (greatB W H most = true) := by
      show _ = _; rw [hg.out]; refine decide_eq_true ?_
      have := h1'.out; split at this <;> omega
    clear hg hp
    go_enter Tryd.func22, Tryd.ntmps22
    go_wp2
    go_ret
    exact ⟨by rw [HG.out]; rfl, rfl⟩
  · have d1 : decide (4096 < mx) = false := decide_eq_false c1
    have HG : Hid (greatB W H most = decide (mn < p)) := by
      show _ = _; rw [hg.out]
      have a1 := h1'.out
      have a2 := h2'.out
      by_cases c4 : mn < p
      · rw [decide_eq_true c4]; refine decide_eq_true ?_
        split at a2 <;> omega
      · rw [decide_eq_false c4]; refine decide_eq_false ?_
        split at a1 <;> split at a2 <;> omega
    clear hg
    go_enter Tryd.func22, Tryd.ntmps22
    go_wp2
    go_ret
    exact ⟨by rw [HG.out]; rfl, rfl⟩
def upI (v top : Int) : Int := if v < 0 ∨ top < v then 0 else (65535 * v + top / 2) / top
theorem upI_bd {v top : Int} (t1 : 1 ≤ top) (v0 : 0 ≤ v) (v1 : v ≤ top) : 0 ≤ (65535 * v + top / 2) / top ∧ (65535 * v + top / 2) / top < 65536 := by
  refine ⟨Int.ediv_nonneg (by omega) (by omega), ?_⟩
  rw [Int.ediv_lt_iff_lt_mul (by omega)]
  omega
set_option maxHeartbeats 1000000 in
theorem rup_any {v top : Int} (w : World) (t1 : 1 ≤ top) (t2 : top ≤ 65535) (v1 : -1000000000 ≤ v) (v2 : v ≤ 1000000000) :
    Calls Tryd.prog 29 #[.int .i64 v, .int .i64 top] w fun e w' => (∃ er, e = .returned (.tuple #[.int .u16 (upI v top), .int .i64 er])) ∧ w = w' := by
  have d1 : decide (top < 1) = false := decide_eq_false (by omega)
  have d2 : decide (65535 < top) = false := decide_eq_false (by omega)
  by_cases c1 : v < 0
  · have d3 : decide (v < 0) = true := decide_eq_true c1
    have HU : Hid (upI v top = 0) := by show _ = _; unfold upI; rw [if_pos (.inl c1)]
    go_enter Tryd.func29, Tryd.ntmps29
    go_wp2
    go_ret2
    rw [HU.out]
    exact ⟨⟨2, rfl⟩, rfl⟩
  · have d3 : decide (v < 0) = false := decide_eq_false c1
    by_cases c2 : top < v
    · have d4 : decide (top < v) = true := decide_eq_true c2
      have HU : Hid (upI v top = 0) := by show _ = _; unfold upI; rw [if_pos (.inr c2)]
      go_enter Tryd.func29, Tryd.ntmps29
      go_wp2
      go_ret2
      rw [HU.out]
      exact ⟨⟨2, rfl⟩, rfl⟩
    · have d4 : decide (top < v) = false := decide_eq_false c2
      have HU : Hid (upI v top = (65535 * v + top / 2) / top) := by show _ = _; unfold upI; rw [if_neg (by omega)]
      have hb := upI_bd (v := v) t1 (by omega) (by omega)
      have e1 : top.tdiv 2 = top / 2 := Int.tdiv_eq_ediv_of_nonneg (by omega)
      have e2 : (65535 * v + top / 2).tdiv top = (65535 * v + top / 2) / top := Int.tdiv_eq_ediv_of_nonneg (by omega)
      have tz : (top == 0) = false := by simp; omega
      obtain ⟨q, hq⟩ : ∃ q, (65535 * v + top / 2) / top = q := ⟨_, rfl⟩
      rw [hq] at hb
      rw [hq] at HU e2
      go_enter Tryd.func29, Tryd.ntmps29
      go_wp2
      go_ret2
      rw [HU.out]
      exact ⟨⟨0, rfl⟩, rfl⟩
set_option maxHeartbeats 1000000 in
theorem up_any {v top : Int} (w : World) (t1 : 1 ≤ top) (t2 : top ≤ 65535) (v1 : -1000000000 ≤ v) (v2 : v ≤ 1000000000) :
    Calls Tryd.prog 24 #[.int .i64 v, .int .i64 top] w fun e w' => (∃ er, e = .returned (.tuple #[.int .u16 (upI v top), .int .i64 er])) ∧ w = w' := by
  have d1 : decide (top < 1) = false := decide_eq_false (by omega)
  have d2 : decide (65535 < top) = false := decide_eq_false (by omega)
  by_cases c1 : v < 0
  · have d3 : decide (v < 0) = true := decide_eq_true c1
    have HU : Hid (upI v top = 0) := by show _ = _; unfold upI; rw [if_pos (.inl c1)]
    go_enter Tryd.func24, Tryd.ntmps24
    go_wp2
    go_ret2
    rw [HU.out]
    exact ⟨⟨2, rfl⟩, rfl⟩
  · have d3 : decide (v < 0) = false := decide_eq_false c1
    by_cases c2 : top < v
    · have d4 : decide (top < v) = true := decide_eq_true c2
      have HU : Hid (upI v top = 0) := by show _ = _; unfold upI; rw [if_pos (.inr c2)]
      go_enter Tryd.func24, Tryd.ntmps24
      go_wp2
      go_ret2
      rw [HU.out]
      exact ⟨⟨2, rfl⟩, rfl⟩
    · have d4 : decide (top < v) = false := decide_eq_false c2
      have HU : Hid (upI v top = (65535 * v + top / 2) / top) := by show _ = _; unfold upI; rw [if_neg (by omega)]
      have hb := upI_bd (v := v) t1 (by omega) (by omega)
      have e1 : top.tdiv 2 = top / 2 := Int.tdiv_eq_ediv_of_nonneg (by omega)
      have e2 : (65535 * v + top / 2).tdiv top = (65535 * v + top / 2) / top := Int.tdiv_eq_ediv_of_nonneg (by omega)
      have tz : (top == 0) = false := by simp; omega
      obtain ⟨q, hq⟩ : ∃ q, (65535 * v + top / 2) / top = q := ⟨_, rfl⟩
      rw [hq] at hb
      rw [hq] at HU e2
      go_enter Tryd.func24, Tryd.ntmps24
      go_wp2
      go_ret2
      rw [HU.out]
      exact ⟨⟨0, rfl⟩, rfl⟩
end Go.Proofs.YtbmlopklhgladaaDoor.Pnm
set_option linter.unusedVariables false
set_option linter.unusedSimpArgs false
namespace Go.Proofs.YtbmlopklhgladaaDoor.Pnm
open Go.RowKit K

theorem headM_bd {l : List Int} {h : Hd} (hh : headM l = some h) : 1 ≤ h.kind ∧ h.kind ≤ 6 ∧ 1 ≤ h.w ∧ h.w ≤ 999999999 ∧ 1 ≤ h.h ∧ h.h ≤ 999999999 ∧ 1 ≤ h.top ∧ h.top ≤ 65535 ∧ h.a ≤ l.length ∧ ((h.kind = 1 ∨ h.kind = 4) → h.top = 1) := by
  unfold headM at hh
  split at hh
  · cases hh
  · rename_i h0
    cases hB : behindM l 2 with
    | none => rw [hB] at hh; cases hh
    | some xa =>
      obtain ⟨x, a⟩ := xa
      rw [hB] at hh
      simp only at hh
      have b1 := behindM_bd hB (by omega)
      split at hh
      · cases hh
      · cases hB2 : behindM l a with
        | none => rw [hB2] at hh; cases hh
        | some ye =>
          obtain ⟨y, e⟩ := ye
          rw [hB2] at hh
          simp only at hh
          have b2 := behindM_bd hB2 (by omega)
          split at hh
          · cases hh
          · split at hh
            · injection hh with hh
              subst hh
              simp only
              exact ⟨by omega, by omega, by omega, by omega, by omega, by omega, by omega, by omega, by omega, fun _ => trivial⟩
            · cases hB3 : behindM l e with
              | none => rw [hB3] at hh; cases hh
              | some tg =>
                obtain ⟨t, g⟩ := tg
                rw [hB3] at hh
                simp only at hh
                have b3 := behindM_bd hB3 (by omega)
                split at hh
                · cases hh
                · rename_i hk _
                  injection hh with hh
                  subst hh
                  simp only
                  exact ⟨by omega, by omega, by omega, by omega, by omega, by omega, by omega, by omega, by omega, fun _ => by omega⟩
def eachOf (kind : Int) : Nat := if kind = 3 ∨ kind = 6 then 3 else 1
def smpsM (l : List Int) (h : Hd) (N : Nat) : Option (List Int) := if h.kind < 4 then (plainM l h.kind h.top h.a N).map (·.1) else rawM l h N
def smp3 (L : List Int) (kind top : Int) (each i k : Nat) : Int := upI (if kind = 1 ∨ kind = 4 then 1 - L.getD (each * i + k % each) 0 else L.getD (each * i + k % each) 0) top
def pix4 (L : List Int) (kind top : Int) (each i : Nat) : List Int := [smp3 L kind top each i 0, smp3 L kind top each i 1, smp3 L kind top each i 2, 65535]
def pixM (L : List Int) (kind top : Int) (each n : Nat) : List Int := (List.range n).flatMap (pix4 L kind top each)
structure Dec where
  err : Int
  w : Int
  h : Int
  pix : List Int
def decM (l : List Int) (most : Int) : Dec :=
  if 4194304 < l.length then ⟨11, 0, 0, []⟩
  else match headM l with
    | none => ⟨9, 0, 0, []⟩
    | some h => if greatB h.w h.h most = true then ⟨11, 0, 0, []⟩
      else match smpsM l h (eachOf h.kind * (h.w.toNat * h.h.toNat)) with
        | none => ⟨9, 0, 0, []⟩
        | some L => ⟨0, h.w, h.h, pixM L h.kind h.top (eachOf h.kind) (h.w.toNat * h.h.toNat)⟩
def DecP (w : World) (d : Dec) (e : Ending) (w' : World) : Prop :=
  ∃ A c, e = .returned (.tuple #[.agg #[.int .i64 d.w, .int .i64 d.h, .slice A d.pix.length c], .int .i64 d.err]) ∧ w'.ownsRow w.heap.size 43 1 (.slice A d.pix.length c) d.pix.length (d.pix.map (.int .u16)) ∧ Below w.heap.size w w'
/-- the samples of whatever kind -/
theorem raw_all {A : Option Addr} {n c : Nat} {l : List Int} {h : Hd} {N : Nat} (w : World) (HA : SI w .u8 A n l) (hwf : ∀ x ∈ l, 0 ≤ x ∧ x < 256) (hw : 1 ≤ h.w) (hw2 : h.w ≤ 4096) (hh : 1 ≤ h.h) (hh2 : h.h ≤ 4096) (hN : h.kind = 4 → N = h.w.toNat * h.h.toNat) (hN2 : N ≤ 1048576) :
    Calls Tryd.prog 28 #[.slice A n c, .agg #[.int .i64 h.kind, .int .i64 h.w, .int .i64 h.h, .int .i64 h.top, .int .i64 h.a], .int .i64 N] w (SmpP w (rawM l h N)) := by
  by_cases hs : n ≤ h.a ∨ ¬ spaceB (l.getD h.a 0) = true
  · exact raw_none w HA hs
  · have hsp : spaceB (l.getD h.a 0) = true := by
      cases hb : spaceB (l.getD h.a 0) with
      | true => rfl
      | false => exact absurd (.inr (by rw [hb]; simp)) hs
    have ha : h.a < n := by
      rcases Nat.lt_or_ge h.a n with h1 | h1
      · exact h1
      · exact absurd (.inl h1) hs
    by_cases hk : h.kind = 4
    · obtain ⟨kind, hw', hh', top, a⟩ := h
      simp only at hw hw2 hh hh2 hN hk hsp ha ⊢
      obtain ⟨W, rfl⟩ := Int.eq_ofNat_of_zero_le (show 0 ≤ hw' by omega)
      obtain ⟨H, rfl⟩ := Int.eq_ofNat_of_zero_le (show 0 ≤ hh' by omega)
      subst hk
      have hN := hN rfl
      simp only [Int.toNat_natCast] at hN
      exact raw_bits w HA hwf ha hsp hN (by omega) (by omega) (by omega) hN2
    · exact raw_vals w HA hwf ha hsp hk hN2
theorem plainM_all {l : List Int} {kind top : Int} {a0 : Nat} : ∀ {k : Nat} {out : List Int} {a : Nat}, plainM l kind top a0 k = some (out, a) → ∀ x ∈ out, 0 ≤ x ∧ x ≤ 999999999 := by
  intro k
  induction k with
  | zero => intro out a h x hx; injection h with h; injection h with h1 h2; subst h1; cases hx
  | succ k ih =>
    intro out a h x hx
    rw [plainM] at h
    cases hp : plainM l kind top a0 k with
    | none => rw [hp] at h; cases h
    | some oa =>
      obtain ⟨o, a1⟩ := oa
      rw [hp] at h
      simp only at h
      cases hs : smpM l kind top a1 (decide (k = 0)) with
      | none => rw [hs] at h; cases h
      | some ve =>
        obtain ⟨v, e⟩ := ve
        rw [hs] at h
        injection h with h
        injection h with h1 h2
        subst h1
        rw [List.mem_append] at hx
        rcases hx with hx | hx
        · exact ih hp x hx
        · simp at hx; subst hx; have := smpM_bd hs; omega
theorem rawV_all {l : List Int} {a size : Nat} {top : Int} (hwf : ∀ x ∈ l, 0 ≤ x ∧ x < 256) : ∀ {k : Nat} {out : List Int}, rawV l a size top k = some out → ∀ x ∈ out, 0 ≤ x ∧ x ≤ 999999999 := by
  intro k
  induction k with
  | zero => intro out h x hx; injection h with h; subst h; cases hx
  | succ k ih =>
    intro out h x hx
    rw [rawV] at h
    cases hp : rawV l a size top k with
    | none => rw [hp] at h; cases h
    | some o =>
      rw [hp] at h
      simp only at h
      split at h
      · cases h
      · injection h with h
        subst h
        rw [List.mem_append] at hx
        rcases hx with hx | hx
        · exact ih hp x hx
        · simp at hx
          subst hx
          unfold valI
          have b1 := getD_wf hwf (a + 2 * k)
          have b2 := getD_wf hwf (a + 2 * k + 1)
          have b3 := getD_wf hwf (a + k)
          split <;> omega
theorem smpsM_all {l : List Int} {h : Hd} {N : Nat} {L : List Int} (hwf : ∀ x ∈ l, 0 ≤ x ∧ x < 256) (hs : smpsM l h N = some L) : L.length = N ∧ ∀ x ∈ L, 0 ≤ x ∧ x ≤ 999999999 := by
  unfold smpsM at hs
  split at hs
  · cases hp : plainM l h.kind h.top h.a N with
    | none => rw [hp] at hs; cases hs
    | some oa =>
      obtain ⟨o, a⟩ := oa
      rw [hp] at hs
      injection hs with hs
      subst hs
      have hlen : ∀ {k : Nat} {out : List Int} {a : Nat}, plainM l h.kind h.top h.a k = some (out, a) → out.length = k := by
        intro k
        induction k with
        | zero => intro out a h; injection h with h; injection h with h1 h2; subst h1; rfl
        | succ k ih =>
          intro out a h1
          rw [plainM] at h1
          cases hp : plainM l h.kind h.top h.a k with
          | none => rw [hp] at h1; cases h1
          | some oa =>
            obtain ⟨o, a1⟩ := oa
            rw [hp] at h1
            simp only at h1
            cases hs : smpM l h.kind h.top a1 (decide (k = 0)) with
            | none => rw [hs] at h1; cases h1
            | some ve =>
              obtain ⟨v, e⟩ := ve
              rw [hs] at h1
              injection h1 with h1
              injection h1 with h1 h2
              subst h1
              rw [List.length_append, ih hp]; rfl
      exact ⟨hlen hp, plainM_all hp⟩
  · unfold rawM at hs
    split at hs
    · cases hs
    · split at hs
      · split at hs
        · cases hs
        · injection hs with hs
          subst hs
          refine ⟨by simp, fun x hx => ?_⟩
          rw [List.mem_map] at hx
          obtain ⟨i, -, rfl⟩ := hx
          unfold bitI
          omega
      · generalize (if 255 < h.top then 2 else 1) = sz at hs
        split at hs
        · cases hs
        · exact ⟨rawV_len hs, rawV_all hwf hs⟩
/-- while the pixels are laid -/
structure Px (wc wr : World) (W H : Int) (A1 : Option Addr) (c1 : Nat) (l : List Int) : Prop where
  bel : Below wc.heap.size wc wr
  row : wr.heap[wc.heap.size]? = some (.cells #[.int .i64 W, .int .i64 H, .slice A1 l.length c1] 26 (0, 0))
  own : wr.ownsRow (wc.heap.size + 1) 43 1 (.slice A1 l.length c1) l.length (l.map (.int .u16))
theorem Px.start (wc : World) (W H : Int) : Px wc (wc.alloc (.cells #[.int .i64 W, .int .i64 H, .slice none 0 0] 26)) W H none 0 [] :=
  ⟨(Below.refl _ _).alloc (Nat.le_refl _) _, heap_alloc_new _ _, World.ownsRow_nil _ _ _ _⟩
def xvK (L : List Int) (kind top : Int) (each i k j : Nat) : Int := if j < k then smp3 L kind top each i j else 0
theorem int_at {w : World} {A : Option Addr} {n a : Nat} {l : List Int} (h : SI w .i64 A n l) (ha : a < n) : ∃ b o, A = some ⟨b, o, none⟩ ∧ w.cell? ⟨b, o + a, none⟩ = some (.int .i64 (l.getD a 0)) := by
  have hl := h.len
  obtain ⟨b, o, hA, hc⟩ := h.sl a (.int .i64 (l.getD a 0)) (by rw [List.getElem?_map, List.getD_eq_getElem?_getD, List.getElem?_eq_getElem (by omega)]; rfl)
  exact ⟨b, o, hA, hc⟩
theorem pixM_succ (L : List Int) (kind top : Int) (each i : Nat) : pixM L kind top each (i + 1) = pixM L kind top each i ++ pix4 L kind top each i := by
  unfold pixM; rw [List.range_succ, List.flatMap_append]; simp
theorem pixM_len (L : List Int) (kind top : Int) (each i : Nat) : (pixM L kind top each i).length = 4 * i := by
  induction i with
  | zero => rfl
  | succ i ih => rw [pixM_succ, List.length_append, ih]; simp [pix4]; omega
/-- a struct of three cells -/
theorem cells3 {w : World} {g T : Nat} {x0 x1 x2 : Value} (h : w.heap[g]? = some (.cells #[x0, x1, x2] T (0, 0))) :
    (w.cell? ⟨g, 0, none⟩ = some x0 ∧ w.cell? ⟨g, 1, none⟩ = some x1 ∧ w.cell? ⟨g, 2, none⟩ = some x2) ∧ w.frozen? ⟨g, 0, none⟩ = false ∧ w.frozen? ⟨g, 1, none⟩ = false ∧ w.frozen? ⟨g, 2, none⟩ = false := by
  simp [World.cell?, World.frozen?, h]
theorem sets3 {w : World} {g T : Nat} {x0 x1 x2 y0 y1 y2 : Value} (h : w.heap[g]? = some (.cells #[x0, x1, x2] T (0, 0))) :
    (((w.setCell ⟨g, 0, none⟩ y0).setCell ⟨g, 1, none⟩ y1).setCell ⟨g, 2, none⟩ y2).heap[g]? = some (.cells #[y0, y1, y2] T (0, 0)) := by
  have hq := (Array.getElem?_eq_some_iff.1 h).1
  simp [World.setCell, Array.getElem?_modify, h]
theorem sets3_al {w : World} {g T : Nat} {x0 x1 x2 y0 y1 y2 : Value} {o : Obj} (h : w.heap[g]? = some (.cells #[x0, x1, x2] T (0, 0))) :
    ((((w.setCell ⟨g, 0, none⟩ y0).setCell ⟨g, 1, none⟩ y1).setCell ⟨g, 2, none⟩ y2).alloc o).heap[g]? = some (.cells #[y0, y1, y2] T (0, 0)) := by
  have h3 := sets3 (y0 := y0) (y1 := y1) (y2 := y2) h
  exact (((Below.refl _ _).alloc (Nat.le_refl _) o).block g (Array.getElem?_eq_some_iff.1 h3).1).trans h3
theorem bel3 {w w2 : World} {x0 x1 x2 : Value} {o : Obj} (h : Below w.heap.size w w2) : Below w.heap.size w ((((w2.setCell ⟨w.heap.size, 0, none⟩ x0).setCell ⟨w.heap.size, 1, none⟩ x1).setCell ⟨w.heap.size, 2, none⟩ x2).alloc o) := by
  have h3 := ((h.setCell (p := ⟨w.heap.size, 0, none⟩) (Nat.le_refl _) x0).setCell (p := ⟨w.heap.size, 1, none⟩) (Nat.le_refl _) x1).setCell (p := ⟨w.heap.size, 2, none⟩) (Nat.le_refl _) x2
  exact h3.alloc h3.size o
theorem own_mono {w : World} {base base' e sz n : Nat} {v : Value} {xs : List Value} (h : w.ownsRow base e sz v n xs) (hb : base' ≤ base) : w.ownsRow base' e sz v n xs := by
  obtain ⟨hl, h | ⟨g, cap, cur, h1, h2, h3⟩⟩ := h
  · exact ⟨hl, .inl h⟩
  · exact ⟨hl, .inr ⟨g, cap, cur, h1, Nat.le_trans hb h2, h3⟩⟩
theorem Px.lt {wc wr : World} {W H : Int} {A1 : Option Addr} {c1 : Nat} {l : List Int} (h : Px wc wr W H A1 c1 l) : wc.heap.size < wr.heap.size := (Array.getElem?_eq_some_iff.1 h.row).1
theorem Px.alloc {wc wr : World} {W H : Int} {A1 : Option Addr} {c1 : Nat} {l : List Int} (h : Px wc wr W H A1 c1 l) (o : Obj) : Px wc (wr.alloc o) W H A1 c1 l :=
  ⟨h.bel.alloc h.bel.size o, (Ard.heap_alloc_old _ _ h.row), h.own.kept (World.grownBy_alloc wr o none) (by cases (Value.slice A1 l.length c1).ownBlock <;> simp)⟩
theorem Px.row_kept {wc wr w' : World} {W H : Int} {A1 : Option Addr} {c1 : Nat} {l : List Int} (h : Px wc wr W H A1 c1 l) (hg : wr.grownBy w' (Value.slice A1 l.length c1).ownBlock) :
    w'.heap[wc.heap.size]? = some (.cells #[.int .i64 W, .int .i64 H, .slice A1 l.length c1] 26 (0, 0)) :=
  (hg.block _ h.lt (fun e => by have := (h.own.lt _ e.symm).1; omega)).trans h.row
/-- the image's row turned -/
def Px3 (wc w' : World) (W H : Int) (A1 : Option Addr) (c1 n : Nat) : World := ((w'.setCell ⟨wc.heap.size, 0, none⟩ (.int .i64 W)).setCell ⟨wc.heap.size, 1, none⟩ (.int .i64 H)).setCell ⟨wc.heap.size, 2, none⟩ (.slice A1 n c1)
theorem Px.push {wc wr w' : World} {W H : Int} {A1 : Option Addr} {c1 g cap : Nat} {l q l2 : List Int} (h : Px wc wr W H A1 c1 l) (hl2 : l2 = l ++ q) (hq : q.length = 4) (hg : wr.grownBy w' (Value.slice A1 l.length c1).ownBlock) (ho : w'.ownsRow (wc.heap.size + 1) 43 1 (.slice (some ⟨g, 0, none⟩) (l.length + 4) cap) (l.length + 4) ((l ++ q).map (.int .u16))) :
    Px wc (Px3 wc w' W H (some ⟨g, 0, none⟩) cap (l.length + 4)) W H (some ⟨g, 0, none⟩) cap l2 := by
  have hrow := h.row_kept hg
  have e : l2.length = l.length + 4 := by rw [hl2, List.length_append, hq]
  refine ⟨?_, ?_, ?_⟩
  · exact (((h.bel.grown hg (by have := h.bel.size; omega) (fun b e => by have := (h.own.lt b e).1; omega)).setCell (p := ⟨wc.heap.size, 0, none⟩) (Nat.le_refl _) _).setCell (p := ⟨wc.heap.size, 1, none⟩) (Nat.le_refl _) _).setCell (p := ⟨wc.heap.size, 2, none⟩) (Nat.le_refl _) _
  · rw [e]; exact sets3 hrow
  · rw [e, hl2]
    exact ownsRow_setCell_below (ownsRow_setCell_below (ownsRow_setCell_below ho (a := ⟨wc.heap.size, 0, none⟩) (Nat.lt_succ_self _) _) (a := ⟨wc.heap.size, 1, none⟩) (Nat.lt_succ_self _) _) (a := ⟨wc.heap.size, 2, none⟩) (Nat.lt_succ_self _) _
set_option maxRecDepth 20000 in
set_option maxHeartbeats 8000000 in
theorem rdecode_any {A : Option Addr} {n c : Nat} {l : List Int} {most : Int} (w : World) (HA : SI w .u8 A n l) (hwf : ∀ x ∈ l, 0 ≤ x ∧ x < 256) :
    Calls Tryd.prog 11 #[.slice A n c, .int .i64 most] w (DecP w (decM l most)) := by
  have hbig := HA.bigb
  have HAA := Lib.hid HA
  have HWF := Lib.hid hwf
  have HLEN := Lib.hid HA.len
  have hb0 : ∀ o, Below w.heap.size w (w.alloc o) := fun o => (Below.refl _ w).alloc (Nat.le_refl _) o
  clear HA hwf
  by_cases hbg : 4194304 < n
  · have HD : Hid (decM l most = ⟨11, 0, 0, []⟩) := by show _ = _; unfold decM; rw [if_pos (by have := HLEN.out; omega)]
    have d1 : decide ((4194304 : Int) < (n : Int)) = true := decide_eq_true (by omega)
    go_enter Tryd.func11, Tryd.ntmps11
    go_wp2
    refine bodyPost_ret (v := .tuple #[.agg #[.int .i64 0, .int .i64 0, .slice none 0 0], .int .i64 11]) ?_ rfl ?_
    · simp [results, Tryd.results11, go_sem]
    · rw [HD.out]; exact ⟨none, 0, rfl, World.ownsRow_nil _ _ _ _, hb0 _⟩
  · have d1 : decide ((4194304 : Int) < (n : Int)) = false := decide_eq_false (by omega)
    have HD0 : Hid (decM l most = match headM l with
      | none => ⟨9, 0, 0, []⟩
      | some h => if greatB h.w h.h most = true then ⟨11, 0, 0, []⟩
        else match smpsM l h (eachOf h.kind * (h.w.toNat * h.h.toNat)) with
          | none => ⟨9, 0, 0, []⟩
          | some L => ⟨0, h.w, h.h, pixM L h.kind h.top (eachOf h.kind) (h.w.toNat * h.h.toNat)⟩) := by
      show _ = _; unfold decM; rw [if_neg (by have := HLEN.out; omega)]
    go_enter Tryd.func11, Tryd.ntmps11
    go_upto_region 3 with (fail)
    have HS1 : Hid (SI (w.alloc (.cells #[.int .i64 0, .int .i64 0, .slice none 0 0] 26)) .u8 A n l) := HAA.out.alloc _
    have hrow1 : (w.alloc (.cells #[.int .i64 0, .int .i64 0, .slice none 0 0] 26)).heap[w.heap.size]? = some (.cells #[.int .i64 0, .int .i64 0, .slice none 0 0] 26 (0, 0)) := heap_alloc_new _ _
    have hb1 := hb0 (.cells #[.int .i64 0, .int .i64 0, .slice none 0 0] 26)
    generalize w.alloc (.cells #[.int .i64 0, .int .i64 0, .slice none 0 0] 26) = W1 at HS1 hrow1 hb1 ⊢
    have hlt1 : w.heap.size < W1.heap.size := (Array.getElem?_eq_some_iff.1 hrow1).1
    go_wp2_with fail
    refine (head_any W1 HS1.out HWF.out).mono ?_
    rintro e w2 ⟨hb2, hres⟩
    have HR2 : Hid (w2.heap[w.heap.size]? = some (.cells #[.int .i64 0, .int .i64 0, .slice none 0 0] 26 (0, 0))) := (hb2.block _ hlt1).trans hrow1
    have HS2 := Lib.hid (HS1.out.below hb2 (Nat.le_refl _))
    have HB2 : Hid (Below w.heap.size w w2) := hb1.trans (hb2.mono (by omega))
    have hlt2 : w.heap.size < w2.heap.size := Nat.lt_of_lt_of_le hlt1 hb2.size
    clear hb1 hb2 hrow1
    cases hhd : headM l with
    | none =>
      rw [hhd] at hres
      obtain ⟨k1, k2, k3, k4, k5, rfl⟩ := hres
      have HD : Hid (decM l most = ⟨9, 0, 0, []⟩) := by show _ = _; rw [HD0.out, hhd]
      obtain ⟨⟨z0, z1, z2⟩, q0, q1, q2⟩ := cells3 HR2.out
      go_wp2_with fail
      refine bodyPost_ret (v := .tuple #[.agg #[.int .i64 0, .int .i64 0, .slice none 0 0], .int .i64 9]) ?_ rfl ?_
      · obtain ⟨⟨r0, r1, r2⟩, -⟩ := cells3 (sets3_al (y0 := .int .i64 0) (y1 := .int .i64 0) (y2 := .slice none 0 0) (o := .cells #[.int .i64 k1, .int .i64 k2, .int .i64 k3, .int .i64 k4, .int .i64 k5] 61) HR2.out)
        simp [results, Tryd.results11, go_sem, r0, r1, r2]
      · rw [HD.out]; exact ⟨none, 0, rfl, World.ownsRow_nil _ _ _ _, bel3 HB2.out⟩
    | some h =>
      rw [hhd] at hres
      have hbd := headM_bd hhd
      have HD1 : Hid (decM l most = if greatB h.w h.h most = true then ⟨11, 0, 0, []⟩
          else match smpsM l h (eachOf h.kind * (h.w.toNat * h.h.toNat)) with
            | none => ⟨9, 0, 0, []⟩
            | some L => ⟨0, h.w, h.h, pixM L h.kind h.top (eachOf h.kind) (h.w.toNat * h.h.toNat)⟩) := by show _ = _; rw [HD0.out, hhd]
      clear HD0 hhd
      obtain rfl := hres
      go_upto_region 6 with (fail)
      have hb3 : Below w2.heap.size w2 (w2.alloc (.cells (hdA h) 61)) := (Below.refl _ _).alloc (Nat.le_refl _) _
      have hrow6 : (w2.alloc (.cells (hdA h) 61)).heap[w2.heap.size]? = some (.cells (hdA h) 61 (0, 0)) := heap_alloc_new _ _
      unfold hdA at hb3 hrow6
      obtain ⟨V, hV⟩ : ∃ V, w2.alloc (.cells #[.int .i64 h.kind, .int .i64 h.w, .int .i64 h.h, .int .i64 h.top, .int .i64 h.a] 61) = V := ⟨_, rfl⟩
      rw [hV] at hb3 hrow6
      try rw [hV]
      clear hV
      have HRV : Hid (V.heap[w.heap.size]? = some (.cells #[.int .i64 0, .int .i64 0, .slice none 0 0] 26 (0, 0))) := (hb3.block _ hlt2).trans HR2.out
      have HR6 := Lib.hid hrow6
      have HSV := Lib.hid (HS2.out.below hb3 (Nat.le_refl _))
      have HBV : Hid (Below w.heap.size w V) := HB2.out.trans (hb3.mono (by omega))
      have hg6 : w.heap.size < w2.heap.size := hlt2
      have hg6V : w2.heap.size < V.heap.size := (Array.getElem?_eq_some_iff.1 hrow6).1
      generalize w2.heap.size = g6 at hg6 hg6V HR6 ⊢
      clear HR2 HS2 HB2 hb3 hrow6 hlt1 hlt2 HS1
      obtain ⟨k1, k2, w1, wx, h1, hx, t1, t2, ha, hkt⟩ := hbd
      have b1 : V.cell? ⟨g6, 1, none⟩ = some (.int .i64 h.w) := by have := HR6.out; simp [World.cell?, this]
      have b2 : V.cell? ⟨g6, 2, none⟩ = some (.int .i64 h.h) := by have := HR6.out; simp [World.cell?, this]
      go_wp2_with fail
      refine (rgreat_any V (by omega) wx (by omega) hx).mono ?_
      rintro e w' ⟨rfl, rfl⟩
      cases hgr : greatB h.w h.h most with
      | true =>
        have HD : Hid (decM l most = ⟨11, 0, 0, []⟩) := by show _ = _; rw [HD1.out, if_pos hgr]
        obtain ⟨⟨z0, z1, z2⟩, q0, q1, q2⟩ := cells3 HRV.out
        go_wp2_with fail
        refine bodyPost_ret (v := .tuple #[.agg #[.int .i64 0, .int .i64 0, .slice none 0 0], .int .i64 11]) ?_ rfl ?_
        · obtain ⟨⟨r0, r1, r2⟩, -⟩ := cells3 (sets3 (y0 := .int .i64 0) (y1 := .int .i64 0) (y2 := .slice none 0 0) HRV.out)
          simp [results, Tryd.results11, go_sem, r0, r1, r2]
        · rw [HD.out]; exact ⟨none, 0, rfl, World.ownsRow_nil _ _ _ _, ((HBV.out.setCell (p := ⟨w.heap.size, 0, none⟩) (Nat.le_refl _) _).setCell (p := ⟨w.heap.size, 1, none⟩) (Nat.le_refl _) _).setCell (p := ⟨w.heap.size, 2, none⟩) (Nat.le_refl _) _⟩
      | false =>
        obtain ⟨kind, hw, hh, top, a⟩ := h
        simp only at k1 k2 w1 wx h1 hx t1 t2 ha hkt hgr b1 b2 HR6 HD1 ⊢
        have hbg2 : hw ≤ 4096 ∧ hh ≤ 4096 ∧ hw * hh ≤ 65536 := by
          unfold greatB at hgr
          have := of_decide_eq_false hgr
          omega
        obtain ⟨W, rfl⟩ := Int.eq_ofNat_of_zero_le (show 0 ≤ hw by omega)
        obtain ⟨H, rfl⟩ := Int.eq_ofNat_of_zero_le (show 0 ≤ hh by omega)
        have HD : Hid (decM l most = match smpsM l ⟨kind, W, H, top, a⟩ (eachOf kind * (W * H)) with
            | none => ⟨9, 0, 0, []⟩
            | some L => ⟨0, W, H, pixM L kind top (eachOf kind) (W * H)⟩) := by
          show _ = _; rw [HD1.out, if_neg (by rw [hgr]; simp)]; simp only [Int.toNat_natCast]
        clear HD1
        have hWH : W * H ≤ 65536 := by have := hbg2.2.2; have e : (W : Int) * (H : Int) = ((W * H : Nat) : Int) := by push_cast; rfl
                                       omega
        have b0 : V.cell? ⟨g6, 0, none⟩ = some (.int .i64 kind) := by have := HR6.out; simp [World.cell?, this]
        obtain ⟨each, heach⟩ : ∃ x, eachOf kind = x := ⟨_, rfl⟩
        rw [heach] at HD
        have HEC : Hid ((kind = 3 ∨ kind = 6 → each = 3) ∧ (¬ (kind = 3 ∨ kind = 6) → each = 1)) := ⟨fun h => by rw [← heach]; unfold eachOf; rw [if_pos h], fun h => by rw [← heach]; unfold eachOf; rw [if_neg h]⟩
        have HEA := Lib.hid heach
        clear heach
        go_upto_region 9 with (fail)
        go_cut [41] (fun v wx => ∃ t : Bool, v = .bool t ∧ Hid ((t = true → each = 3) ∧ (t = false → each = 1)) ∧ wx = V)
        case first =>
          by_cases c3 : kind = 3
          · have d3 : (kind == 3) = true := by simp [c3]
            have HE2 := Lib.hid (HEC.out.1 (.inl c3))
            clear c3
            go_wp2
            go_meet
            exact ⟨true, rfl, ⟨fun _ => HE2.out, fun h => (by cases h)⟩, rfl⟩
          · have d3 : (kind == 3) = false := by simp [c3]
            by_cases c6 : kind = 6
            · have d6 : (kind == 6) = true := by simp [c6]
              have HE2 := Lib.hid (HEC.out.1 (.inr c6))
              clear c6
              go_wp2
              go_meet
              exact ⟨true, rfl, ⟨fun _ => HE2.out, fun h => (by cases h)⟩, rfl⟩
            · have d6 : (kind == 6) = false := by simp [c6]
              have HE2 := Lib.hid (HEC.out.2 (by omega))
              go_wp2
              go_meet
              exact ⟨false, rfl, ⟨fun h => (by cases h), fun _ => HE2.out⟩, rfl⟩
        obtain ⟨tt, rfl, HTT, rfl⟩ := hcut
        go_upto_if 41 with (fail)
        go_cut [8] (fun s8 wx' => s8 = .int .i64 (each : Int) ∧ wx' = wc)
        case first =>
          cases tt with
          | true =>
            have HE := Lib.hid (HTT.out.1 rfl)
            go_wp2
            go_meet
            exact ⟨by rw [HE.out]; rfl, rfl⟩
          | false =>
            have HE := Lib.hid (HTT.out.2 rfl)
            go_wp2
            go_meet
            exact ⟨by rw [HE.out]; rfl, rfl⟩
        obtain ⟨rfl, rfl⟩ := hcut
        generalize wc = U at *
        have heb : each ≤ 3 ∧ 1 ≤ each := by
          cases tt with
          | true => rw [HTT.out.1 rfl]; omega
          | false => rw [HTT.out.2 rfl]; omega
        have he4 : Hid (kind = 4 → each = 1) := fun h4 => HEC.out.2 (by omega)
        obtain ⟨p, hp⟩ : ∃ p : Nat, each * W = p := ⟨_, rfl⟩
        obtain ⟨N, hN⟩ : ∃ N : Nat, each * (W * H) = N := ⟨_, rfl⟩
        have hpH : p * H = N := by rw [← hp, ← hN, Nat.mul_assoc]
        have hpb : p ≤ 12288 := by rw [← hp]; exact Nat.mul_le_mul heb.1 (by omega : W ≤ 4096)
        have hNb : N ≤ 196608 := by rw [← hN]; exact Nat.mul_le_mul heb.1 hWH
        have e1 : (each : Int) * (W : Int) = (p : Int) := by rw [← hp]; push_cast; rfl
        have e2 : (p : Int) * (H : Int) = (N : Int) := by rw [← hpH]; push_cast; rfl
        rw [hN] at HD
        have HN4 : Hid (kind = 4 → N = W * H) := fun h4 => by rw [← hN, he4.out h4, Nat.one_mul]
        have HNE := Lib.hid hN
        clear hN hp hpH HTT HEC he4
        have hV := HBV.out.size
        go_upto_if 44 with (fail)
        go_cut [7, 9] (fun s7 s9 wx => Below U.heap.size U wx ∧ ∃ (t : Bool) (A3 : Option Addr) (m c3 : Nat), s7 = .bool t ∧ (t = true → s9 = .slice A3 m c3) ∧ Hid (match smpsM l ⟨kind, W, H, top, a⟩ N with
          | none => t = false
          | some L => t = true ∧ L.length = m ∧ wx.ownsRow U.heap.size 3 1 (.slice A3 L.length c3) L.length (L.map (.int .i64))))
        case first =>
          by_cases c4 : kind < 4
          · have d4 : decide (kind < 4) = true := decide_eq_true c4
            have HSM : Hid (smpsM l ⟨kind, W, H, top, a⟩ N = (plainM l kind top a N).map (·.1)) := by show _ = _; unfold smpsM; rw [if_pos c4]
            have b3 : U.cell? ⟨g6, 3, none⟩ = some (.int .i64 top) := by have := HR6.out; simp [World.cell?, this]
            have b4 : U.cell? ⟨g6, 4, none⟩ = some (.int .i64 (a : Int)) := by have := HR6.out; simp [World.cell?, this]
            have HCALL := Lib.hid (plain_any (c := c) (h := ⟨kind, W, H, top, a⟩) (N := N) U HSV.out HWF.out (by have := HLEN.out; simp only; omega) (by omega))
            go_wp2_with fail
            refine HCALL.out.mono ?_
            rintro e w3 ⟨hb3, hres⟩
            have HB3 := Lib.hid hb3
            clear hb3
            cases hsm : (plainM l kind top a N).map (·.1) with
            | none =>
              rw [hsm] at hres HSM
              obtain ⟨v, rfl⟩ := hres
              go_wp2
              go_meet
              exact ⟨HB3.out, false, none, 0, 0, rfl, fun h => (by cases h), by rw [HSM.out]; exact rfl⟩
            | some L =>
              rw [hsm] at hres HSM
              obtain ⟨A3, c3, rfl, hown⟩ := hres
              have HO := Lib.hid hown
              clear hown
              go_wp2
              go_meet
              exact ⟨HB3.out, true, A3, L.length, c3, rfl, fun _ => rfl, by rw [HSM.out]; exact ⟨rfl, rfl, HO.out⟩⟩
          · have d4 : decide (kind < 4) = false := decide_eq_false c4
            have HSM : Hid (smpsM l ⟨kind, W, H, top, a⟩ N = rawM l ⟨kind, W, H, top, a⟩ N) := by show _ = _; unfold smpsM; rw [if_neg c4]
            have b3 : U.cell? ⟨g6, 3, none⟩ = some (.int .i64 top) := by have := HR6.out; simp [World.cell?, this]
            have b4 : U.cell? ⟨g6, 4, none⟩ = some (.int .i64 (a : Int)) := by have := HR6.out; simp [World.cell?, this]
            have HCALL := Lib.hid (raw_all (c := c) (h := ⟨kind, W, H, top, a⟩) (N := N) U HSV.out HWF.out w1 hbg2.1 h1 hbg2.2.1 (by simpa using HN4.out) (by omega))
            go_wp2_with fail
            refine HCALL.out.mono ?_
            rintro e w3 ⟨hb3, hres⟩
            have HB3 := Lib.hid hb3
            clear hb3
            cases hsm : rawM l ⟨kind, W, H, top, a⟩ N with
            | none =>
              rw [hsm] at hres HSM
              obtain ⟨v, rfl⟩ := hres
              go_wp2
              go_meet
              exact ⟨HB3.out, false, none, 0, 0, rfl, fun h => (by cases h), by rw [HSM.out]; exact rfl⟩
            | some L =>
              rw [hsm] at hres HSM
              obtain ⟨A3, c3, rfl, hown⟩ := hres
              have HO := Lib.hid hown
              clear hown
              go_wp2
              go_meet
              exact ⟨HB3.out, true, A3, L.length, c3, rfl, fun _ => rfl, by rw [HSM.out]; exact ⟨rfl, rfl, HO.out⟩⟩
        case rest =>
          obtain ⟨hb3, t, A3, m, c3, rfl, hs9, hopt⟩ := hcut
          have HRU : Hid (wc.heap[w.heap.size]? = some (.cells #[.int .i64 0, .int .i64 0, .slice none 0 0] 26 (0, 0))) := (hb3.block _ (by omega)).trans HRV.out
          have HRC : Hid (wc.heap[g6]? = some (.cells #[.int .i64 kind, .int .i64 (W : Int), .int .i64 (H : Int), .int .i64 top, .int .i64 (a : Int)] 61 (0, 0))) := (hb3.block _ hg6V).trans HR6.out
          have HBC : Hid (Below w.heap.size w wc) := HBV.out.trans (hb3.mono hV)
          have hUs := hb3.size
          cases hsm : smpsM l ⟨kind, W, H, top, a⟩ N with
          | none =>
            have ht : t = false := by have := hopt.out; rw [hsm] at this; exact this
            subst ht
            have HDN : Hid (decM l most = ⟨9, 0, 0, []⟩) := by show _ = _; rw [HD.out, hsm]
            clear b0 b1 b2 HR6 HRV HSV hopt hs9 hsm HRC
            obtain ⟨⟨z0, z1, z2⟩, q0, q1, q2⟩ := cells3 HRU.out
            go_wp2_with fail
            refine bodyPost_ret (v := .tuple #[.agg #[.int .i64 0, .int .i64 0, .slice none 0 0], .int .i64 9]) ?_ rfl ?_
            · obtain ⟨⟨r0, r1, r2⟩, -⟩ := cells3 (sets3 (y0 := .int .i64 0) (y1 := .int .i64 0) (y2 := .slice none 0 0) HRU.out)
              simp [results, Tryd.results11, go_sem, r0, r1, r2]
            · rw [HDN.out]; exact ⟨none, 0, rfl, World.ownsRow_nil _ _ _ _, ((HBC.out.setCell (p := ⟨w.heap.size, 0, none⟩) (Nat.le_refl _) _).setCell (p := ⟨w.heap.size, 1, none⟩) (Nat.le_refl _) _).setCell (p := ⟨w.heap.size, 2, none⟩) (Nat.le_refl _) _⟩
          | some L =>
            have ho := hopt.out
            rw [hsm] at ho
            obtain ⟨rfl, hm, hown⟩ := ho
            obtain rfl := hs9 rfl
            have HSM := Lib.hid hsm
            have HDS : Hid (decM l most = ⟨0, W, H, pixM L kind top each (W * H)⟩) := by show _ = _; rw [HD.out, hsm]
            have HLM := Lib.hid hm
            have HOL := Lib.hid hown
            clear b0 b1 b2 HR6 HRV HSV hopt hs9 hsm hown hm HD hb3
            have b1 : wc.cell? ⟨g6, 1, none⟩ = some (.int .i64 (W : Int)) := by have := HRC.out; simp [World.cell?, this]
            have b2 : wc.cell? ⟨g6, 2, none⟩ = some (.int .i64 (H : Int)) := by have := HRC.out; simp [World.cell?, this]
            have hLl := (smpsM_all HWF.out HSM.out).1
            have HLA := Lib.hid (smpsM_all HWF.out HSM.out).2
            have HLL := Lib.hid hLl
            clear hLl
            go_wp2_with fail
            have HP0 := Lib.hid (Px.start wc (W : Int) (H : Int))
            have HSL0 : Hid (SI wc .i64 A3 L.length L) := SI.of_own HOL.out (by show _ * 8 ≤ _; have := HLL.out; omega)
            generalize wc.alloc (.cells #[.int .i64 (W : Int), .int .i64 (H : Int), .slice none 0 0] 26) = V0 at HP0 ⊢
            have ePQ : (W : Int) * (H : Int) = ((W * H : Nat) : Int) := by push_cast; rfl
            obtain ⟨T, hT⟩ : ∃ T : Nat, W * H = T := ⟨_, rfl⟩
            rw [hT] at ePQ hWH
            have HTT := Lib.hid hT
            clear hT b1 b2
            have hgw : g6 < wc.heap.size := by omega
            have hT1 : 1 ≤ T := by have := HTT.out; have h1 : 1 ≤ W * H := Nat.mul_pos (by omega) (by omega); omega
            have HNT : Hid (N = each * T) := by show _ = _; rw [← HNE.out, HTT.out]
            have hLpos : 0 < L.length := by rw [HLL.out, HNT.out]; exact Nat.mul_pos (by omega) (by omega)
            obtain ⟨b3, o3, rfl, -⟩ := int_at HSL0.out hLpos
            have t1t := t1
            have t2t := t2
            clear t1 t2 hLpos
            go_loopw [11] (fun si wr => ∃ (i : Nat) (A1 : Option Addr) (c1 : Nat), i ≤ T ∧ si = .int .i64 i ∧ Px wc wr (W : Int) (H : Int) A1 c1 (pixM L kind top each i)) (fun si _ => T - (intOf si).toNat)
            case atStart => exact ⟨0, none, 0, by omega, rfl, HP0.out⟩
            case round =>
              clear HP0
              obtain ⟨i, A1, c1, hi, rfl, hpx⟩ := hrel
              have HPX := Lib.hid hpx
              have HRW : Hid (wr.heap[g6]? = some (.cells #[.int .i64 kind, .int .i64 (W : Int), .int .i64 (H : Int), .int .i64 top, .int .i64 (a : Int)] 61 (0, 0))) := (hpx.bel.block _ hgw).trans HRC.out
              have HSLr := Lib.hid (HSL0.out.below hpx.bel (Nat.le_refl _))
              clear hpx
              have b1 : wr.cell? ⟨g6, 1, none⟩ = some (.int .i64 (W : Int)) := by have := HRW.out; simp [World.cell?, this]
              have b2 : wr.cell? ⟨g6, 2, none⟩ = some (.int .i64 (H : Int)) := by have := HRW.out; simp [World.cell?, this]
              by_cases hlt : i < T
              · have d1 : decide ((i : Int) < (T : Int)) = true := decide_eq_true (by omega)
                obtain ⟨P, hP⟩ : ∃ P : Nat, each * i = P := ⟨_, rfl⟩
                have ePi : (each : Int) * (i : Int) = (P : Int) := by rw [← hP]; push_cast; rfl
                have hPN : P + each ≤ N := by
                  rw [HNT.out, ← hP]
                  have := Nat.mul_le_mul_left each hlt
                  rw [Nat.mul_succ] at this; exact this
                have HPP := Lib.hid hP
                clear hP
                have b0a : ∀ o, (wr.alloc o).cell? ⟨g6, 0, none⟩ = some (.int .i64 kind) := fun o => by have := ((Below.refl _ wr).alloc (Nat.le_refl _) o).block g6 (Array.getElem?_eq_some_iff.1 HRW.out).1; rw [HRW.out] at this; simp [World.cell?, this]
                have b3a : ∀ o, (wr.alloc o).cell? ⟨g6, 3, none⟩ = some (.int .i64 top) := fun o => by have := ((Below.refl _ wr).alloc (Nat.le_refl _) o).block g6 (Array.getElem?_eq_some_iff.1 HRW.out).1; rw [HRW.out] at this; simp [World.cell?, this]
                go_wp2_with fail
                go_loopw [13] (fun sk wx => ∃ k : Nat, k ≤ 3 ∧ sk = .int .i64 k ∧ wx = wr.alloc (.cells #[.int .u16 (xvK L kind top each i k 0), .int .u16 (xvK L kind top each i k 1), .int .u16 (xvK L kind top each i k 2)] 47)) (fun sk _ => 3 - (intOf sk).toNat)
                case atStart => exact ⟨0, by omega, rfl, rfl⟩
                case round =>
--<pix
                  obtain ⟨k, hk, rfl, rfl⟩ := hrel
                  by_cases hk3 : k < 3
                  · obtain ⟨r, hr⟩ : ∃ r : Nat, k % each = r := ⟨_, rfl⟩
                    have t1 : (k : Int).tmod (each : Int) = (r : Int) := by rw [Int.tmod_eq_emod_of_nonneg (by omega), ← hr]; push_cast; rfl
                    have hre : r < each := by rw [← hr]; exact Nat.mod_lt _ (by omega)
                    have hq : P + r < L.length := by rw [HLL.out]; omega
                    obtain ⟨b4, o4, hA4, hc⟩ := int_at HSLr.out hq
                    injection hA4 with hA4
                    injection hA4 with q1 q2 q3
                    subst q1 q2
                    have hcA : ∀ o, (wr.alloc o).cell? ⟨b3, o3 + (P + r), none⟩ = some (.int .i64 (L.getD (P + r) 0)) := fun o => ((Below.refl _ wr).alloc (Nat.le_refl _) o).cell (p := ⟨b3, o3 + (P + r), none⟩) (World.block_lt_of_cell? wr _ hc) ▸ hc
                    have hxb : 0 ≤ L.getD (P + r) 0 ∧ L.getD (P + r) 0 ≤ 999999999 := by
                      rw [List.getD_eq_getElem?_getD, List.getElem?_eq_getElem hq]
                      exact HLA.out _ (List.getElem_mem hq)
                    have HSM3 : Hid (smp3 L kind top each i k = upI (if kind = 1 ∨ kind = 4 then 1 - L.getD (P + r) 0 else L.getD (P + r) 0) top) := by show _ = _; unfold smp3; rw [hr, HPP.out]
                    generalize L.getD (P + r) 0 = x at hcA hxb HSM3
                    have i1 : (P : Int) + (r : Int) < (m : Int) := by have := HLM.out; omega
                    have ez : ((each : Int) == 0) = false := by simp; omega
                    clear hc hq
                    rcases (by omega : k = 0 ∨ k = 1 ∨ k = 2) with hk0 | hk0 | hk0
                    · subst hk0
                      obtain rfl : r = 0 := by rw [← hr]; exact Nat.zero_mod _
                      simp only [Nat.add_zero] at hcA
                      have i1' : (P : Int) < (m : Int) := by omega
                      clear t1 hr
                      have HX : Hid (#[Value.int .u16 (xvK L kind top each i 1 0), Value.int .u16 (xvK L kind top each i 1 1), Value.int .u16 (xvK L kind top each i 1 2)] = #[Value.int .u16 (smp3 L kind top each i 0), Value.int .u16 0, Value.int .u16 0]) := rfl
                      have HX0 : Hid (#[Value.int .u16 (xvK L kind top each i 0 0), Value.int .u16 (xvK L kind top each i 0 1), Value.int .u16 (xvK L kind top each i 0 2)] = #[Value.int .u16 0, Value.int .u16 0, Value.int .u16 0]) := rfl
                      rw [HX0.out]
                      by_cases hk1 : kind = 1
                      · have d2 : (kind == 1) = true := by simp [hk1]
                        have HK1 := Lib.hid hk1
                        clear hk1
                        have HV : Hid (smp3 L kind top each i 0 = upI (1 - x) top) := by show _ = _; rw [HSM3.out, if_pos (.inl HK1.out)]
                        clear HSM3
                        go_wp2_with fail
                        refine (rup_any (v := 1 - x) _ t1t t2t (by omega) (by omega)).mono ?_
                        rintro e w' ⟨⟨er, rfl⟩, rfl⟩
                        rw [← HV.out]
                        go_wp2_with fail
                        refine ⟨⟨1, by omega, rfl, by rw [HX.out]⟩, ?_⟩
                        simp [intOf]
                      · have d2 : (kind == 1) = false := by simp [hk1]
                        by_cases hk4 : kind = 4
                        · have d3 : (kind == 4) = true := by simp [hk4]
                          have HK4 := Lib.hid hk4
                          clear hk4
                          have HV : Hid (smp3 L kind top each i 0 = upI (1 - x) top) := by show _ = _; rw [HSM3.out, if_pos (.inr HK4.out)]
                          clear HSM3
                          go_wp2_with fail
                          refine (rup_any (v := 1 - x) _ t1t t2t (by omega) (by omega)).mono ?_
                          rintro e w' ⟨⟨er, rfl⟩, rfl⟩
                          rw [← HV.out]
                          go_wp2_with fail
                          refine ⟨⟨1, by omega, rfl, by rw [HX.out]⟩, ?_⟩
                          simp [intOf]
                        · have d3 : (kind == 4) = false := by simp [hk4]
                          have HV : Hid (smp3 L kind top each i 0 = upI (x) top) := by show _ = _; rw [HSM3.out, if_neg (by omega)]
                          clear HSM3
                          go_wp2_with fail
                          refine (rup_any (v := x) _ t1t t2t (by omega) (by omega)).mono ?_
                          rintro e w' ⟨⟨er, rfl⟩, rfl⟩
                          rw [← HV.out]
                          go_wp2_with fail
                          refine ⟨⟨1, by omega, rfl, by rw [HX.out]⟩, ?_⟩
                          simp [intOf]
                    · subst hk0
                      have t1' : (1 : Int).tmod (each : Int) = (r : Int) := t1
                      clear t1 hr
                      have HX : Hid (#[Value.int .u16 (xvK L kind top each i 2 0), Value.int .u16 (xvK L kind top each i 2 1), Value.int .u16 (xvK L kind top each i 2 2)] = #[Value.int .u16 (smp3 L kind top each i 0), Value.int .u16 (smp3 L kind top each i 1), Value.int .u16 0]) := rfl
                      have HX0 : Hid (#[Value.int .u16 (xvK L kind top each i 1 0), Value.int .u16 (xvK L kind top each i 1 1), Value.int .u16 (xvK L kind top each i 1 2)] = #[Value.int .u16 (smp3 L kind top each i 0), Value.int .u16 0, Value.int .u16 0]) := rfl
                      rw [HX0.out]
                      generalize smp3 L kind top each i 0 = s0 at HX ⊢
                      by_cases hk1 : kind = 1
                      · have d2 : (kind == 1) = true := by simp [hk1]
                        have HK1 := Lib.hid hk1
                        clear hk1
                        have HV : Hid (smp3 L kind top each i 1 = upI (1 - x) top) := by show _ = _; rw [HSM3.out, if_pos (.inl HK1.out)]
                        clear HSM3
                        go_wp2_with fail
                        refine (rup_any (v := 1 - x) _ t1t t2t (by omega) (by omega)).mono ?_
                        rintro e w' ⟨⟨er, rfl⟩, rfl⟩
                        rw [← HV.out]
                        go_wp2_with fail
                        refine ⟨⟨2, by omega, rfl, by rw [HX.out]⟩, ?_⟩
                        simp [intOf]
                      · have d2 : (kind == 1) = false := by simp [hk1]
                        by_cases hk4 : kind = 4
                        · have d3 : (kind == 4) = true := by simp [hk4]
                          have HK4 := Lib.hid hk4
                          clear hk4
                          have HV : Hid (smp3 L kind top each i 1 = upI (1 - x) top) := by show _ = _; rw [HSM3.out, if_pos (.inr HK4.out)]
                          clear HSM3
                          go_wp2_with fail
                          refine (rup_any (v := 1 - x) _ t1t t2t (by omega) (by omega)).mono ?_
                          rintro e w' ⟨⟨er, rfl⟩, rfl⟩
                          rw [← HV.out]
                          go_wp2_with fail
                          refine ⟨⟨2, by omega, rfl, by rw [HX.out]⟩, ?_⟩
                          simp [intOf]
                        · have d3 : (kind == 4) = false := by simp [hk4]
                          have HV : Hid (smp3 L kind top each i 1 = upI (x) top) := by show _ = _; rw [HSM3.out, if_neg (by omega)]
                          clear HSM3
                          go_wp2_with fail
                          refine (rup_any (v := x) _ t1t t2t (by omega) (by omega)).mono ?_
                          rintro e w' ⟨⟨er, rfl⟩, rfl⟩
                          rw [← HV.out]
                          go_wp2_with fail
                          refine ⟨⟨2, by omega, rfl, by rw [HX.out]⟩, ?_⟩
                          simp [intOf]
                    · subst hk0
                      have t1' : (2 : Int).tmod (each : Int) = (r : Int) := t1
                      clear t1 hr
                      have HX : Hid (#[Value.int .u16 (xvK L kind top each i 3 0), Value.int .u16 (xvK L kind top each i 3 1), Value.int .u16 (xvK L kind top each i 3 2)] = #[Value.int .u16 (smp3 L kind top each i 0), Value.int .u16 (smp3 L kind top each i 1), Value.int .u16 (smp3 L kind top each i 2)]) := rfl
                      have HX0 : Hid (#[Value.int .u16 (xvK L kind top each i 2 0), Value.int .u16 (xvK L kind top each i 2 1), Value.int .u16 (xvK L kind top each i 2 2)] = #[Value.int .u16 (smp3 L kind top each i 0), Value.int .u16 (smp3 L kind top each i 1), Value.int .u16 0]) := rfl
                      rw [HX0.out]
                      generalize smp3 L kind top each i 0 = s0 at HX ⊢
                      generalize smp3 L kind top each i 1 = s1 at HX ⊢
                      by_cases hk1 : kind = 1
                      · have d2 : (kind == 1) = true := by simp [hk1]
                        have HK1 := Lib.hid hk1
                        clear hk1
                        have HV : Hid (smp3 L kind top each i 2 = upI (1 - x) top) := by show _ = _; rw [HSM3.out, if_pos (.inl HK1.out)]
                        clear HSM3
                        go_wp2_with fail
                        refine (rup_any (v := 1 - x) _ t1t t2t (by omega) (by omega)).mono ?_
                        rintro e w' ⟨⟨er, rfl⟩, rfl⟩
                        rw [← HV.out]
                        go_wp2_with fail
                        refine ⟨⟨3, by omega, rfl, by rw [HX.out]⟩, ?_⟩
                        simp [intOf]
                      · have d2 : (kind == 1) = false := by simp [hk1]
                        by_cases hk4 : kind = 4
                        · have d3 : (kind == 4) = true := by simp [hk4]
                          have HK4 := Lib.hid hk4
                          clear hk4
                          have HV : Hid (smp3 L kind top each i 2 = upI (1 - x) top) := by show _ = _; rw [HSM3.out, if_pos (.inr HK4.out)]
                          clear HSM3
                          go_wp2_with fail
                          refine (rup_any (v := 1 - x) _ t1t t2t (by omega) (by omega)).mono ?_
                          rintro e w' ⟨⟨er, rfl⟩, rfl⟩
                          rw [← HV.out]
                          go_wp2_with fail
                          refine ⟨⟨3, by omega, rfl, by rw [HX.out]⟩, ?_⟩
                          simp [intOf]
                        · have d3 : (kind == 4) = false := by simp [hk4]
                          have HV : Hid (smp3 L kind top each i 2 = upI (x) top) := by show _ = _; rw [HSM3.out, if_neg (by omega)]
                          clear HSM3
                          go_wp2_with fail
                          refine (rup_any (v := x) _ t1t t2t (by omega) (by omega)).mono ?_
                          rintro e w' ⟨⟨er, rfl⟩, rfl⟩
                          rw [← HV.out]
                          go_wp2_with fail
                          refine ⟨⟨3, by omega, rfl, by rw [HX.out]⟩, ?_⟩
                          simp [intOf]
                  · obtain rfl : k = 3 := by omega
                    have HX : Hid (#[Value.int .u16 (xvK L kind top each i 3 0), Value.int .u16 (xvK L kind top each i 3 1), Value.int .u16 (xvK L kind top each i 3 2)] = #[Value.int .u16 (smp3 L kind top each i 0), Value.int .u16 (smp3 L kind top each i 1), Value.int .u16 (smp3 L kind top each i 2)]) := rfl
                    rw [HX.out]
                    have HP4 : Hid (pixM L kind top each (i + 1) = pixM L kind top each i ++ [smp3 L kind top each i 0, smp3 L kind top each i 1, smp3 L kind top each i 2, 65535]) := pixM_succ L kind top each i
                    have HLN := Lib.hid (pixM_len L kind top each i)
                    generalize smp3 L kind top each i 0 = s0 at HP4 ⊢
                    generalize smp3 L kind top each i 1 = s1 at HP4 ⊢
                    generalize smp3 L kind top each i 2 = s2 at HP4 ⊢
                    generalize pixM L kind top each i = px at HPX HP4 HLN ⊢
                    have HPA := Lib.hid (HPX.out.alloc (.cells #[.int .u16 s0, .int .u16 s1, .int .u16 s2] 47))
                    have hc3 := heap_alloc_new wr (.cells #[.int .u16 s0, .int .u16 s1, .int .u16 s2] 47)
                    have hs3 : (wr.alloc (.cells #[.int .u16 s0, .int .u16 s1, .int .u16 s2] 47)).heap.size = wr.heap.size + 1 := World.size_alloc _ _
                    generalize wr.alloc (.cells #[.int .u16 s0, .int .u16 s1, .int .u16 s2] 47) = W2 at HPA hc3 hs3 ⊢
                    have HHP := Lib.hid HPA.out.row
                    obtain ⟨⟨m0, m1, m2⟩, n0, n1, n2⟩ := cells3 HPA.out.row
                    obtain ⟨⟨j0, j1, j2⟩, -⟩ := cells3 hc3
                    have hsz := HPA.out.bel.size
                    have HLT := Lib.hid HPA.out.lt
                    clear b1 b2 b0a b3a hc3
                    go_wp2_with fail
                    refine (Ard.add_any (base := wc.heap.size + 1) W2 HPA.out.own (by have := HLN.out; omega) (Nat.succ_le_of_lt HLT.out)).mono ?_
                    rintro e w' ⟨g1, cap1, rfl, hown1, hgr1, -, hlt1⟩
                    have HNX := Lib.hid (HPA.out.push (HP4.out) rfl hgr1 hown1)
                    have HRW1 := Lib.hid (HPA.out.row_kept hgr1)
                    obtain ⟨⟨m0, m1, m2⟩, n0, n1, n2⟩ := cells3 HRW1.out
                    clear hown1 hgr1
                    go_wp2_with fail
                    refine ⟨⟨i + 1, some ⟨g1, 0, none⟩, cap1, by omega, by go_num, HNX.out⟩, ?_⟩
                    simp [intOf]; omega
--pix>
              · obtain rfl : i = T := by omega
                have d1 : decide ((i : Int) < (i : Int)) = false := by simp
                have HRUr : Hid (wr.heap[w.heap.size]? = some (.cells #[.int .i64 0, .int .i64 0, .slice none 0 0] 26 (0, 0))) := (HPX.out.bel.block _ (by omega)).trans HRU.out
                obtain ⟨⟨z0, z1, z2⟩, q0, q1, q2⟩ := cells3 HRUr.out
                obtain ⟨⟨m0, m1, m2⟩, -⟩ := cells3 HPX.out.row
                have HDT : Hid (decM l most = ⟨0, W, H, pixM L kind top each i⟩) := by show _ = _; rw [HDS.out, HTT.out]
                have hne : w.heap.size ≠ wc.heap.size := by omega
                go_wp2_with fail
                refine bodyPost_ret (v := .tuple #[.agg #[.int .i64 (W : Int), .int .i64 (H : Int), .slice A1 (pixM L kind top each i).length c1], .int .i64 0]) ?_ rfl ?_
                · obtain ⟨⟨r0, r1, r2⟩, -⟩ := cells3 (sets3 (y0 := .int .i64 (W : Int)) (y1 := .int .i64 (H : Int)) (y2 := .slice A1 (pixM L kind top each i).length c1) HRUr.out)
                  simp [results, Tryd.results11, go_sem, r0, r1, r2]
                · rw [HDT.out]
                  have hlo : w.heap.size < wc.heap.size + 1 := by omega
                  refine ⟨A1, c1, rfl, ?_, ((HBC.out.trans (HPX.out.bel.mono (by omega))).setCell (p := ⟨w.heap.size, 0, none⟩) (Nat.le_refl _) _ |>.setCell (p := ⟨w.heap.size, 1, none⟩) (Nat.le_refl _) _).setCell (p := ⟨w.heap.size, 2, none⟩) (Nat.le_refl _) _⟩
                  exact own_mono (ownsRow_setCell_below (ownsRow_setCell_below (ownsRow_setCell_below HPX.out.own (a := ⟨w.heap.size, 0, none⟩) hlo _) (a := ⟨w.heap.size, 1, none⟩) hlo _) (a := ⟨w.heap.size, 2, none⟩) hlo _) (Nat.le_of_lt hlo)
end Go.Proofs.YtbmlopklhgladaaDoor.Pnm
