/-
  Walks: deflate's pieces.
-/
import Derived.Test.YtmgbjgjlddifaaaGreatZG21
import Derived.Test.YtmgbjgjlddifaaaGreatZG14
import Derived.StillTailTactics
import Derived.Deep.DeepCutAuto
import Derived.Deep.QuietTactic
import Derived.BigQuiet
set_option linter.unusedVariables false
set_option linter.unusedSimpArgs false
namespace Go.Proofs.YtmgbjgjlddifaaaGreat.Def
open Go.RowKit K MapG Wrt

theorem infoP : (Tryz.prog.info? 77).map (fun i => (i.zero, i.size, i.bytes)) = some (some (.agg #[.int .u8 0, .int .i64 0, .int .i64 0]), 3, 24) := by kernel_rfl
theorem GM.empty {w : World} {B base : Nat} (hb : w.heap[B]? = some (.map #[] 0)) (h1 : B < base) (h2 : base ≤ w.heap.size) : GM w B base (fun _ => []) (fun _ => False) :=
  ⟨h1, h2, fun b h => h.elim, #[], 0, hb, MapKept.stamped_empty 0, by simp, fun t _ _ => rfl, by simp⟩
theorem plF_zero (b : List Int) : plF b 0 = fun _ => [] := by funext t; unfold plF places; simp
structure Pj (w wr : World) (A : Option Addr) (n c : Nat) (b : List Int) (i : Nat) (v : Value) (ps : List Pc) : Prop where
  bel : Below w.heap.size w wr
  cb : wr.cell? ⟨w.heap.size, 0, none⟩ = some (.slice A n c)
  cp : wr.cell? ⟨w.heap.size + 2, 0, none⟩ = some (.map (some (w.heap.size + 1)))
  gm : ∃ R, GM wr (w.heap.size + 1) (w.heap.size + 3) (plF b i) R ∧ ∀ g, v.ownBlock = some g → ¬ R g
  own : wr.ownsRow (w.heap.size + 3) 77 3 v ps.length (ps.flatMap pcV)
section
variable {w wr w2 : World} {A : Option Addr} {n c i : Nat} {b : List Int} {v v' : Value} {ps : List Pc} {p : Pc}
theorem Pj.hi (h : Pj w wr A n c b i v ps) : w.heap.size + 3 ≤ wr.heap.size := by
  obtain ⟨R, hG, -⟩ := h.gm
  exact hG.hi
theorem Pj.below (h : Pj w wr A n c b i v ps) (hb : Below wr.heap.size wr w2) : Pj w w2 A n c b i v ps := by
  have hh := h.hi
  obtain ⟨R, hG, hR⟩ := h.gm
  exact ⟨h.bel.trans (hb.mono h.bel.size), (hb.cell (p := ⟨w.heap.size, 0, none⟩) (by show w.heap.size < _; omega)).trans h.cb, (hb.cell (p := ⟨w.heap.size + 2, 0, none⟩) (by show w.heap.size + 2 < _; omega)).trans h.cp,
    ⟨R, hG.below hb, hR⟩, own_frame h.own (fun g hg => hb.block g (h.own.lt g hg).2)⟩
theorem Pj.noted (h : Pj w wr A n c b i v ps) {R R' : Nat → Prop} (hG : GM wr (w.heap.size + 1) (w.heap.size + 3) (plF b i) R) (hR : ∀ g, v.ownBlock = some g → ¬ R g)
    (hG2 : GM w2 (w.heap.size + 1) (w.heap.size + 3) (plF b (i+1)) R') (hC : Chg wr w2 (fun x => x = w.heap.size + 1 ∨ R x)) (hR2 : ∀ x, R' x → R x ∨ wr.heap.size ≤ x) : Pj w w2 A n c b (i+1) v ps := by
  have hh := h.hi
  have hlo := hG.rlo
  have hv := h.own.lt
  refine ⟨h.bel.trans (hC.below h.bel.size (fun x hx => by rcases hx with rfl | hx; omega; have := (hlo x hx).1; omega)), hC.cell h.cb (fun hx => ?_), hC.cell h.cp (fun hx => ?_), ⟨R', hG2, fun g hg hr => ?_⟩, own_frame h.own (fun g hg => hC.block g (hv g hg).2 (fun hx => ?_))⟩
  · rcases hx with hx | hx
    · simp only at hx; omega
    · have := (hlo _ hx).1; simp only at this; omega
  · rcases hx with hx | hx
    · simp only at hx; omega
    · have := (hlo _ hx).1; simp only at this; omega
  · rcases hR2 g hr with e | e
    · exact hR g hg e
    · have := (hv g hg).2; omega
  · rcases hx with hx | hx
    · have := (hv g hg).1; omega
    · exact hR g hg hx
theorem Pj.pushed {o : Obj} (h : Pj w wr A n c b i v ps) (hown : w2.ownsRow (w.heap.size + 3) 77 3 v' (ps.length + 1) (ps.flatMap pcV ++ pcV p)) (hg : (wr.alloc o).grownBy w2 v.ownBlock)
    (hloc : v'.ownBlock = v.ownBlock ∨ v'.ownBlock = some (wr.heap.size + 1)) : Pj w w2 A n c b i v' (ps ++ [p]) := by
  have hh := h.hi
  obtain ⟨R, hG, hR⟩ := h.gm
  have h1 := h.below (w2 := wr.alloc o) ((Below.refl _ _).alloc (Nat.le_refl _) _)
  have hne : ∀ x, x < wr.heap.size → (x < w.heap.size + 3 ∨ R x) → w2.heap[x]? = (wr.alloc o).heap[x]? := fun x hx hr => hg.block x (by simp; omega) (fun e => by
    rcases hr with hr | hr
    · have := (h.own.lt x e.symm).1; omega
    · exact hR x e.symm hr)
  have hbel : Below w.heap.size (wr.alloc o) w2 := ⟨hg.os, hg.tape, hg.output, hg.size, fun x hx => hne x (by omega) (.inl (by omega))⟩
  have hG1 := hG.below (w1 := wr.alloc o) ((Below.refl _ _).alloc (Nat.le_refl _) _)
  refine ⟨(h.bel.alloc h.bel.size _).trans hbel, ?_, ?_, ⟨R, hG1.frame hg.size (fun x hx => ?_), fun g hg' hr => ?_⟩, ?_⟩
  · rw [World.cell?_of_block (hne w.heap.size (by omega) (.inl (by omega)))]; exact h1.cb
  · rw [World.cell?_of_block (hne (w.heap.size + 2) (by omega) (.inl (by omega)))]; exact h1.cp
  · rcases hx with rfl | hx
    · exact hne _ (by omega) (.inl (by omega))
    · exact hne _ (hG.rlo x hx).2 (.inr hx)
  · rcases hloc with e | e
    · exact hR g (by rw [← e]; exact hg') hr
    · rw [e] at hg'
      injection hg' with hg'
      have := (hG.rlo g hr).2
      omega
  · rw [List.flatMap_append, List.length_append]
    simpa using hown
end
/-- what pieces' loop keeps -/
structure Pi (w wr : World) (A : Option Addr) (n c : Nat) (b : List Int) (i : Nat) (v : Value) (ps : List Pc) : Prop where
  j : Pj w wr A n c b i v ps
  gh : ∃ f, n ≤ i + f ∧ ps ++ piecesM b f i = piecesM b n 0
  le : ps.length ≤ i
theorem Pi.next {w wr w3 : World} {A : Option Addr} {n c i : Nat} {b : List Int} {v v' : Value} {ps : List Pc} (h : Pi w wr A n c b i v ps) (hlen : b.length = n) (hin : i < n)
    (hJ : Pj w w3 A n c b (i + if (best b i).1 < 3 then 1 else (best b i).1) v' (ps ++ [pieceAt b i])) : Pi w w3 A n c b (i + if (best b i).1 < 3 then 1 else (best b i).1) v' (ps ++ [pieceAt b i]) := by
  have hs := step_pos b i
  obtain ⟨f, h1, h2⟩ := h.gh
  have hle := h.le
  refine ⟨hJ, ?_, by rw [List.length_append]; simp; omega⟩
  obtain ⟨f', rfl⟩ : ∃ f', f = f' + 1 := ⟨f - 1, by omega⟩
  refine ⟨f', by omega, ?_⟩
  rw [piecesM, if_pos (by omega)] at h2
  rw [← h2, List.append_assoc]; rfl
theorem sl_pc (w : World) (p : Pc) (T : TypeId) : Sl (w.alloc (.cells (pcV p).toArray T)) (some ⟨w.heap.size, 0, none⟩) (pcV p) := fun j u hu =>
  ⟨w.heap.size, 0, rfl, by rw [World.cell?_alloc_new]; simpa using hu⟩
theorem one_pc (p : Pc) : ∀ u ∈ pcV p, u.oneCell' = true := fun u hu => by
  unfold pcV at hu
  simp at hu
  rcases hu with rfl | rfl | rfl <;> rfl
theorem Pi.below {w wr w2 : World} {A : Option Addr} {n c i : Nat} {b : List Int} {v : Value} {ps : List Pc} (h : Pi w wr A n c b i v ps) (hb : Below wr.heap.size wr w2) : Pi w w2 A n c b i v ps := ⟨h.j.below hb, h.gh, h.le⟩
def PiecesPost (w : World) (b : List Int) (e : Ending) (w' : World) : Prop :=
  ∃ A c, e = .returned (.slice A (piecesM b b.length 0).length c) ∧ SP w' A (piecesM b b.length 0).length (piecesM b b.length 0) ∧ Below w.heap.size w w' ∧ ∀ a, A = some a → w.heap.size ≤ a.block ∧ a.block < w'.heap.size
set_option maxRecDepth 20000 in
set_option maxHeartbeats 8000000 in
theorem pieces_any {A : Option Addr} {n c : Nat} {b : List Int} (w : World) (HA : SI w .u8 A n b) (hc : n ≤ c) (hn : n ≤ 2000000) (hwf : ∀ x ∈ b, 0 ≤ x ∧ x < 256) :
    Calls Tryz.prog 15 #[.slice A n c] w (PiecesPost w b) := by
  have hlen := HA.len
  have HAA := Lib.hid HA
  have HWF := Lib.hid hwf
  clear HA hwf
  have hmm := @run_makeMap Tryz.prog
  have hmf : ∀ (fn : Fn) (first cap : Array Value) (w : World), (Instr.makeFunc fn first cap).run Tryz.prog w = .ok (.func fn first cap) w := fun _ _ _ _ => rfl
  go_enter Tryz.func15, Tryz.ntmps15
  go_wp2_with fail
  have HST : Hid (Pi w (((w.alloc (.cells #[.slice A n c] 22)).alloc (.map #[] 0)).alloc (.cells #[.map (some (w.heap.size + 1))] 73)) A n c b 0 (.slice none 0 0) []) := by
    show Pi _ _ _ _ _ _ _ _ _
    have h1 : (w.alloc (.cells #[.slice A n c] 22)).heap.size = w.heap.size + 1 := by simp
    have h2 : ((w.alloc (.cells #[.slice A n c] 22)).alloc (.map #[] 0)).heap.size = w.heap.size + 2 := by simp
    have h3 : (((w.alloc (.cells #[.slice A n c] 22)).alloc (.map #[] 0)).alloc (.cells #[.map (some (w.heap.size + 1))] 73)).heap.size = w.heap.size + 3 := by simp
    have k1 : ((w.alloc (.cells #[.slice A n c] 22)).alloc (.map #[] 0)).heap[w.heap.size + 1]? = some (.map #[] 0) := by
      have := heap_alloc_new (w.alloc (.cells #[.slice A n c] 22)) (.map #[] 0)
      rwa [h1] at this
    refine ⟨⟨((Below.refl _ _).alloc (Nat.le_refl _) _).alloc (by omega) _ |>.alloc (by omega) _, (((((Below.refl _ _).alloc (Nat.le_refl _) (.map #[] 0)).alloc (by simp) (.cells #[.map (some (w.heap.size + 1))] 73)).cell (p := ⟨w.heap.size, 0, none⟩) (by show w.heap.size < _; omega)).trans (by simp)), ?_, ⟨fun _ => False, ?_, fun g hg h => h⟩, World.ownsRow_nil _ _ _ _⟩, ⟨n, by omega, rfl⟩, Nat.le_refl _⟩
    · have := World.cell?_alloc_new (w := (w.alloc (.cells #[.slice A n c] 22)).alloc (.map #[] 0)) #[.map (some (w.heap.size + 1))] 73 0
      rw [h2] at this
      simpa using this
    · rw [plF_zero]
      exact GM.empty ((Below.heap_alloc _ _ _ (by omega)).trans k1) (by omega) (by omega)
  generalize (World.alloc (World.alloc (World.alloc w _) _) _) = W at HST ⊢
  clear hmm hmf
  go_loopw [4, 6, 7, 8, 9, 11, 12] (fun vo si _ _ _ _ _ wr => ∃ (i : Nat) (ps : List Pc), i ≤ n ∧ si = .int .i64 i ∧ Pi w wr A n c b i vo ps) (fun _ si _ _ _ _ _ _ => n - (intOf si).toNat)
  case atStart => exact ⟨0, [], by omega, rfl, HST.out⟩
  case round =>
    clear HST
    obtain ⟨i, ps, hi, rfl, hP⟩ := hrel
    have HP := Lib.hid hP
    have hb0 := hP.j.cb
    have hb2 := hP.j.cp
    have hh := hP.j.hi
    clear hP
    by_cases hin : i < n
    · have hd : decide ((i : Int) < (n : Int)) = true := decide_eq_true (by omega)
      have hgo : ∀ (e1 e2 : Prop), e1 → e2 → e1 ∧ e2 := fun _ _ a b => ⟨a, b⟩
      clear hgo
      go_upto_if 23 with (fail)
      go_cut [7, 8] (fun sb sa wx => sb = .int .i64 ((best b i).1 : Nat) ∧ sa = .int .i64 ((best b i).2 : Nat) ∧ Pi w wx A n c b i u4 ps)
      case first =>
        by_cases h2 : i + 2 < n
        · have hd2 : decide ((i : Int) + 2 < (n : Int)) = true := decide_eq_true (by omega)
          have HOKT := Lib.hid (tri_ok (b := b) HWF.out (i := i) (by omega))
          obtain ⟨bb, off, x0, rfl, c0, e0, hlt⟩ := (HAA.out.below HP.out.j.bel (Nat.le_refl _)).cells (i := i) hin
          obtain ⟨bb1, off1, x1, q1, c1, e1, -⟩ := (HAA.out.below HP.out.j.bel (Nat.le_refl _)).cells (i := i + 1) (by omega)
          obtain ⟨bb2, off2, x2, q2, c2, e2, -⟩ := (HAA.out.below HP.out.j.bel (Nat.le_refl _)).cells (i := i + 2) (by omega)
          injection q1 with q1; injection q1 with q1 q1'
          injection q2 with q2; injection q2 with q2 q2'
          subst q1 q1' q2 q2'
          rw [← Nat.add_assoc] at c1 c2
          have htri : tri b i = (x0, x1, x2) := by unfold tri; rw [getD_of e0.out, getD_of e1.out, getD_of e2.out]
          have HTR := Lib.hid htri
          have hsp : ∀ (a : Addr) (c : Nat) (w : World), (Instr.arrayAt 74 (.slice (some a) 3 c)).run Tryz.prog w = .ok (.pointer (some a)) w := fun _ _ _ => by kernel_rfl
          clear htri
          obtain ⟨R, hG, hR⟩ := HP.out.j.gm
          obtain ⟨v, hlk, hvo⟩ := (hG.below (w1 := wr.drew) (Below.refl wr.heap.size wr).drew).lookup HOKT.out
          rw [HTR.out] at hlk
          unfold triV at hlk
          simp only at hlk
          obtain ⟨A', c', rfl⟩ := own_form hvo
          have hml := places_len b i (tri b i)
          have hcands : cands b i = (places b i (tri b i)).drop ((places b i (tri b i)).length - 16) := rfl
          have hpl : plF b i (tri b i) = (places b i (tri b i)).map (fun p : Nat => (p : Int)) := rfl
          have HBST : Hid (best b i = (cands b i).foldl (pick b i) (0, 0)) := by show _ = _; unfold best; rw [if_pos (by omega)]
          have HMEM : Hid (∀ p ∈ cands b i, p < i ∧ p + 2 < b.length ∧ tri b p = tri b i) := fun p hp => cands_mem hp
          rw [hpl, List.length_map] at hml
          rw [hpl] at hvo
          rw [hpl, List.length_map] at hlk
          generalize places b i (tri b i) = L at hvo hml hlk hcands
          generalize cands b i = C at hcands HBST HMEM
          rw [List.length_map] at hvo
          generalize hm : L.length = m at hvo hml hlk hcands
          have HCD := Lib.hid hcands
          have HM := Lib.hid hm
          have hcap : m ≤ c' := by
            rcases hvo.2 with ⟨hv, h0⟩ | ⟨g, cap, cur, hv, -, -, h1, -⟩
            · injection hv with _ h1 h2; omega
            · injection hv with _ _ h2; omega
          have hAn : 0 < m → ∃ g, A' = some ⟨g, 0, none⟩ := fun h0 => by
            rcases hvo.2 with ⟨hv, h1⟩ | ⟨g, cap, cur, hv, -⟩
            · omega
            · injection hv with hv; exact ⟨g, hv⟩
          have hvo2 : wr.ownsRow (w.heap.size + 3) 3 1 (.slice A' m c') m ((L.map (fun p : Nat => (p : Int))).map (.int .i64)) := own_frame hvo (fun _ _ => rfl)
          have HVO := Lib.hid hvo2
          have HGG := Lib.hid hG
          have HRR := Lib.hid hR
          clear hvo hvo2 hG hR hpl hcands hm
          have hw3 : IntKind.i64.wrap ((i : Int) + 3) = (i : Int) + 3 := IntWalk.i64_in _ (by omega)
          have j0 : (0 : Int) ≤ (i : Int) := by omega
          have j1 : (i : Int) ≤ (i : Int) + 3 := by omega
          have j2 : (i : Int) + 3 ≤ (c : Int) := by omega
          have j3 : (i : Int) + 3 ≤ (n : Int) := by omega
          have hci : ¬ c = i := by omega
          have h33 : ((i : Int) + 3).toNat - i = 3 := by omega
          have HLK := Lib.hid hlk
          clear hlk
          go_wp2_with fail
          refine wp_region_still_tail 8 (by kernel_rfl) (by kernel_rfl) ?_
          simp only [List.take_succ_cons, List.take_zero, List.drop_succ_cons, List.drop_zero]
          repeat still_step
          refine wpStill_nil ?_
          change wpList _ _ _ _ _ (World.drew _)
          go_wp2_with fail
          rw [HLK.out]
          clear c0 c1 c2 hsp hw3 j0 j1 j2 j3 hci h33 e0 e1 e2 HLK HTR HOKT
          have hm16 : IntKind.i64.wrap ((m : Int) - 16) = (m : Int) - 16 := IntWalk.i64_in _ (by omega)
          have HBD : Hid (Below wr.heap.size wr wr.drew) := (Below.refl wr.heap.size wr).drew
          generalize wr.drew = wd at HBD ⊢
          by_cases hm0 : m = 0
          · have hC0 : Hid (C = []) := by
              show _ = _
              rw [HCD.out, List.length_eq_zero_iff.1 (HM.out.trans hm0)]; simp
            have hmx : max (0 : Int) ((m : Int) - 16) = 0 := by omega
            subst hm0
            go_wp2_with fail
            refine wp_loop_rounds 1 ?_
            rw [rounds_succ]
            go_wp2
            go_meet
            case rel => exact ⟨by rw [HBST.out, hC0.out]; rfl, by rw [HBST.out, hC0.out]; rfl, HP.out.below HBD.out⟩
          · obtain ⟨g, rfl⟩ := hAn (by omega)
            by_cases hmb : m ≤ 16
            · have hmx : max (0 : Int) ((m : Int) - 16) = 0 := by omega
              have hcm : ¬ c' = 0 := by omega
              go_wp2_with fail
              clear hm16 hmx hcm hAn
              have hClen : Hid (C.length = m) := by show _ = _; rw [HCD.out]; simp only [List.length_drop, HM.out]; try omega
              go_loopw [7, 8, 11, 12, 40] (fun sb sa _ _ si wx => ∃ k : Nat, k ≤ m ∧ si = .int .i64 k ∧ sb = .int .i64 (((C.take k).foldl (pick b i) (0, 0)).1 : Nat) ∧ sa = .int .i64 (((C.take k).foldl (pick b i) (0, 0)).2 : Nat) ∧ Below wr.heap.size wr wx) (fun _ _ _ _ si _ => m - (intOf si).toNat)
              case atStart => exact ⟨0, by omega, rfl, rfl, rfl, HBD.out⟩
              case round =>
                obtain ⟨k, hk, rfl, rfl, rfl, hB⟩ := hrel
                have HB := Lib.hid hB
                have HJ := Lib.hid (HP.out.j.below hB)
                have hb0 := HJ.out.cb
                have hvw := own_frame HVO.out (w' := wr) (fun g hg => hB.block g (HVO.out.lt g hg).2)
                have HVW := Lib.hid hvw
                clear hB hvw
                by_cases hkl : k < m
                · have hdk : decide ((k : Int) < ((m : Nat) : Int)) = true := decide_eq_true (by omega)
                  obtain ⟨p, hpk⟩ : ∃ p, C[k]? = some p := ⟨_, List.getElem?_eq_getElem (by rw [hClen.out]; exact hkl)⟩
                  have hLp : L[0 + k]? = some p := by
                    have := hpk
                    rw [HCD.out, List.getElem?_drop] at this
                    rw [show 0 + k = m - 16 + k by omega]; exact this
                  obtain ⟨hpi, hpb, hpt⟩ := HMEM.out p (List.mem_of_getElem? hpk)
                  have hcl : wr.cell? ⟨g, 0 + k, none⟩ = some (.int .i64 (p : Int)) := by
                    have h1 := HVW.out.cellAt (g := g) (0 + k) (by omega)
                    rw [List.getElem?_map, List.getElem?_map, hLp] at h1
                    exact h1
                  rw [Nat.zero_add] at hcl
                  have HST := Lib.hid (foldl_snoc (f := pick b i) (s := ((0, 0) : Nat × Nat)) hpk)
                  generalize (C.take k).foldl (pick b i) (0, 0) = s at HST
                  have hwp : IntKind.i64.wrap ((i : Int) - (p : Int)) = (i : Int) - (p : Int) := IntWalk.i64_in _ (by omega)
                  clear hpk hLp
                  by_cases hfar : 32768 < i - p
                  · have hdf : decide ((32768 : Int) < (i : Int) - (p : Int)) = true := decide_eq_true (by omega)
                    have HPK : Hid (pick b i s p = s) := by show _ = _; unfold pick; rw [if_pos hfar]
                    go_wp2
                    go_roundw
                    case rel => exact ⟨k + 1, by omega, by go_num, by rw [HST.out, HPK.out], by rw [HST.out, HPK.out], HB.out⟩
                    case measure => simp [intOf]; omega
                  · have hdf : decide ((32768 : Int) < (i : Int) - (p : Int)) = false := decide_eq_false (by omega)
                    go_wp2_with fail
                    go_loopw [12] (fun si wx => ∃ m' f : Nat, f + m' = 261 ∧ 3 ≤ m' ∧ m' ≤ 258 ∧ i + m' ≤ n ∧ si = .int .i64 m' ∧ Hid (run b p i = runM b p i f m') ∧ Below wr.heap.size wr wx) (fun si _ => 261 - (intOf si).toNat)
                    case atStart => exact ⟨3, 258, by omega, by omega, by omega, by omega, rfl, rfl, Below.refl _ _⟩
                    case round =>
                      obtain ⟨m', f, hf, hm3, hm8, hmn, rfl, HR, hB⟩ := hrel
                      obtain ⟨f', rfl⟩ : ∃ f', f = f' + 1 := ⟨f - 1, by omega⟩
                      have HBE := Lib.hid (HB.out.trans (hB.mono HB.out.size))
                      have HJ2 := Lib.hid (HJ.out.below hB)
                      have hb0 := HJ2.out.cb
                      have HB3 := Lib.hid hB
                      clear hB
                      by_cases h1 : m' < 258
                      · have d1 : decide ((m' : Int) < 258) = true := decide_eq_true (by omega)
                        have e1 : IntKind.i64.wrap ((i : Int) + (m' : Int)) = (i : Int) + (m' : Int) := IntWalk.i64_in _ (by omega)
                        by_cases h2' : i + m' < n
                        · have d2 : decide ((i : Int) + (m' : Int) < (n : Int)) = true := decide_eq_true (by omega)
                          have e2 : IntKind.i64.wrap ((p : Int) + (m' : Int)) = (p : Int) + (m' : Int) := IntWalk.i64_in _ (by omega)
                          obtain ⟨ba, oa, x, ea, ca, xa, -⟩ := (HAA.out.below HJ2.out.bel (Nat.le_refl _)).cells (i := p + m') (by omega)
                          obtain ⟨bb', ob', y, eb, cb', yb, -⟩ := (HAA.out.below HJ2.out.bel (Nat.le_refl _)).cells (i := i + m') (by omega)
                          injection ea with ea; injection ea with ea1 ea2
                          injection eb with eb; injection eb with eb1 eb2
                          subst ea1 ea2 eb1 eb2
                          have hx := getD_of xa.out 0
                          have hy := getD_of yb.out 0
                          have i0 : (0 : Int) ≤ (i : Int) + (m' : Int) := by omega
                          have i1 : (0 : Int) ≤ (p : Int) + (m' : Int) := by omega
                          have i2 : (p : Int) + (m' : Int) < (n : Int) := by omega
                          have t1 : ((i : Int) + (m' : Int)).toNat = i + m' := by omega
                          have t2 : ((p : Int) + (m' : Int)).toNat = p + m' := by omega
                          by_cases hxy : x = y
                          · have dxy : (x == y) = true := by simp [hxy]
                            have HN : Hid (run b p i = runM b p i f' (m' + 1)) := by
                              show _ = _
                              rw [HR.out, runM, if_pos ⟨h1, by omega, by rw [hx, hy, hxy]⟩]
                            clear hx hy hxy
                            go_wp2_with fail
                            go_quiet (fail)
                            go_wp2
                            go_roundw
                            case rel => exact ⟨m' + 1, f', by omega, by omega, by omega, by omega, by go_num, HN, below_drewN HB3.out _⟩
                            case measure => simp [intOf]; omega
                          · have dxy : (x == y) = false := by simp [hxy]
                            have HRUN : Hid (run b p i = m') := by
                              show _ = _
                              rw [HR.out, runM, if_neg (fun h => hxy (by rw [← hx, ← hy]; exact h.2.2))]
                            clear hx hy hxy
                            go_wp2_with fail
                            go_quiet (fail)
                            have HBE := Lib.hid (below_drewN HBE.out nq)
                            by_cases hbest : s.1 ≤ m'
                            · have HPK : Hid (pick b i s p = (m', p)) := by show _ = _; unfold pick; rw [if_neg hfar, HRUN.out, if_pos hbest]
                              have hdb : decide ((s.1 : Int) ≤ (m' : Int)) = true := decide_eq_true (by omega)
                              go_wp2
                              go_roundw
                              case rel => exact ⟨k + 1, by omega, by go_num, by rw [HST.out, HPK.out], by rw [HST.out, HPK.out], HBE.out⟩
                              case measure => simp [intOf]; omega
                            · have HPK : Hid (pick b i s p = s) := by show _ = _; unfold pick; rw [if_neg hfar, HRUN.out, if_neg hbest]
                              have hdb : decide ((s.1 : Int) ≤ (m' : Int)) = false := decide_eq_false (by omega)
                              go_wp2
                              go_roundw
                              case rel => exact ⟨k + 1, by omega, by go_num, by rw [HST.out, HPK.out], by rw [HST.out, HPK.out], HBE.out⟩
                              case measure => simp [intOf]; omega
                        · have d2 : decide ((i : Int) + (m' : Int) < (n : Int)) = false := decide_eq_false (by omega)
                          have HRUN : Hid (run b p i = m') := by
                            show _ = _
                            rw [HR.out, runM, if_neg (fun h => h2' (by omega))]
                          go_wp2_with fail
                          go_quiet (fail)
                          have HBE := Lib.hid (below_drewN HBE.out nq)
                          by_cases hbest : s.1 ≤ m'
                          · have HPK : Hid (pick b i s p = (m', p)) := by show _ = _; unfold pick; rw [if_neg hfar, HRUN.out, if_pos hbest]
                            have hdb : decide ((s.1 : Int) ≤ (m' : Int)) = true := decide_eq_true (by omega)
                            go_wp2
                            go_roundw
                            case rel => exact ⟨k + 1, by omega, by go_num, by rw [HST.out, HPK.out], by rw [HST.out, HPK.out], HBE.out⟩
                            case measure => simp [intOf]; omega
                          · have HPK : Hid (pick b i s p = s) := by show _ = _; unfold pick; rw [if_neg hfar, HRUN.out, if_neg hbest]
                            have hdb : decide ((s.1 : Int) ≤ (m' : Int)) = false := decide_eq_false (by omega)
                            go_wp2
                            go_roundw
                            case rel => exact ⟨k + 1, by omega, by go_num, by rw [HST.out, HPK.out], by rw [HST.out, HPK.out], HBE.out⟩
                            case measure => simp [intOf]; omega
                      · have d1 : decide ((m' : Int) < 258) = false := decide_eq_false (by omega)
                        have HRUN : Hid (run b p i = m') := by
                          show _ = _
                          rw [HR.out, runM, if_neg (fun h => h1 h.1)]
                        go_wp2_with fail
                        go_quiet (fail)
                        have HBE := Lib.hid (below_drewN HBE.out nq)
                        by_cases hbest : s.1 ≤ m'
                        · have HPK : Hid (pick b i s p = (m', p)) := by show _ = _; unfold pick; rw [if_neg hfar, HRUN.out, if_pos hbest]
                          have hdb : decide ((s.1 : Int) ≤ (m' : Int)) = true := decide_eq_true (by omega)
                          go_wp2
                          go_roundw
                          case rel => exact ⟨k + 1, by omega, by go_num, by rw [HST.out, HPK.out], by rw [HST.out, HPK.out], HBE.out⟩
                          case measure => simp [intOf]; omega
                        · have HPK : Hid (pick b i s p = s) := by show _ = _; unfold pick; rw [if_neg hfar, HRUN.out, if_neg hbest]
                          have hdb : decide ((s.1 : Int) ≤ (m' : Int)) = false := decide_eq_false (by omega)
                          go_wp2
                          go_roundw
                          case rel => exact ⟨k + 1, by omega, by go_num, by rw [HST.out, HPK.out], by rw [HST.out, HPK.out], HBE.out⟩
                          case measure => simp [intOf]; omega
                · have hdk : decide ((k : Int) < ((m : Nat) : Int)) = false := decide_eq_false (by omega)
                  have HBF : Hid ((C.take k).foldl (pick b i) (0, 0) = best b i) := by
                    show _ = _
                    rw [HBST.out, List.take_of_length_le (by rw [hClen.out]; omega)]
                  go_wp2
                  go_meet
                  case rel => exact ⟨by rw [HBF.out], by rw [HBF.out], HP.out.below HB.out⟩
            · have hmx : max (0 : Int) ((m : Int) - 16) = ((m - 16 : Nat) : Int) := by omega
              have hcm : ¬ c' = m - 16 := by omega
              go_wp2_with fail
              clear hm16 hmx hcm hAn
              have hClen : Hid (C.length = (m - (m - 16))) := by show _ = _; rw [HCD.out]; simp only [List.length_drop, HM.out]; try omega
              go_loopw [7, 8, 11, 12, 40] (fun sb sa _ _ si wx => ∃ k : Nat, k ≤ (m - (m - 16)) ∧ si = .int .i64 k ∧ sb = .int .i64 (((C.take k).foldl (pick b i) (0, 0)).1 : Nat) ∧ sa = .int .i64 (((C.take k).foldl (pick b i) (0, 0)).2 : Nat) ∧ Below wr.heap.size wr wx) (fun _ _ _ _ si _ => (m - (m - 16)) - (intOf si).toNat)
              case atStart => exact ⟨0, by omega, rfl, rfl, rfl, HBD.out⟩
              case round =>
                obtain ⟨k, hk, rfl, rfl, rfl, hB⟩ := hrel
                have HB := Lib.hid hB
                have HJ := Lib.hid (HP.out.j.below hB)
                have hb0 := HJ.out.cb
                have hvw := own_frame HVO.out (w' := wr) (fun g hg => hB.block g (HVO.out.lt g hg).2)
                have HVW := Lib.hid hvw
                clear hB hvw
                by_cases hkl : k < (m - (m - 16))
                · have hdk : decide ((k : Int) < (((m - (m - 16)) : Nat) : Int)) = true := decide_eq_true (by omega)
                  obtain ⟨p, hpk⟩ : ∃ p, C[k]? = some p := ⟨_, List.getElem?_eq_getElem (by rw [hClen.out]; exact hkl)⟩
                  have hLp : L[(m - 16) + k]? = some p := by
                    have := hpk
                    rw [HCD.out, List.getElem?_drop] at this
                    rw [show (m - 16) + k = m - 16 + k by omega]; exact this
                  obtain ⟨hpi, hpb, hpt⟩ := HMEM.out p (List.mem_of_getElem? hpk)
                  have hcl : wr.cell? ⟨g, (m - 16) + k, none⟩ = some (.int .i64 (p : Int)) := by
                    have h1 := HVW.out.cellAt (g := g) ((m - 16) + k) (by omega)
                    rw [List.getElem?_map, List.getElem?_map, hLp] at h1
                    exact h1
                  have HST := Lib.hid (foldl_snoc (f := pick b i) (s := ((0, 0) : Nat × Nat)) hpk)
                  generalize (C.take k).foldl (pick b i) (0, 0) = s at HST
                  have hwp : IntKind.i64.wrap ((i : Int) - (p : Int)) = (i : Int) - (p : Int) := IntWalk.i64_in _ (by omega)
                  clear hpk hLp
                  by_cases hfar : 32768 < i - p
                  · have hdf : decide ((32768 : Int) < (i : Int) - (p : Int)) = true := decide_eq_true (by omega)
                    have HPK : Hid (pick b i s p = s) := by show _ = _; unfold pick; rw [if_pos hfar]
                    go_wp2
                    go_roundw
                    case rel => exact ⟨k + 1, by omega, by go_num, by rw [HST.out, HPK.out], by rw [HST.out, HPK.out], HB.out⟩
                    case measure => simp [intOf]; omega
                  · have hdf : decide ((32768 : Int) < (i : Int) - (p : Int)) = false := decide_eq_false (by omega)
                    go_wp2_with fail
                    go_loopw [12] (fun si wx => ∃ m' f : Nat, f + m' = 261 ∧ 3 ≤ m' ∧ m' ≤ 258 ∧ i + m' ≤ n ∧ si = .int .i64 m' ∧ Hid (run b p i = runM b p i f m') ∧ Below wr.heap.size wr wx) (fun si _ => 261 - (intOf si).toNat)
                    case atStart => exact ⟨3, 258, by omega, by omega, by omega, by omega, rfl, rfl, Below.refl _ _⟩
                    case round =>
                      obtain ⟨m', f, hf, hm3, hm8, hmn, rfl, HR, hB⟩ := hrel
                      obtain ⟨f', rfl⟩ : ∃ f', f = f' + 1 := ⟨f - 1, by omega⟩
                      have HBE := Lib.hid (HB.out.trans (hB.mono HB.out.size))
                      have HJ2 := Lib.hid (HJ.out.below hB)
                      have hb0 := HJ2.out.cb
                      have HB3 := Lib.hid hB
                      clear hB
                      by_cases h1 : m' < 258
                      · have d1 : decide ((m' : Int) < 258) = true := decide_eq_true (by omega)
                        have e1 : IntKind.i64.wrap ((i : Int) + (m' : Int)) = (i : Int) + (m' : Int) := IntWalk.i64_in _ (by omega)
                        by_cases h2' : i + m' < n
                        · have d2 : decide ((i : Int) + (m' : Int) < (n : Int)) = true := decide_eq_true (by omega)
                          have e2 : IntKind.i64.wrap ((p : Int) + (m' : Int)) = (p : Int) + (m' : Int) := IntWalk.i64_in _ (by omega)
                          obtain ⟨ba, oa, x, ea, ca, xa, -⟩ := (HAA.out.below HJ2.out.bel (Nat.le_refl _)).cells (i := p + m') (by omega)
                          obtain ⟨bb', ob', y, eb, cb', yb, -⟩ := (HAA.out.below HJ2.out.bel (Nat.le_refl _)).cells (i := i + m') (by omega)
                          injection ea with ea; injection ea with ea1 ea2
                          injection eb with eb; injection eb with eb1 eb2
                          subst ea1 ea2 eb1 eb2
                          have hx := getD_of xa.out 0
                          have hy := getD_of yb.out 0
                          have i0 : (0 : Int) ≤ (i : Int) + (m' : Int) := by omega
                          have i1 : (0 : Int) ≤ (p : Int) + (m' : Int) := by omega
                          have i2 : (p : Int) + (m' : Int) < (n : Int) := by omega
                          have t1 : ((i : Int) + (m' : Int)).toNat = i + m' := by omega
                          have t2 : ((p : Int) + (m' : Int)).toNat = p + m' := by omega
                          by_cases hxy : x = y
                          · have dxy : (x == y) = true := by simp [hxy]
                            have HN : Hid (run b p i = runM b p i f' (m' + 1)) := by
                              show _ = _
                              rw [HR.out, runM, if_pos ⟨h1, by omega, by rw [hx, hy, hxy]⟩]
                            clear hx hy hxy
                            go_wp2_with fail
                            go_quiet (fail)
                            go_wp2
                            go_roundw
                            case rel => exact ⟨m' + 1, f', by omega, by omega, by omega, by omega, by go_num, HN, below_drewN HB3.out _⟩
                            case measure => simp [intOf]; omega
                          · have dxy : (x == y) = false := by simp [hxy]
                            have HRUN : Hid (run b p i = m') := by
                              show _ = _
                              rw [HR.out, runM, if_neg (fun h => hxy (by rw [← hx, ← hy]; exact h.2.2))]
                            clear hx hy hxy
                            go_wp2_with fail
                            go_quiet (fail)
                            have HBE := Lib.hid (below_drewN HBE.out nq)
                            by_cases hbest : s.1 ≤ m'
                            · have HPK : Hid (pick b i s p = (m', p)) := by show _ = _; unfold pick; rw [if_neg hfar, HRUN.out, if_pos hbest]
                              have hdb : decide ((s.1 : Int) ≤ (m' : Int)) = true := decide_eq_true (by omega)
                              go_wp2
                              go_roundw
                              case rel => exact ⟨k + 1, by omega, by go_num, by rw [HST.out, HPK.out], by rw [HST.out, HPK.out], HBE.out⟩
                              case measure => simp [intOf]; omega
                            · have HPK : Hid (pick b i s p = s) := by show _ = _; unfold pick; rw [if_neg hfar, HRUN.out, if_neg hbest]
                              have hdb : decide ((s.1 : Int) ≤ (m' : Int)) = false := decide_eq_false (by omega)
                              go_wp2
                              go_roundw
                              case rel => exact ⟨k + 1, by omega, by go_num, by rw [HST.out, HPK.out], by rw [HST.out, HPK.out], HBE.out⟩
                              case measure => simp [intOf]; omega
                        · have d2 : decide ((i : Int) + (m' : Int) < (n : Int)) = false := decide_eq_false (by omega)
                          have HRUN : Hid (run b p i = m') := by
                            show _ = _
                            rw [HR.out, runM, if_neg (fun h => h2' (by omega))]
                          go_wp2_with fail
                          go_quiet (fail)
                          have HBE := Lib.hid (below_drewN HBE.out nq)
                          by_cases hbest : s.1 ≤ m'
                          · have HPK : Hid (pick b i s p = (m', p)) := by show _ = _; unfold pick; rw [if_neg hfar, HRUN.out, if_pos hbest]
                            have hdb : decide ((s.1 : Int) ≤ (m' : Int)) = true := decide_eq_true (by omega)
                            go_wp2
                            go_roundw
                            case rel => exact ⟨k + 1, by omega, by go_num, by rw [HST.out, HPK.out], by rw [HST.out, HPK.out], HBE.out⟩
                            case measure => simp [intOf]; omega
                          · have HPK : Hid (pick b i s p = s) := by show _ = _; unfold pick; rw [if_neg hfar, HRUN.out, if_neg hbest]
                            have hdb : decide ((s.1 : Int) ≤ (m' : Int)) = false := decide_eq_false (by omega)
                            go_wp2
                            go_roundw
                            case rel => exact ⟨k + 1, by omega, by go_num, by rw [HST.out, HPK.out], by rw [HST.out, HPK.out], HBE.out⟩
                            case measure => simp [intOf]; omega
                      · have d1 : decide ((m' : Int) < 258) = false := decide_eq_false (by omega)
                        have HRUN : Hid (run b p i = m') := by
                          show _ = _
                          rw [HR.out, runM, if_neg (fun h => h1 h.1)]
                        go_wp2_with fail
                        go_quiet (fail)
                        have HBE := Lib.hid (below_drewN HBE.out nq)
                        by_cases hbest : s.1 ≤ m'
                        · have HPK : Hid (pick b i s p = (m', p)) := by show _ = _; unfold pick; rw [if_neg hfar, HRUN.out, if_pos hbest]
                          have hdb : decide ((s.1 : Int) ≤ (m' : Int)) = true := decide_eq_true (by omega)
                          go_wp2
                          go_roundw
                          case rel => exact ⟨k + 1, by omega, by go_num, by rw [HST.out, HPK.out], by rw [HST.out, HPK.out], HBE.out⟩
                          case measure => simp [intOf]; omega
                        · have HPK : Hid (pick b i s p = s) := by show _ = _; unfold pick; rw [if_neg hfar, HRUN.out, if_neg hbest]
                          have hdb : decide ((s.1 : Int) ≤ (m' : Int)) = false := decide_eq_false (by omega)
                          go_wp2
                          go_roundw
                          case rel => exact ⟨k + 1, by omega, by go_num, by rw [HST.out, HPK.out], by rw [HST.out, HPK.out], HBE.out⟩
                          case measure => simp [intOf]; omega
                · have hdk : decide ((k : Int) < (((m - (m - 16)) : Nat) : Int)) = false := decide_eq_false (by omega)
                  have HBF : Hid ((C.take k).foldl (pick b i) (0, 0) = best b i) := by
                    show _ = _
                    rw [HBST.out, List.take_of_length_le (by rw [hClen.out]; omega)]
                  go_wp2
                  go_meet
                  case rel => exact ⟨by rw [HBF.out], by rw [HBF.out], HP.out.below HB.out⟩
        · have hbst : best b i = (0, 0) := by unfold best; rw [if_neg (by omega)]
          have HBS := Lib.hid hbst
          have hd2 : decide ((i : Int) + 2 < (n : Int)) = false := decide_eq_false (by omega)
          clear hbst
          go_wp2
          go_meet
          case rel => exact ⟨by rw [HBS.out]; rfl, by rw [HBS.out]; rfl, HP.out⟩
      case rest =>
        obtain ⟨rfl, rfl, hP⟩ := hcut
        have HPC := Lib.hid hP
        have hb0 := hP.j.cb
        have hb2 := hP.j.cp
        have hh := hP.j.hi
        have HOW := Lib.hid hP.j.own
        have hple := hP.le
        clear hP
        have HBO := Lib.hid (best_ok b i)
        by_cases h3 : (best b i).1 < 3
        · have hd3 : decide (((best b i).1 : Int) < 3) = true := decide_eq_true (by omega)
          have HPA : Hid (pieceAt b i = ⟨(b.getD i 0).toNat, 0, 0⟩) := by show _ = _; unfold pieceAt; rw [if_pos h3]
          obtain ⟨bb, off, x, rfl, c0, e0, hlt⟩ := (HAA.out.below HPC.out.j.bel (Nat.le_refl _)).cells (i := i) hin
          have hx := HWF.out x (List.mem_of_getElem? e0.out)
          have HGX := Lib.hid (getD_of e0.out 0)
          obtain ⟨y, rfl⟩ := Int.eq_ofNat_of_zero_le hx.1
          have j0 : (0 : Int) ≤ (i : Int) := by omega
          have hsl := sl_pc wc ⟨y, 0, 0⟩ 77
          have HSL : Hid (Sl (wc.alloc (.cells #[.int .u8 (y : Int), .int .i64 0, .int .i64 0] 77)) (some ⟨wc.heap.size, 0, none⟩) (pcV ⟨y, 0, 0⟩)) := hsl
          have hbs : w.heap.size + 3 ≤ (wc.alloc (.cells #[.int .u8 (y : Int), .int .i64 0, .int .i64 0] 77)).heap.size := by simp; omega
          clear hsl
          go_wp2_with (at_builtin; refine wpList_append_sl _ rfl (.tmp 83) (.tmp 89) _ rfl (w.heap.size + 3) 77 3 24 _ Tryz.underlying38 infoP rfl (by omega) u4 ps.length (ps.flatMap pcV) rfl (HOW.out.alloc _) (some ⟨wc.heap.size, 0, none⟩) 1 1 (pcV ⟨y, 0, 0⟩) rfl rfl HSL.out (one_pc _) ?k1 ?k2 hbs ?_)
          case k1 => unfold maxLen; omega
          case k2 => omega
          intro v' w2 hown2 hg2 hloc
          have hJ := Pj.pushed HPC.out.j hown2 hg2 (by simpa using hloc)
          have HJ := Lib.hid hJ
          obtain ⟨R, hG, hR⟩ := hJ.gm
          have HGG := Lib.hid hG
          have HRR := Lib.hid hR
          have hc0 := hJ.cb
          have hc2 := hJ.cp
          clear hJ hown2 hg2 hloc hG hR hb0 hb2 c0
          go_wp2_with fail
          refine (note_any (Bp := w.heap.size + 2) w2 (HAA.out.below HJ.out.bel (Nat.le_refl _)) hc HWF.out hc0 hc2 HGG.out hin hn).mono ?_
          rintro e w3 ⟨rfl, R', hG', hC', hR'⟩
          have hJ3 := HJ.out.noted HGG.out HRR.out hG' hC' hR'
          rw [show (⟨y, 0, 0⟩ : Pc) = pieceAt b i by rw [HPA.out, HGX.out]; simp] at hJ3
          have hP3 := HPC.out.next (w3 := w3) (v' := v') hlen hin (by rw [if_pos h3]; exact hJ3)
          rw [if_pos h3] at hP3
          have HF := Lib.hid hP3
          clear hP3
          clear hG' hC' hR' hJ3 hc0 hc2
          go_wp2
          go_roundw
          case rel => exact ⟨i + 1, _, by omega, by go_num, HF.out⟩
          case measure => simp [intOf]; omega
        · have hd3 : decide (((best b i).1 : Int) < 3) = false := decide_eq_false (by omega)
          obtain ⟨g1, g2, g3, g4, g5⟩ : 3 ≤ (best b i).1 ∧ (best b i).1 ≤ 258 ∧ i + (best b i).1 ≤ n ∧ (best b i).2 < i ∧ i - (best b i).2 ≤ 32768 := by
            rcases HBO.out with h0 | ⟨a1, a2, a3, a4, a5, -⟩
            · omega
            · exact ⟨a1, a2, by omega, a4, a5⟩
          have HPA : Hid (pieceAt b i = ⟨0, (best b i).1, i - (best b i).2⟩) := by show _ = _; unfold pieceAt; rw [if_neg h3]
          have HNX : Hid ((i + if (best b i).1 < 3 then 1 else (best b i).1) = i + (best b i).1) := by show _ = _; rw [if_neg h3]
          clear h3 HBO
          generalize hs1 : (best b i).1 = s1 at hd3 g1 g2 g3 HPA HNX
          generalize hs2 : (best b i).2 = s2 at g4 g5 HPA
          have HB1 := Lib.hid hs1
          clear hs1 hs2
          have hpv : pcV ⟨0, s1, i - s2⟩ = [.int .u8 0, .int .i64 (s1 : Int), .int .i64 ((i : Int) - (s2 : Int))] := by unfold pcV; rw [show ((i - s2 : Nat) : Int) = (i : Int) - (s2 : Int) by omega]; rfl
          have hsl := sl_pc wc ⟨0, s1, i - s2⟩ 77
          rw [hpv] at hsl
          have HSL : Hid (Sl (wc.alloc (.cells #[.int .u8 0, .int .i64 (s1 : Int), .int .i64 ((i : Int) - (s2 : Int))] 77)) (some ⟨wc.heap.size, 0, none⟩) [.int .u8 0, .int .i64 (s1 : Int), .int .i64 ((i : Int) - (s2 : Int))]) := hsl
          have HPV := Lib.hid hpv
          have hbs : w.heap.size + 3 ≤ (wc.alloc (.cells #[.int .u8 0, .int .i64 (s1 : Int), .int .i64 ((i : Int) - (s2 : Int))] 77)).heap.size := by simp; omega
          clear hsl hpv
          go_wp2_with (at_builtin; refine wpList_append_sl _ rfl (.tmp 96) (.tmp 102) _ rfl (w.heap.size + 3) 77 3 24 _ Tryz.underlying38 infoP rfl (by omega) u4 ps.length (ps.flatMap pcV) rfl (HOW.out.alloc _) (some ⟨wc.heap.size, 0, none⟩) 1 1 [.int .u8 0, .int .i64 (s1 : Int), .int .i64 ((i : Int) - (s2 : Int))] rfl rfl HSL.out ?k0 ?k1 ?k2 hbs ?_)
          case k0 => intro u hu; rw [← HPV.out] at hu; exact one_pc _ u hu
          case k1 => unfold maxLen; omega
          case k2 => omega
          intro v' w2 hown2 hg2 hloc
          rw [← HPV.out] at hown2
          have HJ := Lib.hid (Pj.pushed HPC.out.j hown2 hg2 (by simpa using hloc))
          rw [show (⟨0, s1, i - s2⟩ : Pc) = pieceAt b i from HPA.out.symm] at HJ
          have HJ0 : Hid (Pj w w2 A n c b (i + 0) v' (ps ++ [pieceAt b i])) := HJ.out
          clear hown2 hg2 hloc hb0 hb2 HJ HSL HPV hbs hd3
          go_wp2_with fail
          go_loopw [6, 105] (fun si sk wx => ∃ j : Nat, j ≤ s1 ∧ si = .int .i64 ((i : Int) + (j : Int)) ∧ sk = .int .i64 j ∧ Pj w wx A n c b (i + j) v' (ps ++ [pieceAt b i])) (fun _ sk _ => s1 - (intOf sk).toNat)
          case atStart => exact ⟨0, by omega, by simp, rfl, HJ0.out⟩
          case round =>
            clear HJ0
            obtain ⟨j, hj, rfl, rfl, hJ⟩ := hrel
            have HJ := Lib.hid hJ
            by_cases hjs : j < s1
            · have hdj : decide ((j : Int) < (s1 : Int)) = true := decide_eq_true (by omega)
              obtain ⟨R, hG, hR⟩ := hJ.gm
              have hcall := note_any (Bp := w.heap.size + 2) (i := i + j) wr (HAA.out.below hJ.bel (Nat.le_refl _)) hc HWF.out hJ.cb hJ.cp hG (by omega) hn
              rw [show ((i + j : Nat) : Int) = (i : Int) + (j : Int) from by omega] at hcall
              have HCALL := Lib.hid hcall
              have HGG := Lib.hid hG
              have HRR := Lib.hid hR
              clear hcall hG hR hJ
              go_wp2_with fail
              refine HCALL.out.mono ?_
              rintro e w3 ⟨rfl, R', hG', hC', hR'⟩
              have HJ3 : Hid (Pj w w3 A n c b (i + (j + 1)) v' (ps ++ [pieceAt b i])) := HJ.out.noted HGG.out HRR.out hG' hC' hR'
              clear hG' hC' hR' HCALL
              go_wp2
              go_roundw
              case rel => exact ⟨j + 1, by omega, eint (by omega), by go_num, HJ3.out⟩
              case measure => simp [intOf]; omega
            · obtain rfl : j = s1 := by omega
              have hdj : decide ((j : Int) < (j : Int)) = false := decide_eq_false (by omega)
              have hP3 := HPC.out.next (w3 := wr) (v' := v') hlen hin (by rw [HB1.out, HNX.out]; exact hJ)
              rw [HB1.out, HNX.out] at hP3
              have HF := Lib.hid hP3
              clear hP3 hJ
              go_wp2
              go_roundw
              case rel => exact ⟨i + j, _, by omega, eint (by omega), HF.out⟩
              case measure => simp [intOf]; omega
    · obtain rfl : i = n := by omega
      have hd : decide ((i : Int) < (i : Int)) = false := decide_eq_false (by omega)
      have hfin : Hid (ps = piecesM b b.length 0) := by
        show _ = _
        obtain ⟨f, h1, h2⟩ := HP.out.gh
        rw [hlen, ← h2]
        cases f with
        | zero => rw [piecesM, List.append_nil]
        | succ f => rw [piecesM, if_neg (by omega), List.append_nil]
      obtain ⟨A', c', hv⟩ := own_form HP.out.j.own
      have hown := HP.out.j.own
      rw [hv] at hown
      have hsp : Hid (SP wr A' ps.length ps) := ⟨rfl, by have := HP.out.le; omega, Sl.of_own hown⟩
      have HV := Lib.hid hv
      have HO := Lib.hid hown
      clear hv hown
      go_wp2
      go_ret
      refine ⟨A', c', ?_, by rw [← hfin.out]; exact hsp.out, HP.out.j.bel, fun a ha => ?_⟩
      · rw [← hfin.out]; exact ret1 HV.out
      · subst ha
        have := HO.out.lt a.block rfl
        omega
end Go.Proofs.YtmgbjgjlddifaaaGreat.Def
