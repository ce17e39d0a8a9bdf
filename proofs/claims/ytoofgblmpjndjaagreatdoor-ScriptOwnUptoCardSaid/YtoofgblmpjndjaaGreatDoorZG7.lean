/-
  Plain: a region that draws its order: a load may be taken first though its cell is written in the region, by an operation that waits for it.
-/
import Derived.OrdersHeld
import Derived.Deep.RegionHeld
set_option linter.unusedVariables false
set_option linter.unusedSimpArgs false
namespace Go.Proofs.YtoofgblmpjndjaaGreatDoor.Ord

section
variable {P : Program} {ops : Array Oper} {Q : Exit → Act → World → Prop} {md : Region.Mode} {S : World → Prop} {k : Nat}

def anyK (P : Program) (md : Region.Mode) (ops : Array Oper) (Q : Exit → Act → World → Prop) (S : World → Prop) (k : Nat) : Nat → Array Bool → Act → World → Prop
 | 0, L, a, w => Region.ready md ops L = [] ∧ Q .normal a w
 | f + 1, L, a, w => (Region.ready md ops L = [] → Q .normal a w) ∧
  ∀ i ∈ Region.ready md ops L, wpOp P ops Q i (fun a' w' => ((L.setIfInBounds i true).getD k true = false → S w') ∧ anyK P md ops Q S k f (L.setIfInBounds i true) a' w') a w
theorem any_of_K : ∀ (f : Nat) (L : Array Bool) (a : Act) (w : World), anyK P md ops Q S k f L a w → wpAny P md ops Q f L a w
 | 0, _, _, _, h => h
 | f + 1, _, _, _, h => ⟨h.1, fun i hi => wpOp_mono (fun a' w' q => any_of_K f _ a' w' q.2) (h.2 i hi)⟩
theorem anyK_first {i : Nat} {oi : Oper} {v : Value} (hi : ops[i]? = some oi) (hsel : ∀ (j : Nat) (o : Oper) cs b, ops[j]? = some o → o.op ≠ .select cs b)
  (hQ : ∀ c a w, Q (.panic c) (a.put oi.dst v) w → Q (.panic c) a w) (hki : k ≠ i)
  (hw : ∀ ok, ops[k]? = some ok → ∃ e ∈ ok.after, Region.binds md e = true ∧ e.on = i) :
  ∀ (f : Nat) (L : Array Bool) (a : Act) (w : World),
   (∀ j oj, ops[j]? = some oj → j ≠ i → L.getD j true = false → (∀ e ∈ oj.after, Region.binds md e = true → e.on ≠ i) → oi.apart ops oj = true) →
   i ∈ Region.ready md ops L → L.getD k true = false → YieldsIf P ops S oi v a → S w →
   anyK P md ops Q S k f (L.setIfInBounds i true) (a.put oi.dst v) w → anyK P md ops Q S k (f + 1) L a w := by
 intro f
 induction f with
 | zero =>
  intro L a w _ hr hk hy hS H
  refine ⟨fun h => (by rw [h] at hr; cases hr), fun j hj => ?_⟩
  by_cases hji : j = i
  ·subst hji; exact hy.wpOp hi hS ⟨fun _ => hS, H⟩
  ·have := ready_mono hj hji
   rw [H.1] at this
   cases this
 | succ f ih =>
  intro L a w hfree hr hk hy hS H
  refine ⟨fun h => (by rw [h] at hr; cases hr), fun j hj => ?_⟩
  by_cases hji : j = i
  ·subst hji; exact hy.wpOp hi hS ⟨fun _ => hS, H⟩
  ·have h1 := H.2 j (ready_mono hj hji)
   obtain ⟨hjun, oj, hoj, hall⟩ := mem_ready.1 hj
   have hnot : ∀ e ∈ oj.after, Region.binds md e = true → e.on ≠ i := fun e he hb heq => by
    have h1 := hall e he hb
    have h0 := (mem_ready.1 hr).1
    rw [heq] at h1
    rcases Nat.lt_or_ge i L.size with h' | h'
    ·simp [h'] at h0 h1; rw [h0] at h1; cases h1
    ·simp [Array.getElem?_eq_none h'] at h1
   have hjk : j ≠ k := by
    rintro rfl
    obtain ⟨e, he, hb, heq⟩ := hw oj hoj
    exact hnot e he hb heq
   have h2 := wpOp_putIf hoj (hfree j oj hoj hji hjun hnot) (fun cs b => hsel i oi cs b hi) (fun cs b => hsel j oj cs b hoj) hQ hy h1
   have hfree' : ∀ m om, ops[m]? = some om → m ≠ i → (L.setIfInBounds j true).getD m true = false →
     (∀ e ∈ om.after, Region.binds md e = true → e.on ≠ i) → oi.apart ops om = true := fun m om hm hmi hun hno => by
    refine hfree m om hm hmi ?_ hno
    by_cases hjm : j = m
    ·subst hjm; exact hjun
    ·rw [Go.getD_set_ne true hjm] at hun; exact hun
   have hk' : (L.setIfInBounds j true).getD k true = false := by rw [Go.getD_set_ne true hjk]; exact hk
   have hk2 : ((L.setIfInBounds i true).setIfInBounds j true).getD k true = false := by rw [Go.getD_set_ne true hjk, Go.getD_set_ne true (Ne.symm hki)]; exact hk
   refine wpOp_mono (fun a' w' h3 => ⟨fun _ => h3.2.1 hk2, ih (L.setIfInBounds j true) a' w' hfree' (ready_mono hr (Ne.symm hji)) hk' h3.1 (h3.2.1 hk2) ?_⟩) h2
   rw [Array.setIfInBounds_comm _ _ hji]
   exact h3.2.2
def waits (md : Region.Mode) (ops : Array Oper) (k i : Nat) : Bool := ((ops[k]?).map fun o => o.after.any fun e => Region.binds md e && e.on == i).getD true
theorem waits_spec {i : Nat} (h : waits md ops k i = true) : ∀ ok, ops[k]? = some ok → ∃ e ∈ ok.after, Region.binds md e = true ∧ e.on = i := fun ok hk => by
 unfold waits at h
 rw [hk] at h
 simp only [Option.map_some, Option.getD_some] at h
 obtain ⟨n, hn, hb⟩ := Array.any_eq_true.1 h
 simp only [Bool.and_eq_true, beq_iff_eq] at hb
 exact ⟨_, Array.getElem_mem hn, hb.1, hb.2⟩
theorem anyK_take {i : Nat} {oi : Oper} {v : Value} {f : Nat} {L : Array Bool} {a : Act} {w : World} (hS : S w) (hi : ops[i]? = some oi)
  (hs : Region.noSelect ops = true) (hf : Region.free md ops L i = true) (hr : (Region.ready md ops L).contains i = true)
  (hk : (!(k == i) && waits md ops k i && !L.getD k true) = true)
  (hQ : ∀ c a w, Q (.panic c) (a.put oi.dst v) w → Q (.panic c) a w) (hy : YieldsIf P ops S oi v a)
  (h : anyK P md ops Q S k f (L.setIfInBounds i true) (a.put oi.dst v) w) : anyK P md ops Q S k (f + 1) L a w := by
 simp only [Bool.and_eq_true, Bool.not_eq_true', beq_eq_false_iff_ne] at hk
 exact anyK_first hi (Region.noSelect_spec hs) hQ hk.1.1 (waits_spec hk.1.2) f L a w (Region.free_spec hi hf) (by simpa using hr) hk.2 hy hS h
def AllK (P : Program) (md : Region.Mode) (ops : Array Oper) (Q : Exit → Act → World → Prop) (S : World → Prop) (k f : Nat) (L : Array Bool) (a : Act) (w : World) (rs : List Nat) : Prop :=
 ∀ i ∈ rs, wpOp P ops Q i (fun a' w' => ((L.setIfInBounds i true).getD k true = false → S w') ∧ anyK P md ops Q S k f (L.setIfInBounds i true) a' w') a w
theorem AllK.nil {f : Nat} {L : Array Bool} {a : Act} {w : World} : AllK P md ops Q S k f L a w [] := fun _ h => by cases h
theorem AllK.cons {f : Nat} {L : Array Bool} {a : Act} {w : World} {i : Nat} {o : Oper} {rs : List Nat} (ho : ops[i]? = some o)
  (h : ∀ K' : Act → World → Prop, Shut (∀ a w, ((L.setIfInBounds i true).getD k true = false → S w) → anyK P md ops Q S k f (L.setIfInBounds i true) a w → K' a w) → if Region.wanted o (yielded ops a.tmps) = true then Oper.wp P o a w K' Q else K' (a.put o.dst undef) w)
  (hs : AllK P md ops Q S k f L a w rs) : AllK P md ops Q S k f L a w (i :: rs) := fun j hj => by
 rcases List.mem_cons.1 hj with rfl | hj
 ·exact wpOp_step ho (fun K' hK => h K' (fun a w hS hW => hK a w ⟨hS, hW⟩))
 ·exact hs j hj
theorem anyK_ready {rs : List Nat} {f : Nat} {L : Array Bool} {a : Act} {w : World} (hr : Region.ready md ops L = rs) (hne : rs ≠ [])
  (h : AllK P md ops Q S k f L a w rs) : anyK P md ops Q S k (f + 1) L a w := ⟨fun h0 => absurd (hr ▸ h0) hne, hr ▸ h⟩
theorem anyK_done {L : Array Bool} {a : Act} {w : World} (hr : Region.ready md ops L = []) (h : Q .normal a w) : ∀ f, anyK P md ops Q S k f L a w
 | 0 => ⟨hr, h⟩
 | _ + 1 => ⟨fun _ => h, by rw [hr]; simp⟩
theorem region_K (S : World → Prop) (k : Nat) {id : Nat} {a : Act} {w : World} (hm : P.follows .mixedOrders = true)
  (h : anyK P .any ops Q S k ops.size (Array.replicate ops.size false) a w.drew) : (Code.region id ops true).wp P Q a w :=
 wp_region_any hm (any_of_K _ _ _ _ h)
theorem held_skip {i d f : Nat} {oi : Oper} {L : Array Bool} {a : Act} {w : World} (hi : ops[i]? = some oi) (hd : oi.dst = some d)
  (hs : Region.noSelect ops = true) (hf : Region.free md ops L i = true) (hr : (Region.ready md ops L).contains i = true)
  (hQ : ∀ c a w, Q (.panic c) (a.put (some d) undef) w → Q (.panic c) a w) (hw : Region.wanted oi (yielded ops a.tmps) = false) (hS : S w)
  (h : wpAnyH P md ops Q S f (L.setIfInBounds i true) (a.put (some d) undef) w) : wpAnyH P md ops Q S (f + 1) L a w :=
 wpAnyH_take hi hs hf hr (by rw [hd]; exact hQ) (.inr ⟨hw, rfl⟩) hS (by rw [hd]; exact h)
theorem K_skip {i d f : Nat} {oi : Oper} {L : Array Bool} {a : Act} {w : World} (hS : S w) (hi : ops[i]? = some oi) (hd : oi.dst = some d)
  (hs : Region.noSelect ops = true) (hf : Region.free md ops L i = true) (hr : (Region.ready md ops L).contains i = true) (hk : (!(k == i) && waits md ops k i && !L.getD k true) = true)
  (hQ : ∀ c a w, Q (.panic c) (a.put (some d) undef) w → Q (.panic c) a w) (hw : Region.wanted oi (yielded ops a.tmps) = false)
  (h : anyK P md ops Q S k f (L.setIfInBounds i true) (a.put (some d) undef) w) : anyK P md ops Q S k (f + 1) L a w :=
 anyK_take hS hi hs hf hr hk (by rw [hd]; exact hQ) (.inr ⟨hw, rfl⟩) (by rw [hd]; exact h)
end
end Go.Proofs.YtoofgblmpjndjaaGreatDoor.Ord
