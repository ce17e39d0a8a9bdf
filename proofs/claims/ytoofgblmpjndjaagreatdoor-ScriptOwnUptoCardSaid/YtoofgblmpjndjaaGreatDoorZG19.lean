/-
  The program's Write: plain laws; its memory.
-/
import Derived.Test.YtoofgblmpjndjaaGreatDoorZG18
import Derived.Lib.Join
set_option linter.unusedVariables false
set_option linter.unusedSimpArgs false
namespace Go.Proofs.YtoofgblmpjndjaaGreatDoor.Scr
open Go.RowKit K Go.Lib Go.Shelf

theorem join_joinM : ∀ ws : List Tx, Lib.join ws [32] = joinM ws
 | [] => rfl
 | w :: r => by
  rw [Lib.join_cons, join_cons]
  congr 1
theorem join_small : ∀ (ws : List Tx) (k : Nat), (∀ u ∈ ws, u.length ≤ k) → (joinM ws).length ≤ ws.length * (k + 1)
 | [], k, _ => by simp [joinM]
 | w :: r, k, h => by
  rw [join_cons, List.length_append]
  have h1 := h w (by simp)
  have h2 : ∀ l : List Tx, (∀ u ∈ l, u.length ≤ k) → (l.flatMap (32 :: ·)).length ≤ l.length * (k + 1) := by
   intro l
   induction l with
   | nil => intro _; simp
   | cons x r ih =>
    intro hx
    have := hx x (by simp)
    have := ih (fun u hu => hx u (by simp [hu]))
    rw [List.flatMap_cons, List.length_append, List.length_cons, List.length_cons, Nat.add_mul]
    omega
  have := h2 r (fun u hu => h u (by simp [hu]))
  rw [List.length_cons, Nat.add_mul]
  omega
theorem made_len {m t : Tx} (h : madeB m t = true) : t.length ≤ 16 := by
 unfold madeB at h
 simp only [Bool.and_eq_true, decide_eq_true_eq] at h
 exact h.1.2
theorem name_len {t : Tx} (h : nameB t = true) : t.length ≤ 16 := by
 unfold nameB at h
 simp only [Bool.and_eq_true] at h
 exact made_len h.1
theorem file_len {t : Tx} (h : fileB t = true) : t.length ≤ 16 := made_len h
theorem check_len {op : Tx} {a : List Int} (h : (checkM op a).1 = 0) : op.length ≤ 16 := by
 have hd : ∀ t ∈ [pts, mvs, ard, bld], ∀ p ∈ t, p.1.length ≤ 16 := by decide
 have hf : ∀ t ∈ [pts, mvs, ard, bld], ∀ b, findM t op = some b → op.length ≤ 16 := fun t ht b hb => hd t ht _ (findM_mem hb)
 unfold checkM at h
 split at h
 ·cases hp : findM pts op with
  | none => unfold ptsM at h; rw [hp] at h; simp at h
  | some b => exact hf pts (by simp) b hp
 ·split at h
  ·cases hp : findM mvs op with
   | none => unfold chkM at h; rw [hp] at h; simp at h
   | some b => exact hf mvs (by simp) b hp
  ·split at h
   ·cases hp : findM ard op with
    | none => unfold chkM at h; rw [hp] at h; simp at h
    | some b => exact hf ard (by simp) b hp
   ·cases hp : findM bld op with
    | none => unfold chkM at h; rw [hp] at h; simp at h
    | some b => exact hf bld (by simp) b hp
theorem step_small {w : List Tx} {s : St} (h : stepM w = some s) : s.op.length ≤ 16 ∧ s.dst.length ≤ 16 ∧ (∀ t ∈ s.srcs, t.length ≤ 16) ∧ s.file.length ≤ 16 := by
 unfold stepM at h
 simp only at h
 split at h
 ·rename_i hop
  split at h
  ·rename_i hc
   injection h with h; subst h
   exact ⟨by rw [hop]; show 4 ≤ 16; decide, name_len hc.2.1, (fun t ht => by cases ht), file_len hc.2.2⟩
  ·cases h
 ·split at h
  ·rename_i hop
   split at h
   ·rename_i hc
    split at h
    ·cases h
    ·split at h
     ·injection h with h; subst h
      exact ⟨by rw [hop]; show 5 ≤ 16; decide, Nat.zero_le _, (fun t ht => by rw [List.mem_singleton] at ht; subst ht; exact name_len hc.2.1), file_len hc.2.2⟩
     ·cases h
   ·cases h
  ·split at h
   ·rename_i hop
    split at h
    ·rename_i hc
     split at h
     ·cases h
     ·split at h
      ·injection h with h; subst h; exact ⟨by rw [hop]; show 4 ≤ 16; decide, name_len hc.2, (fun t ht => by cases ht), Nat.zero_le _⟩
      ·cases h
    ·cases h
   ·split at h
    ·rename_i hc
     split at h
     ·cases h
     ·split at h
      ·rename_i hz
       injection h with h; subst h
       exact ⟨check_len hz, name_len hc.2.1, fun t ht => name_len (List.all_eq_true.1 hc.2.2 t ht), Nat.zero_le _⟩
      ·cases h
    ·cases h
theorem itoa_small {a : Int} (h : -9223372036854775808 ≤ a ∧ a ≤ 9223372036854775807) : (itoa a).length ≤ 21 := Lib.itoa_length_le a (by omega) (by omega)
theorem words_small {w : List Tx} {s : St} (h : stepM w = some s) (hb : ∀ a ∈ s.args, -9223372036854775808 ≤ a ∧ a ≤ 9223372036854775807) : ∀ u ∈ spellW s, u.length ≤ 21 := by
 obtain ⟨h1, h2, h3, h4⟩ := step_small h
 intro u hu
 unfold spellW at hu
 simp only [List.mem_cons, List.mem_append] at hu
 rcases hu with rfl | hu | hu | hu | hu
 ·omega
 ·split at hu
  ·cases hu
  ·rw [List.mem_singleton] at hu; subst hu; omega
 ·have := h3 u hu; omega
 ·split at hu
  ·cases hu
  ·rw [List.mem_singleton] at hu; subst hu; omega
 ·have hm : ∀ l : List Int, (∀ a ∈ l, -9223372036854775808 ≤ a ∧ a ≤ 9223372036854775807) → ∀ u ∈ l.map itoa, u.length ≤ 21 := fun l hl u hu => by
   obtain ⟨a, ha, rfl⟩ := List.mem_map.1 hu
   exact itoa_small (hl a ha)
  cases ha : s.args with
  | nil => rw [ha] at hu; simp [argsW] at hu
  | cons k r =>
   rw [ha] at hu hb
   have e : argsW s.op (k :: r) = if s.op = [119, 114, 105, 116, 101] then fmtsM.getD (k - 1).toNat [] :: r.map itoa else (k :: r).map itoa := rfl
   rw [e] at hu
   split at hu
   ·rw [List.mem_cons] at hu
    rcases hu with rfl | hu
    ·have hf : ∀ f ∈ fmtsM, f.length ≤ 21 := by decide
     rw [List.getD_eq_getElem?_getD]
     cases hk : fmtsM[(k - 1).toNat]? with
     | none => exact Nat.zero_le _
     | some f => exact hf f (List.mem_of_getElem? hk)
    ·exact hm r (fun a ha => hb a (by simp [ha])) u hu
   ·exact hm (k :: r) hb u hu
theorem argsW_len (op : Tx) : ∀ l : List Int, (argsW op l).length = l.length
 | [] => rfl
 | k :: r => by
  have e : argsW op (k :: r) = if op = [119, 114, 105, 116, 101] then fmtsM.getD (k - 1).toNat [] :: r.map itoa else (k :: r).map itoa := rfl
  rw [e]
  split <;> simp
theorem spellW_len (s : St) : (spellW s).length ≤ s.srcs.length + s.args.length + 3 := by
 unfold spellW
 simp only [List.length_cons, List.length_append, argsW_len]
 split <;> split <;> simp <;> omega
structure WQ (w W : World) (bs : Tx) (known : List Tx) (cnt : Nat) : Prop where
 bd : Lib.IsBuilderF 60 5 w.heap.size w.heap.size (Lib.byteCells bs) W
 km : KM W (w.heap.size + 1) cnt (fun t => known.contains t)
 bx : W.heap[w.heap.size + 2]? = some (.cells #[.map (some (w.heap.size + 1))] 46 (0, 0))
 bel : Below w.heap.size w W
section
variable {w W W2 : World} {bs : Tx} {known : List Tx} {cnt : Nat}
theorem WQ.sz (h : WQ w W bs known cnt) : w.heap.size + 3 ≤ W.heap.size := (Array.getElem?_eq_some_iff.1 h.bx).1
theorem builder_below {b B : Nat} {l : List Value} (h : Lib.IsBuilderF 60 5 B b l W) (hb : Below W.heap.size W W2) : Lib.IsBuilderF 60 5 B b l W2 := by
 have hk : ∀ p, Lib.BuilderAtF 60 5 B b p l W → Lib.BuilderAtF 60 5 B b p l W2 := by
  rintro p ⟨hB, v, hb', hown, hne⟩
  exact ⟨hB, v, (hb.block _ (Array.getElem?_eq_some_iff.1 hb').1).trans hb', ⟨hown.1, hown.2.imp id (fun ⟨g, cap, cur, fz, e1, e2, e3, e4⟩ => ⟨g, cap, cur, fz, e1, e2, (hb.block _ (Array.getElem?_eq_some_iff.1 e3).1).trans e3, e4⟩)⟩, hne⟩
 exact h.imp (hk _) (hk _)
theorem WQ.on (h : WQ w W bs known cnt) (hb : Below W.heap.size W W2) : WQ w W2 bs known cnt :=
 ⟨builder_below h.bd hb, h.km.below hb h.km.lt, (hb.block _ (Array.getElem?_eq_some_iff.1 h.bx).1).trans h.bx, h.bel.trans (hb.mono h.bel.size)⟩
theorem WQ.cell (h : WQ w W bs known cnt) : W.cell? ⟨w.heap.size + 2, 0, none⟩ = some (.map (some (w.heap.size + 1))) := Ard.row_cell h.bx 0
theorem KM.isMap {w : World} {B n : Nat} {p : Tx → Bool} (h : KM w B n p) : ∃ es clock, w.heap[B]? = some (.map es clock) := by
 obtain ⟨D, ⟨es, clock, h1, -⟩, -⟩ := h
 exact ⟨es, clock, h1⟩
theorem builder_kept {b B q : Nat} {l : List Value} (h : Lib.IsBuilderF 60 5 B b l W) (hg : W.grownBy W2 (some q)) (hq : ∀ cs e fz, W.heap[q]? ≠ some (Obj.cells cs e fz)) : Lib.IsBuilderF 60 5 B b l W2 := by
 have hk : ∀ p, Lib.BuilderAtF 60 5 B b p l W → Lib.BuilderAtF 60 5 B b p l W2 := by
  rintro p ⟨hB, v, hb, hown, hne⟩
  refine ⟨hB, v, (hg.block _ (Array.getElem?_eq_some_iff.1 hb).1 (fun e => ?_)).trans hb, hown.kept hg ?_, hne⟩
  ·injection e with e
   subst e
   exact hq _ _ _ hb
  ·rcases hown.2 with ⟨rfl, _⟩ | ⟨g, cap, cur, fz, rfl, -, hgb, -⟩
   ·exact .inl rfl
   ·refine .inr fun e => ?_
    have : g = q := by simpa [Value.ownBlock] using e
    subst this
    exact hq _ _ _ hgb
 exact h.imp (hk _) (hk _)
theorem WQ.put (h : WQ w W bs known cnt) (hcnt : cnt < maxLen) {t : Tx} (ht : t.length ≤ maxLen) :
  ∃ W2, (Instr.mapUpdate 46 (.map (some (w.heap.size + 1))) (.string (ba t)) (.bool true)).run Tryz.prog W = .ok () W2 ∧ W.grownBy W2 (some (w.heap.size + 1)) ∧ WQ w W2 bs (t :: known) (cnt + 1) := by
 obtain ⟨W2, h1, h2, h3⟩ := h.km.put hcnt ht
 obtain ⟨es, clock, hm⟩ := h.km.isMap
 refine ⟨W2, h1, h3, builder_kept h.bd h3 (fun cs e fz hc => by rw [hm] at hc; cases hc), ?_, (h3.block _ (Array.getElem?_eq_some_iff.1 h.bx).1 (by simp)).trans h.bx, h.bel.grown h3 (by have := h.sz; omega) (fun q e => by injection e with e; omega)⟩
 have : (fun u => (t :: known).contains u) = (fun u => u == t || known.contains u) := by
  funext u
  rw [List.contains_cons]
 rw [this]
 exact h2
theorem WQ.wrote {s : Tx} (h : WQ w W bs known cnt) (h1 : Lib.BuilderAtF 60 5 w.heap.size w.heap.size (.pointer (some ⟨w.heap.size, 0, none⟩)) (Lib.byteCells bs ++ Lib.strCells (ba s)) W2) (hb : Below w.heap.size W W2) (ho : Lib.OthersKept 5 (some w.heap.size) W W2) : WQ w W2 (bs ++ s) known cnt := by
 obtain ⟨es, clock, hm⟩ := h.km.isMap
 refine ⟨.inr ?_, h.km.same ((ho _ _ hm (by simp) (fun c fz e => by cases e)).trans hm.symm), ho _ _ h.bx (by simp) (fun c fz e => by injection e with _ e; exact absurd e (by decide)), h.bel.trans hb⟩
 have : Lib.byteCells (bs ++ s) = Lib.byteCells bs ++ Lib.strCells (ba s) := by unfold Lib.byteCells Lib.strCells; rw [List.map_append]; rfl
 rw [this]
 exact h1
end
end Go.Proofs.YtoofgblmpjndjaaGreatDoor.Scr
