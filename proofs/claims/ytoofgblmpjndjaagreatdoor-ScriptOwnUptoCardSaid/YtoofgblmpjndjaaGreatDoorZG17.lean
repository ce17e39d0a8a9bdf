/-
  Texts of this claim, joined by program (ScZ, PrsB, PrsC). Plain: what is written is read again; scripts behind each other.
-/
import Derived.Test.YtoofgblmpjndjaaGreatDoorZG9
import Derived.Test.YtoofgblmpjndjaaGreatDoorZG13
import Derived.Test.YtoofgblmpjndjaaGreatDoorZG16
import Derived.Lib.SplitLaws
set_option linter.unusedVariables false
set_option linter.unusedSimpArgs false
namespace Go.Proofs.YtoofgblmpjndjaaGreatDoor.Scr
open Go.RowKit K Go.Lib

def stopS (s : St) : Bool := decide (s.op = writeT) && (match s.args with | [] => false | a :: _ => decide (a < 1 ∨ 6 < a))
instance : DecidableEq St := fun a b => decidable_of_iff (a.op = b.op ∧ a.dst = b.dst ∧ a.srcs = b.srcs ∧ a.file = b.file ∧ a.args = b.args) (by cases a; cases b; simp)
def writeP : List St → Tx → List Tx → Option Tx
 | [], out, _ => some out
 | s :: r, out, known => if stopS s = false ∧ stepM (spellW s) = some s ∧ s.srcs.all known.contains = true then writeP r (out ++ (joinM (spellW s) ++ [10])) (s.dst :: known) else none
def writeM (l : List St) : Tx × Int := if 64 < l.length then ([], 7) else match writeP l [] [] with
 | none => ([], 7)
 | some t => if 8192 < t.length then ([], 3) else (t, 0)
theorem fmtN_bd {f : Tx} (h : 1 ≤ fmtN f) : f ∈ fmtsM ∧ fmtsM.getD (fmtN f - 1).toNat [] = f ∧ fmtN f ≤ 6 := by
 unfold fmtN at h ⊢
 by_cases hf : f ∈ fmtsM
 ·rw [if_pos hf]
  simp only [fmtsM, List.mem_cons, List.not_mem_nil, or_false] at hf
  refine ⟨by simp only [fmtsM, List.mem_cons, List.not_mem_nil, or_false]; exact hf, ?_⟩
  rcases hf with rfl | rfl | rfl | rfl | rfl | rfl <;> decide
 ·rw [if_neg hf] at h; omega
theorem fmts_clean : ∀ f ∈ fmtsM, clean f := by
 intro f hf
 have h : ∀ f ∈ fmtsM, (f ≠ [] ∧ (f.all okC) = true) := by decide
 exact ⟨(h f hf).1, fun c hc => List.all_eq_true.1 (h f hf).2 c hc⟩
theorem formatB_pos {k : Int} {r : List Int} (h : formatB (k :: r) = true) : 1 ≤ k ∧ k ≤ 6 := by
 rw [formatB_cons] at h
 repeat' split at h
 all_goals first | omega | cases h
theorem tables_clean : ∀ t ∈ [pts, mvs, ard, bld], ∀ p ∈ t, clean p.1 := by
 intro t ht p hp
 have h : ∀ t ∈ [pts, mvs, ard, bld], ∀ p ∈ t, (p.1 ≠ [] ∧ (p.1.all okC) = true) := by decide
 exact ⟨(h t ht p hp).1, fun c hc => List.all_eq_true.1 (h t ht p hp).2 c hc⟩
theorem findM_mem {t : List (Tx × List (Int × Int))} {op : Tx} {b : List (Int × Int)} (h : findM t op = some b) : (op, b) ∈ t := by
 unfold findM at h
 obtain ⟨p, h1, h2⟩ := Option.map_eq_some_iff.1 h
 have h3 := List.find?_some h1
 have h4 := List.mem_of_find?_eq_some h1
 obtain ⟨a, c⟩ := p
 simp only [beq_iff_eq] at h3 h2
 subst h3 h2
 exact h4
theorem checkM_clean {op : Tx} {a : List Int} (h : (checkM op a).1 = 0) : clean op := by
 have hf : ∀ t ∈ [pts, mvs, ard, bld], ∀ b, findM t op = some b → clean op := fun t ht b hb => tables_clean t ht _ (findM_mem hb)
 unfold checkM at h
 split at h
 ·cases hp : findM pts op with
  | none => unfold ptsM at h; rw [hp] at h; simp at h
  | some b => exact hf pts (by simp) b hp
 ·split at h
  ·cases hp : findM mvs op with
   | none => unfold chkM at h; rw [hp] at h; simp at h
   | some b => exact hf mvs (by simp) b hp
  ·split at h
   ·cases hp : findM ard op with
    | none => unfold chkM at h; rw [hp] at h; simp at h
    | some b => exact hf ard (by simp) b hp
   ·cases hp : findM bld op with
    | none => unfold chkM at h; rw [hp] at h; simp at h
    | some b => exact hf bld (by simp) b hp
theorem nums_itoa2 {l : List Tx} {a : List Int} (h : numsM l = some a) : numsM (a.map itoa) = some a := nums_itoa a (nums_bd h)
theorem clean_ne {t : Tx} (h : clean t) : t ≠ [] := h.1
theorem srcsT_join : ∀ (l : List Tx) (r : Tx), srcsT l ++ r = l.flatMap (32 :: ·) ++ r := fun _ _ => rfl
theorem join_cons (w : Tx) : ∀ (l : List Tx), joinM (w :: l) = w ++ l.flatMap (32 :: ·)
 | [] => by simp [joinM]
 | x :: r => by
  show w ++ 32 :: joinM (x :: r) = _
  rw [join_cons x r]
  simp
theorem optT_of {t : Tx} : optT t = (if t = [] then [] else [t]).flatMap (32 :: ·) := by
 unfold optT
 split <;> simp
theorem argsS_words {op : Tx} : ∀ {k : Nat} {l : List Int}, (k ≠ 0 ∨ op ≠ writeT) → argsS op k l = (l.map itoa).flatMap (32 :: ·)
 | _, [], _ => rfl
 | k, a :: l, h => by
  have h1 : ¬ stopA op k a := fun hs => by rcases h with h | h; exact h hs.2.1; exact h hs.1
  have h2 : ¬ (op = writeT ∧ k = 0) := fun hs => by rcases h with h | h; exact h hs.2; exact h hs.1
  rw [argsS_cons, if_neg h1, argsS_words (k := k + 1) (l := l) (.inl (by omega))]
  unfold wordA
  rw [if_neg h2]
  simp
theorem spellT_join {s : St} (h : stopS s = false) : spellT s = joinM (spellW s) := by
 unfold spellT headS spellW
 rw [join_cons]
 simp only [List.flatMap_append, ← optT_of]
 have hargs : argsS s.op 0 s.args = (argsW s.op s.args).flatMap (32 :: ·) := by
  match ha : s.args with
  | [] => rfl
  | a :: l =>
   by_cases hw : s.op = writeT
   ·have hns : ¬ stopA s.op 0 a := by
     rintro ⟨-, -, h3⟩
     unfold stopS at h
     rw [ha] at h
     simp [hw] at h
     omega
    rw [argsS_cons, if_neg hns, argsS_words (k := 0 + 1) (.inl (by omega))]
    unfold wordA argsW
    simp only
    rw [if_pos ⟨hw, trivial⟩, if_pos (show s.op = [119, 114, 105, 116, 101] from hw)]
    simp
   ·rw [argsS_words (.inr hw)]
    unfold argsW
    simp only
    rw [if_neg (show ¬ s.op = [119, 114, 105, 116, 101] from hw)]
 rw [hargs]
 simp [srcsT]
theorem dropS2 {α : Type} : ∀ (l : List α) (d : α) {n : Nat}, n < l.length → l.drop n = l.getD n d :: l.drop (n + 1)
 | a :: l, d, 0, _ => rfl
 | a :: l, d, n + 1, h => by
  have := dropS2 l d (n := n) (by simpa using h)
  simpa using this
theorem step_other {op : Tx} (h1 : op ≠ [114, 101, 97, 100]) (h2 : op ≠ [119, 114, 105, 116, 101]) (h3 : op ≠ [102, 105, 108, 108]) (r : List Tx) : stepM (op :: r) =
  (if 2 + (checkM op []).2 ≤ (op :: r).length ∧ nameB ((op :: r).getD 1 []) = true ∧ (((op :: r).drop 2).take (checkM op []).2).all nameB = true then
   match numsM ((op :: r).drop (2 + (checkM op []).2)) with
   | none => none
   | some l => if (checkM op l).1 = 0 then some ⟨op, (op :: r).getD 1 [], ((op :: r).drop 2).take (checkM op []).2, [], l⟩ else none
  else none) := by
 unfold stepM
 simp only [List.getD_cons_zero]
 rw [if_neg h1, if_neg h2, if_neg h3]
 rfl
theorem step_spell {w : List Tx} {s : St} (h : stepM w = some s) : stopS s = false ∧ stepM (spellW s) = some s ∧ (∀ u ∈ spellW s, clean u) ∧ (∀ u ∈ s.srcs, u ≠ []) := by
 obtain ⟨op, hop⟩ : ∃ op, w.getD 0 [] = op := ⟨_, rfl⟩
 unfold stepM at h
 rw [hop] at h
 simp only at h
 by_cases h1 : op = [114, 101, 97, 100]
 ·rw [if_pos h1] at h
  split at h
  ·rename_i hc
   obtain ⟨hc1, hc2, hc3⟩ := hc
   injection h with h
   have n1 := name_clean hc2
   have n2 := file_clean hc3
   generalize w.getD 1 [] = d at *
   generalize w.getD 2 [] = f at *
   subst h h1
   have e : spellW ⟨[114, 101, 97, 100], d, [], f, []⟩ = [[114, 101, 97, 100], d, f] := by
    unfold spellW
    simp only [if_neg n1.1, if_neg n2.1]
    rfl
   rw [e]
   refine ⟨rfl, ?_, ?_, by simp⟩
   ·unfold stepM
    simp only [List.getD_cons_zero, List.getD_cons_succ, if_true]
    rw [if_pos ⟨rfl, hc2, hc3⟩]
   ·intro u hu
    simp only [List.mem_cons, List.not_mem_nil, or_false] at hu
    rcases hu with rfl | rfl | rfl
    ·exact ⟨by decide, by decide⟩
    ·exact n1
    ·exact n2
  ·cases h
 ·rw [if_neg h1] at h
  by_cases h2 : op = [119, 114, 105, 116, 101]
  ·rw [if_pos h2] at h
   split at h
   ·rename_i hc
    obtain ⟨hc1, hc2, hc3⟩ := hc
    split at h
    ·cases h
    ·rename_i l hl
     split at h
     ·rename_i hf
      injection h with h
      have n1 := name_clean hc2
      have n2 := file_clean hc3
      obtain ⟨hk1, hk2⟩ := formatB_pos hf
      obtain ⟨f1, f2, f3⟩ := fmtN_bd hk1
      have hnb := nums_itoa2 hl
      generalize w.getD 1 [] = d at *
      generalize w.getD 2 [] = f at *
      generalize w.getD 3 [] = fm at *
      subst h h2
      have e : spellW ⟨[119, 114, 105, 116, 101], [], [d], f, fmtN fm :: l⟩ = [119, 114, 105, 116, 101] :: d :: f :: fm :: l.map itoa := by
       unfold spellW argsW
       simp only [if_neg n2.1, if_true, f2]
       rfl
      rw [e]
      refine ⟨?_, ?_, ?_, by simp; exact n1.1⟩
      ·unfold stopS
       simp only [Bool.and_eq_false_iff, decide_eq_false_iff_not]
       right
       omega
      ·unfold stepM
       simp only [List.getD_cons_zero, List.getD_cons_succ, List.length_cons, List.drop_succ_cons, List.drop_zero]
       rw [if_neg (by decide), if_pos trivial, if_pos ⟨by omega, hc2, hc3⟩, hnb]
       simp only
       rw [if_pos hf]
      ·intro u hu
       simp only [List.mem_cons, List.mem_map] at hu
       rcases hu with rfl | rfl | rfl | rfl | ⟨n, -, rfl⟩
       ·exact ⟨by decide, by decide⟩
       ·exact n1
       ·exact n2
       ·exact fmts_clean _ f1
       ·exact itoa_clean n
     ·cases h
   ·cases h
  ·rw [if_neg h2] at h
   by_cases h3 : op = [102, 105, 108, 108]
   ·rw [if_pos h3] at h
    split at h
    ·rename_i hc
     obtain ⟨hc1, hc2⟩ := hc
     split at h
     ·cases h
     ·rename_i l hl
      split at h
      ·rename_i hf
       injection h with h
       have n1 := name_clean hc2
       have hnb := nums_itoa2 hl
       generalize w.getD 1 [] = d at *
       subst h h3
       have e : spellW ⟨[102, 105, 108, 108], d, [], [], l⟩ = [102, 105, 108, 108] :: d :: l.map itoa := by
        unfold spellW
        simp only [if_neg n1.1, if_true]
        cases l <;> rfl
       rw [e]
       refine ⟨rfl, ?_, ?_, by simp⟩
       ·unfold stepM
        simp only [List.getD_cons_zero, List.getD_cons_succ, List.length_cons, List.drop_succ_cons, List.drop_zero]
        rw [if_neg (by decide), if_neg (by decide), if_pos trivial, if_pos ⟨by omega, hc2⟩, hnb]
        simp only
        rw [if_pos hf]
       ·intro u hu
        simp only [List.mem_cons, List.mem_map] at hu
        rcases hu with rfl | rfl | ⟨n, -, rfl⟩
        ·exact ⟨by decide, by decide⟩
        ·exact n1
        ·exact itoa_clean n
      ·cases h
    ·cases h
   ·rw [if_neg h3] at h
    split at h
    ·rename_i hc
     obtain ⟨hc1, hc2, hc3⟩ := hc
     split at h
     ·cases h
     ·rename_i l hl
      split at h
      ·rename_i hf
       injection h with h
       have n1 := name_clean hc2
       have nop := checkM_clean hf
       have hnb := nums_itoa2 hl
       generalize hn : (checkM op []).2 = n at *
       have hsl : ((w.drop 2).take n).length = n := by rw [List.length_take, List.length_drop]; omega
       generalize w.getD 1 [] = d at *
       generalize (w.drop 2).take n = ss at *
       subst h
       have hssn : ∀ u ∈ ss, nameB u = true := List.all_eq_true.1 hc3
       have haw : argsW op l = l.map itoa := by
        unfold argsW
        match l with
        | [] => rfl
        | a :: r => exact if_neg h2
       have e : spellW ⟨op, d, ss, [], l⟩ = op :: d :: (ss ++ l.map itoa) := by
        unfold spellW
        simp only [if_neg n1.1, if_true, haw]
        rfl
       rw [e]
       refine ⟨?_, ?_, ?_, fun u hu => (name_clean (hssn u hu)).1⟩
       ·unfold stopS
        simp only [Bool.and_eq_false_iff, decide_eq_false_iff_not]
        exact .inl h2
       ·rw [step_other h1 h2 h3, hn]
        simp only [List.getD_cons_zero, List.getD_cons_succ, List.length_cons, List.drop_succ_cons, List.drop_zero, List.length_append, List.length_map]
        have t1 : (ss ++ l.map itoa).take n = ss := by rw [List.take_left' hsl]
        have t2 : (op :: d :: (ss ++ l.map itoa)).drop (2 + n) = l.map itoa := by
         rw [Nat.add_comm, List.drop_succ_cons, List.drop_succ_cons, List.drop_left' hsl]
        rw [t1, t2, if_pos ⟨by omega, hc2, hc3⟩, hnb]
        simp only
        rw [if_pos hf]
       ·intro u hu
        simp only [List.mem_cons, List.mem_append, List.mem_map] at hu
        rcases hu with rfl | rfl | hu | ⟨m, -, rfl⟩
        ·exact nop
        ·exact n1
        ·exact name_clean (hssn u hu)
        ·exact itoa_clean m
      ·cases h
    ·cases h
theorem spell_ne (s : St) : spellW s ≠ [] := by unfold spellW; simp
def plainT (t : Tx) : Bool := t.all fun c => !(c == 10 || c == 13 || c == 9 || c == 35)
theorem join_plain {l : List Tx} (h : ∀ u ∈ l, clean u) : plainT (joinM l) = true := by
 unfold plainT
 refine List.all_eq_true.2 fun c hc => ?_
 rcases join_clean h c hc with h | rfl
 ·obtain ⟨-, h2, h3, h4, h5⟩ := okC_facts h
  simp [h2, h3, h4, h5]
 ·decide
theorem spell_iff {s : St} : (plainT (spellT s) = true ∧ stepM (wordsM (spellT s)) = some s) ↔ (stopS s = false ∧ stepM (spellW s) = some s) := by
 constructor
 ·rintro ⟨-, h⟩
  obtain ⟨h1, h2, -, -⟩ := step_spell h
  exact ⟨h1, h2⟩
 ·rintro ⟨h0, h⟩
  obtain ⟨h1, h2, h3, -⟩ := step_spell h
  rw [spellT_join h0, words_join h3]
  exact ⟨join_plain h3, h⟩
theorem step_nil : stepM [] = none := by rfl
theorem lines_append : ∀ (a b cur : Tx), linesM (a ++ 10 :: b) cur = linesM a cur ++ linesM b []
 | [], b, cur => by
  show (if (10 : UInt8) = 10 then cur :: linesM b [] else _) = _
  rw [if_pos rfl]; rfl
 | c :: a, b, cur => by
  rw [List.cons_append]
  show (if c = 10 then cur :: linesM (a ++ 10 :: b) [] else linesM (a ++ 10 :: b) (cur ++ [c])) = (if c = 10 then cur :: linesM a [] else linesM a (cur ++ [c])) ++ _
  split
  ·rw [lines_append a b []]; rfl
  ·exact lines_append a b (cur ++ [c])
theorem lines_one : ∀ {t cur : Tx}, (∀ c ∈ t, c ≠ 10) → linesM t cur = [cur ++ t]
 | [], cur, _ => by show [cur] = _; rw [List.append_nil]
 | c :: t, cur, h => by
  show (if c = 10 then _ else linesM t (cur ++ [c])) = _
  rw [if_neg (h c (by simp)), lines_one (fun d hd => h d (by simp [hd]))]
  simp
theorem linesP_cons (t : Tx) (r : List Tx) (n : Int) (out : List (Int × St)) (known : List Tx) : linesP (t :: r) n out known =
  if wordsM t = [] then linesP r (n + 1) out known else
  match stepM (wordsM t) with
  | none => .err (n + 1) 7
  | some s =>
   if 64 ≤ out.length then .err (n + 1) 7
   else if s.srcs.all known.contains then linesP r (n + 1) (out ++ [(n + 1, s)]) (s.dst :: known)
   else .err (n + 1) 8 := rfl
def dstsR (l : List (Int × St)) : List Tx := (l.map fun p => p.2.dst).reverse
theorem dstsR_cons (p : Int × St) (l : List (Int × St)) : dstsR (p :: l) = dstsR l ++ [p.2.dst] := by unfold dstsR; simp
theorem linesP_ok : ∀ {a : List Tx} {n : Int} {out known : _} {out' : List (Int × St)}, linesP a n out known = .ok out' →
  ∃ ext, out' = out ++ ext ∧ (∀ b, linesP (a ++ b) n out known = linesP b (n + a.length) out' (dstsR ext ++ known)) ∧ (out.length ≤ 64 → out'.length ≤ 64)
 | [], n, out, known, out', h => by
  injection h with h
  subst h
  refine ⟨[], by simp, fun b => ?_, fun h => h⟩
  show linesP b n out known = linesP b (n + 0) out ([] ++ known)
  rw [Int.add_zero]; rfl
 | t :: r, n, out, known, out', h => by
  rw [linesP_cons] at h
  split at h
  ·rename_i hw
   obtain ⟨ext, h1, h2, h3⟩ := linesP_ok h
   refine ⟨ext, h1, fun b => ?_, h3⟩
   rw [List.cons_append, linesP_cons, if_pos hw, h2 b, List.length_cons]
   congr 1
   push_cast; omega
  ·rename_i hw
   split at h
   ·cases h
   ·rename_i s hs
    split at h
    ·cases h
    ·rename_i hl
     split at h
     ·rename_i hk
      obtain ⟨ext, h1, h2, h3⟩ := linesP_ok h
      refine ⟨(n + 1, s) :: ext, by rw [h1]; simp, fun b => ?_, fun _ => h3 (by rw [List.length_append, List.length_singleton]; omega)⟩
      rw [List.cons_append, linesP_cons, if_neg hw, hs]
      simp only
      rw [if_neg hl, if_pos hk, h2 b, List.length_cons, dstsR_cons, List.append_assoc]
      congr 1
      push_cast; omega
     ·cases h
def numS : Int → List St → List (Int × St)
 | _, [] => []
 | n, s :: r => (n + 1, s) :: numS (n + 1) r
theorem numS_len : ∀ {l : List St} {n : Int}, (numS n l).length = l.length
 | [], _ => rfl
 | s :: r, n => by show (numS (n + 1) r).length + 1 = _; rw [numS_len]; rfl
theorem numS_snd : ∀ {l : List St} {n : Int}, (numS n l).map (·.2) = l
 | [], _ => rfl
 | s :: r, n => by show s :: (numS (n + 1) r).map (·.2) = _; rw [numS_snd]
theorem numS_at : ∀ {l : List St} {n : Int} {i : Nat} {p : Int × St}, (numS n l)[i]? = some p → p.1 = n + 1 + i
 | s :: r, n, 0, p, h => by
  injection h with h
  subst h
  show n + 1 = n + 1 + 0
  omega
 | s :: r, n, i + 1, p, h => by
  have h1 : (numS (n + 1) r)[i]? = some p := h
  have := numS_at h1
  push_cast; omega
theorem writeP_cons (s : St) (r : List St) (out : Tx) (known : List Tx) : writeP (s :: r) out known = if stopS s = false ∧ stepM (spellW s) = some s ∧ s.srcs.all known.contains = true then writeP r (out ++ (joinM (spellW s) ++ [10])) (s.dst :: known) else none := rfl
theorem write_parse : ∀ {l : List St} {out known : _} {t : Tx}, writeP l out known = some t →
  ∃ u, t = out ++ u ∧ ∀ (n : Int) (o : List (Int × St)), o.length + l.length ≤ 64 → linesP (linesM u []) n o known = .ok (o ++ numS n l)
 | [], out, known, t, h => by
  injection h with h
  subst h
  refine ⟨[], by simp, fun n o _ => ?_⟩
  show linesP [[]] n o known = _
  rw [linesP_cons, if_pos (by decide)]
  show Ans.ok o = .ok (o ++ [])
  rw [List.append_nil]
 | s :: r, out, known, t, h => by
  rw [writeP_cons] at h
  split at h
  ·rename_i hc
   obtain ⟨h0, h1, h2⟩ := hc
   obtain ⟨u, hu, ih⟩ := write_parse h
   obtain ⟨-, -, hcl, -⟩ := step_spell h1
   refine ⟨joinM (spellW s) ++ 10 :: u, by rw [hu]; simp, fun n o hle => ?_⟩
   have hno : ∀ c ∈ joinM (spellW s), c ≠ 10 := fun c hc => by
    rcases join_clean hcl c hc with h | rfl
    ·exact (okC_facts h).2.1
    ·decide
   rw [lines_append, lines_one hno, List.nil_append, List.singleton_append, linesP_cons, words_join hcl, if_neg (spell_ne s), h1]
   simp only
   rw [List.length_cons] at hle
   rw [if_neg (by omega), if_pos h2, ih (n + 1) (o ++ [(n + 1, s)]) (by rw [List.length_append, List.length_singleton]; omega)]
   show _ = Ans.ok (o ++ ((n + 1, s) :: numS (n + 1) r))
   simp
  ·cases h
theorem parse_write : ∀ {a : List Tx} {n : Int} {out known : _} {out' : List (Int × St)}, linesP a n out known = .ok out' →
  ∃ ext, out' = out ++ ext ∧ ∀ o : Tx, ∃ t, writeP (ext.map (·.2)) o known = some t
 | [], n, out, known, out', h => by
  injection h with h
  subst h
  exact ⟨[], by simp, fun o => ⟨o, rfl⟩⟩
 | t :: r, n, out, known, out', h => by
  rw [linesP_cons] at h
  split at h
  ·exact parse_write h
  ·split at h
   ·cases h
   ·rename_i s hs
    split at h
    ·cases h
    ·split at h
     ·rename_i hk
      obtain ⟨ext, h1, h2⟩ := parse_write h
      obtain ⟨g1, g2, -, -⟩ := step_spell hs
      refine ⟨(n + 1, s) :: ext, by rw [h1]; simp, fun o => ?_⟩
      rw [List.map_cons, writeP_cons, if_pos ⟨g1, g2, hk⟩]
      exact h2 _
     ·cases h
theorem parseM_len {t : Tx} {l : List (Int × St)} (h : parseM t = .ok l) : t.length ≤ 8192 ∧ l.length ≤ 64 := by
 unfold parseM at h
 split at h
 ·cases h
 ·obtain ⟨ext, h1, -, h3⟩ := linesP_ok h
  exact ⟨by omega, h3 (by simp)⟩
theorem back_read {t : Tx} {a : List (Int × St)} (h : parseM t = .ok a) :
  (writeM (a.map (·.2)) = ([], 3)) ∨ ∃ s, writeM (a.map (·.2)) = (s, 0) ∧ parseM s = .ok (numS 0 (a.map (·.2))) := by
 obtain ⟨h1, h2⟩ := parseM_len h
 unfold parseM at h
 rw [if_neg (by omega)] at h
 obtain ⟨ext, e1, hw⟩ := parse_write h
 rw [List.nil_append] at e1
 subst e1
 obtain ⟨s, hs⟩ := hw []
 obtain ⟨u, hu, hp⟩ := write_parse hs
 rw [List.nil_append] at hu
 subst hu
 have hlen : (a.map (·.2)).length ≤ 64 := by rw [List.length_map]; exact h2
 unfold writeM
 rw [if_neg (by omega), hs]
 simp only
 by_cases hl : 8192 < s.length
 ·left; rw [if_pos hl]
 ·right
  rw [if_neg hl]
  refine ⟨s, rfl, ?_⟩
  unfold parseM
  rw [if_neg hl, hp 0 [] (by simp at hlen ⊢; exact hlen), List.nil_append]
theorem back_write {l : List St} : (∃ e, e ≠ 0 ∧ writeM l = ([], e)) ∨ ∃ s, writeM l = (s, 0) ∧ parseM s = .ok (numS 0 l) := by
 unfold writeM
 by_cases h64 : 64 < l.length
 ·left; rw [if_pos h64]; exact ⟨7, by decide, rfl⟩
 ·rw [if_neg h64]
  cases hs : writeP l [] [] with
  | none => left; exact ⟨7, by decide, rfl⟩
  | some t =>
   simp only
   by_cases hl : 8192 < t.length
   ·left; rw [if_pos hl]; exact ⟨3, by decide, rfl⟩
   ·right
    rw [if_neg hl]
    obtain ⟨u, hu, hp⟩ := write_parse hs
    rw [List.nil_append] at hu
    subst hu
    refine ⟨t, rfl, ?_⟩
    unfold parseM
    rw [if_neg hl, hp 0 [] (by simpa using h64), List.nil_append]
theorem words_rem {t : Tx} (h : ∃ a b, t = a ++ 35 :: b ∧ ∀ c ∈ a, isBl c = true) : wordsM t = [] := by
 obtain ⟨a, b, rfl, ha⟩ := h
 unfold wordsM
 have h1 : ∀ a : Tx, (∀ c ∈ a, isBl c = true) → fieldsM (a ++ 35 :: b) [] = fieldsM (35 :: b) [] := by
  intro a
  induction a with
  | nil => intro _; rfl
  | cons c r ih =>
   intro h
   rw [List.cons_append]
   show (if isBl c = true then (if ([] : Tx) = [] then fieldsM (r ++ 35 :: b) [] else _) else _) = _
   rw [if_pos (h c (by simp)), if_pos rfl, ih (fun d hd => h d (by simp [hd]))]
 rw [h1 a ha]
 have h2 : ∀ (b cur : Tx), cur ≠ [] → ∃ x r, fieldsM b cur = (cur ++ x) :: r := by
  intro b
  induction b with
  | nil => intro cur hc; exact ⟨[], [], by show (if cur = [] then _ else _) = _; rw [if_neg hc]; simp⟩
  | cons c r ih =>
   intro cur hc
   show ∃ x r', (if isBl c = true then (if cur = [] then _ else cur :: fieldsM r []) else fieldsM r (cur ++ [c])) = _
   by_cases hb : isBl c = true
   ·rw [if_pos hb, if_neg hc]; exact ⟨[], fieldsM r [], by simp⟩
   ·rw [if_neg hb]
    obtain ⟨x, r', h⟩ := ih (cur ++ [c]) (by simp)
    exact ⟨c :: x, r', by rw [h]; simp⟩
 have h3 : fieldsM (35 :: b) [] = fieldsM b [35] := rfl
 obtain ⟨x, r, h⟩ := h2 b [35] (by simp)
 rw [h3, h]
 rfl
theorem contains_mono {k k2 : List Tx} (h : ∀ x, k.contains x = true → k2.contains x = true) {l : List Tx} (hl : l.all k.contains = true) : l.all k2.contains = true := List.all_eq_true.2 fun x hx => h x (List.all_eq_true.1 hl x hx)
theorem contains_cons {k k2 : List Tx} (h : ∀ x, k.contains x = true → k2.contains x = true) (d : Tx) : ∀ x, (d :: k).contains x = true → (d :: k2).contains x = true := fun x hx => by
 simp only [List.contains_cons, Bool.or_eq_true] at hx ⊢
 exact hx.imp id (h x)
theorem linesP_two : ∀ (b : List Tx) {n m : Int} {out out2 : List (Int × St)} {known known2 : List Tx}, (∀ x, known.contains x = true → known2.contains x = true) → out.length ≤ out2.length →
  (∀ y, linesP b n out known = .ok y → (∃ z, linesP b m out2 known2 = .ok z) ∨ ∃ k, linesP b m out2 known2 = .err k 7) ∧
  (∀ z, linesP b m out2 known2 = .ok z → (∃ y, linesP b n out known = .ok y) ∨ ∃ k, linesP b n out known = .err k 8)
 | [], n, m, out, out2, known, known2, hk, hl => ⟨fun y h => .inl ⟨_, rfl⟩, fun z h => .inl ⟨_, rfl⟩⟩
 | t :: r, n, m, out, out2, known, known2, hk, hl => by
  rw [linesP_cons, linesP_cons]
  by_cases hw : wordsM t = []
  ·rw [if_pos hw, if_pos hw]
   exact linesP_two r hk hl
  ·rw [if_neg hw, if_neg hw]
   cases hs : stepM (wordsM t) with
   | none => exact ⟨fun y h => by simp at h, fun z h => by simp at h⟩
   | some s =>
    simp only
    by_cases h1 : 64 ≤ out2.length
    ·rw [if_pos h1]
     exact ⟨fun y _ => .inr ⟨_, rfl⟩, fun z h => by cases h⟩
    ·rw [if_neg h1, if_neg (by omega)]
     by_cases h2 : s.srcs.all known.contains = true
     ·rw [if_pos h2, if_pos (contains_mono hk h2)]
      exact linesP_two r (contains_cons hk _) (by rw [List.length_append, List.length_append]; simp; omega)
     ·rw [if_neg h2]
      exact ⟨fun y h => (by cases h), fun z _ => Or.inr ⟨_, rfl⟩⟩
theorem linesP_err : ∀ {a : List Tx} {n k e : Int} {out known : _}, linesP a n out known = .err k e → n < k ∧ (e = 7 ∨ e = 8)
 | [], n, k, e, out, known, h => by cases h
 | t :: r, n, k, e, out, known, h => by
  rw [linesP_cons] at h
  split at h
  ·have := linesP_err h; exact ⟨by omega, this.2⟩
  ·split at h
   ·injection h with h1 h2; exact ⟨by omega, .inl h2.symm⟩
   ·split at h
    ·injection h with h1 h2; exact ⟨by omega, .inl h2.symm⟩
    ·split at h
     ·have := linesP_err h; exact ⟨by omega, this.2⟩
     ·injection h with h1 h2; exact ⟨by omega, .inr h2.symm⟩
theorem joins {a b r : Tx} {x : List (Int × St)} (ha : parseM a = .ok x) (hr : ∀ c ∈ r, c ≠ 10) (hlen : (a ++ ([10, 32, 9, 35, 32] ++ (r ++ ([10, 10] ++ b)))).length ≤ 8192) :
  (∃ y, parseM (a ++ ([10, 32, 9, 35, 32] ++ (r ++ ([10, 10] ++ b)))) = .ok (x ++ y) ∧ ((∃ z, parseM b = .ok z) ∨ ∃ k, parseM b = .err k 8)) ∨
  (∃ k e, parseM (a ++ ([10, 32, 9, 35, 32] ++ (r ++ ([10, 10] ++ b)))) = .err k e ∧ 0 < k ∧ ((∃ k e, parseM b = .err k e ∧ e ≠ 0) ∨ e = 7) ∧ e ≠ 0) := by
 have hb : ¬ 8192 < b.length := by simp only [List.length_append] at hlen; omega
 have hal : ¬ 8192 < a.length := by simp only [List.length_append] at hlen; omega
 have hlines : linesM (a ++ ([10, 32, 9, 35, 32] ++ (r ++ ([10, 10] ++ b)))) [] = linesM a [] ++ ([32, 9, 35, 32] ++ r) :: [] :: linesM b [] := by
  show linesM (a ++ 10 :: (([32, 9, 35, 32] ++ (r ++ 10 :: (10 :: b))))) [] = _
  rw [lines_append, ← List.append_assoc [32, 9, 35, 32], lines_append, lines_one (t := [32, 9, 35, 32] ++ r) (by
   intro c hc
   rcases List.mem_append.1 hc with h | h
   ·have h2 : ∀ c ∈ ([32, 9, 35, 32] : Tx), c ≠ 10 := by decide
    exact h2 c h
   ·exact hr c h)]
  rfl
 have hw1 : wordsM ([32, 9, 35, 32] ++ r) = [] := words_rem ⟨[32, 9], 32 :: r, rfl, by decide⟩
 have hw2 : wordsM [] = [] := rfl
 unfold parseM at ha ⊢
 rw [if_neg hal] at ha
 rw [if_neg (by omega), if_neg hb, hlines]
 obtain ⟨ext, e1, e2, e3⟩ := linesP_ok ha
 rw [List.nil_append] at e1
 subst e1
 rw [e2, linesP_cons, if_pos hw1, linesP_cons, if_pos hw2]
 obtain ⟨m, hm⟩ : ∃ m, (0 : Int) + (linesM a []).length + 1 + 1 = m := ⟨_, rfl⟩
 rw [hm]
 generalize hm2 : dstsR x ++ [] = kn
 have htwo := linesP_two (linesM b []) (n := 0) (m := m) (out := []) (out2 := x) (known := []) (known2 := kn) (fun x hx => by simp at hx) (by simp)
 cases hz : linesP (linesM b []) m x kn with
 | ok z =>
  left
  obtain ⟨ext2, f1, -, -⟩ := linesP_ok hz
  refine ⟨ext2, by rw [f1], htwo.2 z hz⟩
 | err k e =>
  right
  obtain ⟨hk, he⟩ := linesP_err hz
  refine ⟨k, e, rfl, by omega, ?_, by omega⟩
  cases hy : linesP (linesM b []) 0 [] [] with
  | ok y =>
   right
   rcases htwo.1 y hy with ⟨z, h⟩ | ⟨k2, h⟩
   ·rw [hz] at h; cases h
   ·rw [hz] at h; injection h with h1 h2
  | err k2 e2 =>
   left
   refine ⟨k2, e2, rfl, ?_⟩
   have := (linesP_err hy).2
   omega
end Go.Proofs.YtoofgblmpjndjaaGreatDoor.Scr
set_option linter.unusedVariables false
set_option linter.unusedSimpArgs false
namespace Go.Proofs.YtoofgblmpjndjaaGreatDoor.Scr
open Go.RowKit K Go.Lib Go.Shelf

theorem infoStep : (Tryz.prog.info? 37).map (fun i => (i.zero, i.size, i.bytes)) = some (some (.agg st0), 6, 104) := by kernel_rfl
def ParseP (w : World) (ans : Ans) (e : Ending) (w' : World) : Prop := Below w.heap.size w w' ∧ match ans with
 | .ok l => ∃ A n c R, e = .returned (.tuple #[.slice A n c, .int .i64 0, .int .i64 0]) ∧ TO w' w.heap.size (.slice A n c) n R ∧ R.map SRow.p = l
 | .err line er => e = .returned (.tuple #[.slice none 0 0, .int .i64 line, .int .i64 er])
def MaxG (w : World) : Prop := ∃ m, w.cell? ⟨0, 0, none⟩ = some (.int .i64 m)
theorem MaxG.below {w w' : World} (h : MaxG w) (hb : Below w.heap.size w w') : MaxG w' := by
 obtain ⟨m, h⟩ := h
 exact ⟨m, (hb.cell (p := ⟨0, 0, none⟩) (World.block_lt_of_cell? _ _ h)).trans h⟩
theorem lines_few : ∀ t cur : Tx, (linesM t cur).length ≤ t.length + 1 ∧ ∀ l ∈ linesM t cur, l.length ≤ t.length + cur.length
 | [], cur => by simp [linesM]
 | c :: r, cur => by
  have h1 := lines_few r []
  have h2 := lines_few r (cur ++ [c])
  simp only [List.length_nil, List.length_append, List.length_cons] at h1 h2 ⊢
  unfold linesM
  split
  ·simp only [List.length_cons, List.mem_cons]
   refine ⟨by omega, fun l hl => ?_⟩
   rcases hl with rfl | hl
   ·omega
   ·have := h1.2 l hl; omega
  ·exact ⟨by omega, fun l hl => by have := h2.2 l hl; omega⟩
theorem split_any {t : Tx} (w : World) (hM : MaxG w) (ht : t.length ≤ 8192) : Calls Tryz.prog 20 #[.string (ba t), .string ⟨#[10]⟩] w fun e w' =>
  e = .returned (.slice (some ⟨w.heap.size, 0, none⟩) (linesM t []).length (linesM t []).length) ∧ w'.ownsRow w.heap.size 9 1 (.slice (some ⟨w.heap.size, 0, none⟩) (linesM t []).length (linesM t []).length) (linesM t []).length ((linesM t []).map vS) ∧ Below w.heap.size w w' := by
 obtain ⟨m, hm⟩ := hM
 refine (Scs.strings_Split (ba t) ⟨#[10]⟩ m w (by rw [ba_size]; omega) hm (by decide)).mono ?_
 rintro e w' ⟨rfl, rfl⟩
 have hl : Lib.splitB ⟨#[10]⟩ 0 (Lib.countB (ba t) ⟨#[10]⟩) (ba t) = (linesM t []).map ba := lines_eq (ba t)
 have hlen : Lib.countB (ba t) ⟨#[10]⟩ + 1 = (linesM t []).length := by
  have h1 := Lib.splitB_all ⟨#[10]⟩ (by decide) 0 _ (ba t) rfl
  rw [hl, List.length_map] at h1
  exact h1.symm
 rw [hl, hlen, show ((linesM t []).map ba).map Value.string = (linesM t []).map vS from by rw [List.map_map]; rfl]
 refine ⟨rfl, ?_, (Below.refl _ w).alloc (Nat.le_refl _) _⟩
 have := own_lit w ((linesM t []).map vS) 9 (by rw [List.length_map]; have := lines_few t []; unfold maxLen; omega)
 rw [List.length_map] at this
 exact this
structure PQ (w W : World) (G m : Nat) (LL : List Tx) (v : Value) (k : Nat) (R : List SRow) (known : List Tx) (cnt : Nat) : Prop where
 ts : TO W (w.heap.size + 2) v k R
 km : KM W w.heap.size cnt (fun t => known.contains t)
 bx : W.heap[w.heap.size + 1]? = some (.cells #[.map (some w.heap.size)] 46 (0, 0))
 ll : W.ownsRow (w.heap.size + 2) 9 1 (.slice (some ⟨G, 0, none⟩) m m) m (LL.map vS)
 bel : Below w.heap.size w W
section
variable {w W W2 : World} {G m : Nat} {LL : List Tx} {v : Value} {k : Nat} {R : List SRow} {known : List Tx} {cnt : Nat}
theorem PQ.sz (h : PQ w W G m LL v k R known cnt) : w.heap.size + 2 ≤ W.heap.size := (Array.getElem?_eq_some_iff.1 h.bx).1
theorem PQ.on (h : PQ w W G m LL v k R known cnt) (hb : Below W.heap.size W W2) : PQ w W2 G m LL v k R known cnt :=
 ⟨h.ts.below hb, h.km.below hb h.km.lt, (hb.block _ (Array.getElem?_eq_some_iff.1 h.bx).1).trans h.bx, own_below h.ll hb, h.bel.trans (hb.mono h.bel.size)⟩
theorem PQ.cell (h : PQ w W G m LL v k R known cnt) : W.cell? ⟨w.heap.size + 1, 0, none⟩ = some (.map (some w.heap.size)) := Ard.row_cell h.bx 0
theorem PQ.put (h : PQ w W G m LL v k R known cnt) (hcnt : cnt < maxLen) {t : Tx} (ht : t.length ≤ maxLen) :
  ∃ W2, (Instr.mapUpdate 46 (.map (some w.heap.size)) (.string (ba t)) (.bool true)).run Tryz.prog W = .ok () W2 ∧ W.grownBy W2 (some w.heap.size) ∧ PQ w W2 G m LL v k R (t :: known) (cnt + 1) := by
 obtain ⟨W2, h1, h2, h3⟩ := h.km.put hcnt ht
 refine ⟨W2, h1, h3, h.ts.other (by omega) h3, ?_, (h3.block _ (Array.getElem?_eq_some_iff.1 h.bx).1 (by simp)).trans h.bx, own_other h.ll (by omega) h3, h.bel.grown h3 (by have := h.sz; omega) (fun q e => by injection e with e; omega)⟩
 have : (fun u => (t :: known).contains u) = (fun u => u == t || known.contains u) := by
  funext u
  rw [List.contains_cons]
 rw [this]
 exact h2
theorem PQ.app {v' : Value} {r : SRow} (h : PQ w W G m LL v k R known cnt) (hr : r.own W (w.heap.size + 2)) (h1 : W2.ownsRow (w.heap.size + 2) 37 6 v' (k + 1) ((R.flatMap fun r => r.cells.toList) ++ r.cells.toList)) (hg : W.grownBy W2 v.ownBlock) : PQ w W2 G m LL v' (k + 1) (R ++ [r]) known cnt := by
 have hge : ∀ g, v.ownBlock = some g → w.heap.size + 2 ≤ g := fun g hg => (h.ts.1.lt g hg).1
 refine ⟨h.ts.more (w0 := w) hr h1 hg, h.km.same (hg.block _ h.km.lt (fun e => ?_)), (hg.block _ (Array.getElem?_eq_some_iff.1 h.bx).1 (fun e => ?_)).trans h.bx, h.ll.kept hg (own_apart h.ll h.ts.1 (by decide)), h.bel.grown hg (by have := h.sz; omega) (fun q e => ?_)⟩
 ·have := hge _ e.symm; omega
 ·have := hge _ e.symm; omega
 ·have := hge _ e; omega
end
theorem PQ.start {w W : World} (h1 : W.heap[w.heap.size]? = some (.map #[] 0)) (h2 : W.heap[w.heap.size + 1]? = some (.cells #[.map (some w.heap.size)] 46 (0, 0))) (hb : Below w.heap.size w W) {G m : Nat} {LL : List Tx} (hl : W.ownsRow (w.heap.size + 2) 9 1 (.slice (some ⟨G, 0, none⟩) m m) m (LL.map vS)) : PQ w W G m LL (.slice none 0 0) 0 [] [] 0 :=
 ⟨TO.nil _ _, (KM.made w).same (h1.trans (heap_alloc_new w _).symm), h2, hl, hb⟩
end Go.Proofs.YtoofgblmpjndjaaGreatDoor.Scr
set_option linter.unusedVariables false
set_option linter.unusedSimpArgs false
namespace Go.Proofs.YtoofgblmpjndjaaGreatDoor.Scr
open Go.RowKit K Go.Lib Go.Shelf

theorem results_three {fn : Func} {p q r : Tmp} (h : fn.results = #[.tmp p, .tmp q, .tmp r]) (tmps : Array Value) (P : Program) (w : World) :
  (results fn tmps).run P w = .ok (.tuple #[tmps.getD p undef, tmps.getD q undef, tmps.getD r undef]) w := by
 simp [results, h]
theorem any_not {l : List Tx} {p : Tx → Bool} : l.any (fun x => !p x) = !l.all p := by
 induction l with
 | nil => rfl
 | cons a r ih => rw [List.any_cons, List.all_cons, ih, Bool.not_and]
theorem contains_any {w : World} {B M cnt ns cs base : Nat} {A : Option Addr} {p : Tx → Bool} {srcs : List Tx} (hk : KM w B cnt p) (hM : w.cell? ⟨M, 0, none⟩ = some (.map (some B))) (ho : w.ownsRow base 9 1 (.slice A ns cs) ns (srcs.map vS)) (hs : ∀ t ∈ srcs, t.length ≤ maxLen) (hn : ns ≤ 8796093022000) :
  Calls Tryz.prog 24 #[.slice A ns cs, .func (.func 25) #[] #[.pointer (some ⟨M, 0, none⟩)]] w fun e w' => e = .returned (.bool (!srcs.all p)) ∧ Below w.heap.size w w' := by
 have hl : srcs.length = ns := by have := ho.1; simpa using this
 have hMl : M < w.heap.size := World.block_lt_of_cell? _ _ hM
 rcases ho.2 with ⟨e, rfl⟩ | ⟨g, cap, cur, e, -, -, -⟩
 ·injection e with e1 e2 e3
  subst e1 e3
  have : srcs = [] := List.eq_nil_of_length_eq_zero hl
  subst this
  refine (Scs.slices_ContainsFunc_empty (α := Short) none 0 _ w).mono ?_
  rintro e w' ⟨rfl, rfl⟩
  exact ⟨rfl, Below.refl _ _⟩
 ·injection e with e1 e2 e3
  subst e1 e3
  have hlen := shorts_len srcs hs
  refine (Scs.slices_ContainsFunc (fun x : Short => vS x.1) (fun x => !p x.1) 25 #[.pointer (some ⟨M, 0, none⟩)] (enters_of Tryz.func25 (by kernel_rfl) rfl) g 0 ns cs (shorts srcs hs) w (known_any hk hM hMl) (by omega) (by omega) (fun j hj => ?_)).mono ?_
  ·have hj2 : j < srcs.length := by omega
   have h1 : (srcs.map vS)[j]? = some (vS srcs[j]) := by rw [List.getElem?_map, List.getElem?_eq_getElem hj2]; rfl
   have h2 := ho.cells (g := g) rfl j _ h1
   rw [Addr.add_lit] at h2
   have h3 : ((shorts srcs hs)[j]!).1 = srcs[j] := by
    rw [getElem!_pos (shorts srcs hs) j hj]
    have h4 : ((shorts srcs hs).map (·.1))[j]? = srcs[j]? := by rw [shorts_map]
    rw [List.getElem?_map, List.getElem?_eq_getElem hj, List.getElem?_eq_getElem hj2] at h4
    exact Option.some.inj h4
   rw [h3]
   exact h2
  ·rintro e w' ⟨rfl, q, rfl⟩
   refine ⟨?_, below_drewNg w q⟩
   rw [List.take_of_length_le (by omega)]
   have h5 : (shorts srcs hs).any (fun x => !p x.1) = srcs.any (fun x => !p x) := by
    conv => rhs; rw [← shorts_map srcs hs]
    rw [List.any_map]
    rfl
   rw [h5, any_not]
theorem drop_txt {l : List Tx} {i : Nat} {t : Tx} (h : l[i]? = some t) : l.drop i = t :: l.drop (i + 1) := by
 obtain ⟨hi, e⟩ := List.getElem?_eq_some_iff.1 h
 rw [List.drop_eq_getElem_cons hi, e]
theorem linesP_blank {t : Tx} {r : List Tx} {n : Int} {out : List (Int × St)} {known : List Tx} (h : wordsM t = []) : linesP (t :: r) n out known = linesP r (n + 1) out known := by
 rw [linesP, if_pos h]
theorem linesP_bad {t : Tx} {r : List Tx} {n : Int} {out : List (Int × St)} {known : List Tx} (h : wordsM t ≠ []) (hs : stepM (wordsM t) = none) : linesP (t :: r) n out known = .err (n + 1) 7 := by
 rw [linesP, if_neg h, hs]
theorem linesP_full {t : Tx} {r : List Tx} {n : Int} {out : List (Int × St)} {known : List Tx} {s : St} (h : wordsM t ≠ []) (hs : stepM (wordsM t) = some s) (h64 : 64 ≤ out.length) : linesP (t :: r) n out known = .err (n + 1) 7 := by
 rw [linesP, if_neg h, hs]
 simp only
 rw [if_pos h64]
theorem linesP_name {t : Tx} {r : List Tx} {n : Int} {out : List (Int × St)} {known : List Tx} {s : St} (h : wordsM t ≠ []) (hs : stepM (wordsM t) = some s) (h64 : ¬ 64 ≤ out.length) (hk : s.srcs.all known.contains = false) : linesP (t :: r) n out known = .err (n + 1) 8 := by
 rw [linesP, if_neg h, hs]
 simp only
 rw [if_neg h64, if_neg (by rw [hk]; decide)]
theorem linesP_more {t : Tx} {r : List Tx} {n : Int} {out : List (Int × St)} {known : List Tx} {s : St} (h : wordsM t ≠ []) (hs : stepM (wordsM t) = some s) (h64 : ¬ 64 ≤ out.length) (hk : s.srcs.all known.contains = true) : linesP (t :: r) n out known = linesP r (n + 1) (out ++ [(n + 1, s)]) (s.dst :: known) := by
 rw [linesP, if_neg h, hs]
 simp only
 rw [if_neg h64, if_pos hk]
theorem stepM_srcs {l : List Tx} {s : St} (h : stepM l = some s) : s.srcs.length ≤ l.length + 1 := by
 unfold stepM at h
 simp only at h
 split at h
 ·split at h
  ·injection h with h; subst h; exact Nat.zero_le _
  ·cases h
 ·split at h
  ·split at h
   ·split at h
    ·cases h
    ·split at h
     ·injection h with h; subst h; show 1 ≤ _; omega
     ·cases h
   ·cases h
  ·split at h
   ·split at h
    ·split at h
     ·cases h
     ·split at h
      ·injection h with h; subst h; exact Nat.zero_le _
      ·cases h
    ·cases h
   ·split at h
    ·split at h
     ·cases h
     ·split at h
      ·injection h with h; subst h
       show (List.take _ _).length ≤ _
       rw [List.length_take, List.length_drop]
       omega
      ·cases h
    ·cases h
theorem stepM_short {l : List Tx} {s : St} (h : stepM l = some s) (hl : ∀ t ∈ l, t.length ≤ 8192) : s.dst.length ≤ maxLen ∧ ∀ t ∈ s.srcs, t.length ≤ maxLen := by
 have hg : ∀ i, (l.getD i []).length ≤ maxLen := fun i => by
  rw [List.getD_eq_getElem?_getD]
  cases hi : l[i]? with
  | none => exact Nat.zero_le _
  | some t => have := hl t (List.mem_of_getElem? hi); unfold maxLen; simp; omega
 unfold stepM at h
 simp only at h
 split at h
 ·split at h
  ·injection h with h; subst h; exact ⟨hg 1, fun t ht => by cases ht⟩
  ·cases h
 ·split at h
  ·split at h
   ·split at h
    ·cases h
    ·split at h
     ·injection h with h; subst h; exact ⟨Nat.zero_le _, fun t ht => by rw [List.mem_singleton] at ht; subst ht; exact hg 1⟩
     ·cases h
   ·cases h
  ·split at h
   ·split at h
    ·split at h
     ·cases h
     ·split at h
      ·injection h with h; subst h; exact ⟨hg 1, fun t ht => by cases ht⟩
      ·cases h
    ·cases h
   ·split at h
    ·split at h
     ·cases h
     ·split at h
      ·injection h with h; subst h
       exact ⟨hg 1, fun t ht => by have := hl t (List.mem_of_mem_drop (List.mem_of_mem_take ht)); unfold maxLen; omega⟩
      ·cases h
    ·cases h
set_option maxRecDepth 20000 in
set_option maxHeartbeats 8000000 in
theorem parse_any {t : Tx} (w : World) (hM : MaxG w) : Calls Tryz.prog 9 #[.string (ba t)] w (ParseP w (parseM t)) := by
 have hmf : ∀ (fn : Fn) (first cap : Array Value) (w : World), (Instr.makeFunc fn first cap).run Tryz.prog w = .ok (.func fn first cap) w := fun _ _ _ _ => rfl
 have hmk : ∀ (t : TypeId) (w : World), (Instr.makeMap t none).run Tryz.prog w = .ok (.map (some w.heap.size)) (w.alloc (.map #[] 0)) := fun _ _ => rfl
 obtain ⟨res, hres⟩ : ∃ r, parseM t = r := ⟨_, rfl⟩
 rw [hres]
 by_cases hlen : 8192 < t.length
 ·have HE : Hid (res = .err 0 3) := by show _ = _; rw [← hres]; unfold parseM; rw [if_pos hlen]
  obtain ⟨zt, hzt⟩ : ∃ z, ba t = z := ⟨_, rfl⟩
  have hz : 8192 < zt.size := by rw [← hzt, ba_size]; exact hlen
  rw [hzt]
  have d0 : decide ((8192 : Int) < (zt.size : Int)) = true := decide_eq_true (by omega)
  have d1 : decide (8192 < zt.size) = true := decide_eq_true hz
  clear hres hlen hzt hz hM
  go_enter Tryz.func9, Tryz.ntmps9
  go_wp2_with fail
  refine bodyPost_ret (results_three rfl _ _ _) rfl ?_
  refine ⟨Below.refl _ _, ?_⟩
  rw [HE.out]
  rfl
 have HRES : Hid (linesP (linesM t []) 0 [] [] = res) := by show _ = _; rw [← hres]; unfold parseM; rw [if_neg hlen]
 have hlen : t.length ≤ 8192 := by omega
 have hfew := lines_few t []
 obtain ⟨LL, hLL⟩ : ∃ l, linesM t [] = l := ⟨_, rfl⟩
 obtain ⟨W1, hW1, h1, h2, hb1, hs1⟩ : ∃ W1, (((w.alloc (.map #[] 0)).alloc (.cells #[.map none] 46)).setCell ⟨w.heap.size + 1, 0, none⟩ (.map (some w.heap.size))) = W1 ∧ W1.heap[w.heap.size]? = some (.map #[] 0) ∧ W1.heap[w.heap.size + 1]? = some (.cells #[.map (some w.heap.size)] 46 (0, 0)) ∧ Below w.heap.size w W1 ∧ w.heap.size + 2 ≤ W1.heap.size := by
  have hn : ((w.alloc (.map #[] 0)).alloc (.cells #[.map none] 46)).heap[w.heap.size + 1]? = some (.cells #[.map none] 46 (0, 0)) := by
   have := heap_alloc_new (w.alloc (.map #[] 0)) (.cells #[.map none] 46)
   rwa [World.size_alloc] at this
  have h3 := heap_setCell_same _ (w.heap.size + 1) 0 _ _ (.map (some w.heap.size)) hn
  refine ⟨_, rfl, (heap_setCell_other _ ⟨w.heap.size + 1, 0, none⟩ w.heap.size _ (by show w.heap.size ≠ w.heap.size + 1; omega)).trans ((Below.heap_alloc _ _ _ (by simp)).trans (heap_alloc_new w _)), h3, (((Below.refl _ w).alloc (Nat.le_refl _) _).alloc (by simp) _).setCell (p := ⟨w.heap.size + 1, 0, none⟩) (by show w.heap.size ≤ w.heap.size + 1; omega) _, (Array.getElem?_eq_some_iff.1 h3).1⟩
 have c1 : ((w.alloc (.map #[] 0)).alloc (.cells #[.map none] 46)).cell? ⟨w.heap.size + 1, 0, none⟩ = some (.map none) := by
  have := heap_alloc_new (w.alloc (.map #[] 0)) (.cells #[.map none] 46)
  rw [World.size_alloc] at this
  exact Ard.row_cell this 0
 have c2 : ((w.alloc (.map #[] 0)).alloc (.cells #[.map none] 46)).frozen? ⟨w.heap.size + 1, 0, none⟩ = false := by
  have := heap_alloc_new (w.alloc (.map #[] 0)) (.cells #[.map none] 46)
  rw [World.size_alloc] at this
  exact Ard.row_frozen this 0
 have HSP := Lib.hid (split_any (t := t) W1 (hM.below hb1) hlen)
 rw [hLL] at HSP HRES hfew
 obtain ⟨m, hm⟩ : ∃ k, LL.length = k := ⟨_, rfl⟩
 obtain ⟨G, hG⟩ : ∃ k, W1.heap.size = k := ⟨_, rfl⟩
 rw [hm] at HSP hfew
 have hmB := hfew.1
 have HMB : Hid (m ≤ 8193) := by show _ ≤ _; omega
 have HLM := Lib.hid hm
 have HFW : Hid (∀ l ∈ LL, l.length ≤ 8192) := fun l hl => by have := hfew.2 l hl; simp at this; omega
 have H1 := Lib.hid h1
 have H2 := Lib.hid h2
 have HB1 := Lib.hid hb1
 have HS1 := Lib.hid hs1
 obtain ⟨zt, hzt⟩ : ∃ z, ba t = z := ⟨_, rfl⟩
 have hz : ¬ 8192 < zt.size := by rw [← hzt, ba_size]; omega
 rw [hzt] at HSP ⊢
 have d0 : decide ((8192 : Int) < (zt.size : Int)) = false := decide_eq_false (by omega)
 have d1 : decide (8192 < zt.size) = false := decide_eq_false hz
 have HG := Lib.hid hG
 rw [hG] at HSP
 clear hres hlen hzt hz hM h1 h2 hb1 hs1 hLL hm hfew hmB hG
 go_enter Tryz.func9, Tryz.ntmps9
 go_wp2_with (first | (go_at_call 20; refine HSP.out.mono ?_; rintro e W2 ⟨rfl, hl, hb⟩; (have HQ : Hid (PQ w W2 G m LL (.slice none 0 0) 0 [] [] 0) := PQ.start ((hb.block _ (by have := HS1.out; have := HG.out; omega)).trans H1.out) ((hb.block _ (by have := HS1.out; have := HG.out; omega)).trans H2.out) (HB1.out.trans (hb.mono (by have := HS1.out; have := HG.out; omega))) (own_lower hl (by have := HS1.out; have := HG.out; omega))); clear hl hb) | fail)
 go_loopw [5, 19] (fun s5 s19 wr => ∃ (i : Nat) (A : Option Addr) (k c : Nat) (R : List SRow) (known : List Tx) (cnt : Nat), i ≤ m ∧ s5 = .slice A k c ∧ s19 = .int .i64 (i : Int) ∧ Hid (PQ w wr G m LL (.slice A k c) k R known cnt) ∧ Hid (linesP (LL.drop i) i (R.map SRow.p) known = res) ∧ Hid (k ≤ 64 ∧ cnt ≤ i)) (fun _ s19 _ => m - (intOf s19).toNat)
 case atStart => exact ⟨0, none, 0, 0, [], [], 0, Nat.zero_le _, rfl, rfl, HQ, HRES, ⟨by omega, by omega⟩⟩
 case round =>
  obtain ⟨i, A, k, c, R, known, cnt, hi, rfl, rfl, HQ, HREM, HKC⟩ := hrel
  have xb := HQ.out.cell
  by_cases hlt : i < m
  ·have HSL := SS.of_own HQ.out.ll (by have := HMB.out; omega)
   obtain ⟨bb, oo, tl, ee, hcl, htl, -⟩ := HSL.cell (i := i) hlt
   injection ee with ee
   injection ee with ea eb
   subst ea eb
   rw [Nat.zero_add] at hcl
   have HLT := Lib.hid hlt
   have htll := HFW.out tl (List.mem_of_getElem? htl)
   have HTLL := Lib.hid htll
   have HDR : Hid (LL.drop i = tl :: LL.drop (i + 1)) := by show _ = _; exact drop_txt htl
   have HREM2 : Hid (linesP (tl :: LL.drop (i + 1)) i (R.map SRow.p) known = res) := by show _ = _; rw [← HDR.out]; exact HREM.out
   have d2 : decide ((i : Int) < (m : Int)) = true := decide_eq_true (by omega)
   have e2 : decide (i < m) = true := decide_eq_true hlt
   have l0 : (i : Int) < m := by omega
   have z0 : (0 : Int) ≤ i := by omega
   have u1 : wrap64 ((i : Int) + 1) = (i : Int) + 1 := by have := HMB.out; rw [IntWalk.wrap64_in _ (by omega)]
   have u2 : IntKind.i64.wrap ((i : Int) + 1) = (i : Int) + 1 := by have := HMB.out; rw [IntKind.wrap_i64]; omega
   have HWD := Lib.hid (words_any (t := tl) wr)
   have HB1 : Hid (Below wr.heap.size wr (wr.alloc (.cells #[.string (ba tl)] 9))) := (Below.refl _ _).alloc (Nat.le_refl _) _
   have hco := gather_any (Bs := wr.heap.size) (t := tl) (wr.alloc (.cells #[.string (ba tl)] 9)) (by simp) (alloc_cell (cs := [.string (ba tl)]) (i := 0) rfl) htll
   have hwl : ∀ x ∈ wordsM tl, x.length ≤ 8192 := fun x hx => by
    have h1 := (fields_len tl []).2 x (List.Sublist.subset (List.takeWhile_sublist _) hx)
    simp at h1
    omega
   have hwn : (wordsM tl).length ≤ 8192 := by
    have h1 := fields_len tl []
    have h2 : (wordsM tl).length ≤ (fieldsM tl []).length := List.Sublist.length_le (List.takeWhile_sublist _)
    simp only [List.length_nil] at h1
    omega
   obtain ⟨WD, hWD⟩ : ∃ x, wordsM tl = x := ⟨_, rfl⟩
   rw [hWD] at hco hwl hwn
   obtain ⟨nw, hnw⟩ : ∃ x, WD.length = x := ⟨_, rfl⟩
   rw [hnw] at hco hwn
   obtain ⟨zl, hzl⟩ : ∃ z, ba tl = z := ⟨_, rfl⟩
   rw [hzl] at hcl hco HWD HB1
   obtain ⟨V1, hV1⟩ : ∃ x, wr.alloc (.cells #[.string zl] 9) = x := ⟨_, rfl⟩
   rw [hV1] at hco HWD HB1
   have HCO := Lib.hid hco
   have HWL := Lib.hid hwl
   have HWN := Lib.hid hwn
   have HNW := Lib.hid hnw
   have HWDM := Lib.hid hWD
   clear htl htll HSL hco hwl hwn hnw hWD hV1 hzl HREM hi hlt
   by_cases hw0 : WD = []
   ·have q0 : ((nw : Int) == 0) = true := by have h1 := HNW.out; rw [hw0] at h1; simp at h1; simp; omega
    have HREM3 : Hid (linesP (LL.drop (i + 1)) ((i + 1 : Nat) : Int) (R.map SRow.p) known = res) := by show _ = _; rw [← HREM2.out, linesP_blank (HWDM.out.trans hw0)]; rfl
    clear hw0
    go_wp2_with (first | (go_at_call 22; refine HWD.out.mono ?_; rintro e V ⟨rfl, rfl⟩) | (go_at_call 21; refine HCO.out.mono ?_; rintro e V2 ⟨v, rfl, hown, hb⟩; obtain ⟨A4, c4, rfl, hc4⟩ := own_shape hown; (have HQ2 := Lib.hid (HQ.out.on (HB1.out.trans (hb.mono HB1.out.size)))); clear hown hb hc4) | fail)
    go_roundw
    case rel => exact ⟨i + 1, A, k, c, R, known, cnt, HLT.out, rfl, rfl, HQ2, HREM3, ⟨HKC.out.1, by have := HKC.out.2; omega⟩⟩
    case measure => exact meas_by (d := 1) HLT.out (by omega)
   have hn1 : 1 ≤ nw := by rw [← HNW.out]; exact List.length_pos_iff.2 hw0
   have q0 : ((nw : Int) == 0) = false := by simp; omega
   have HW0 : Hid (wordsM tl ≠ []) := fun h => hw0 (HWDM.out.symm.trans h)
   clear hw0
   cases hst : stepM WD with
   | none =>
    have HE : Hid (res = .err ((i : Int) + 1) 7) := by show _ = _; rw [← HREM2.out]; exact linesP_bad HW0.out (by rw [HWDM.out]; exact hst)
    go_wp2_with (first | (go_at_call 22; refine HWD.out.mono ?_; rintro e V ⟨rfl, rfl⟩) | (go_at_call 21; refine HCO.out.mono ?_; rintro e V2 ⟨v, rfl, hown, hb⟩; obtain ⟨A4, c4, rfl, hc4⟩ := own_shape hown; (have HQ2 := Lib.hid (HQ.out.on (HB1.out.trans (hb.mono HB1.out.size)))); (have xb2 := HQ2.out.cell); (have HSTP := step_any V2 (SS.of_own hown (by have := HWN.out; omega)) (by omega) hc4 (by have hh := HWL.out; rw [List.getD_eq_getElem?_getD]; cases hq : WD[0]? with | none => (exact Nat.zero_le _) | some y => (have := hh y (List.mem_of_getElem? hq); unfold maxLen; simp; omega))); rw [hst] at HSTP; (have HSTP := Lib.hid HSTP); (have HN1 := Lib.hid hn1); clear hown hb hc4 hst hn1) | (go_at_call 23; refine HSTP.out.mono ?_; rintro e V3 ⟨hb3, he⟩; (try (simp only at he)); subst he; (have HQ3 := Lib.hid (HQ2.out.on hb3)); obtain ⟨SC, hSC⟩ : ∃ x, st0 = x := ⟨_, rfl⟩; (have HS6 : Hid (SC.size = 6) := (by rw [← hSC]; exact st0_size)); (have HONE : Hid (SC.all (·.oneCell') = true) := (by rw [← hSC]; exact st0_one)); rw [hSC]; clear hb3; obtain ⟨WA, hWA⟩ : ∃ x, V3.alloc (.cells #[.int .i64 0, .string ⟨#[]⟩, .string ⟨#[]⟩, .slice none 0 0, .string ⟨#[]⟩, .slice none 0 0] 37) = x := ⟨_, rfl⟩; (have HXA : Hid (WA.heap[V3.heap.size]? = some (.cells st0 37 (0, 0))) := (by rw [← hWA]; exact heap_alloc_new V3 _)); (have HBA : Hid (Below V3.heap.size V3 WA) := (by rw [← hWA]; exact (Below.refl _ _).alloc (Nat.le_refl _) _))) | (refine wpList_store_rowG rfl 37 (.tmp 10) (.tmp 33) rfl V3.heap.size SC rfl rfl 37 st0 HXA.out (by rw [HS6.out]; exact infoSt) (by rw [HS6.out]; rfl) HONE.out ?_; intro W4 hr4 hg4; (have HR4 := Lib.hid hr4); (have HB4 : Hid (Below V3.heap.size V3 W4) := HBA.out.grown hg4 HBA.out.size (fun q e => by injection e with e; omega)); clear hr4 hg4 xb2; (have HQ4 := Lib.hid (HQ3.out.on HB4.out)); (have xb4 := HQ4.out.cell)) | fail)
    refine bodyPost_ret (results_three rfl _ _ _) rfl ?_
    refine ⟨HQ4.out.bel, ?_⟩
    rw [HE.out]
    rfl
   | some s =>
    have HST := Lib.hid (HWDM.out ▸ hst : stepM (wordsM tl) = some s)
    have HSH := Lib.hid (stepM_short hst HWL.out)
    by_cases h64 : 64 ≤ k
    ·have q1 : ((k : Int) == 64) = true := by have := HKC.out.1; simp; omega
     have HE : Hid (res = .err ((i : Int) + 1) 7) := by show _ = _; rw [← HREM2.out]; exact linesP_full HW0.out HST.out (by rw [List.length_map, HQ.out.ts.2.1]; exact h64)
     clear h64
     go_wp2_with (first | (go_at_call 22; refine HWD.out.mono ?_; rintro e V ⟨rfl, rfl⟩) | (go_at_call 21; refine HCO.out.mono ?_; rintro e V2 ⟨v, rfl, hown, hb⟩; obtain ⟨A4, c4, rfl, hc4⟩ := own_shape hown; (have HQ2 := Lib.hid (HQ.out.on (HB1.out.trans (hb.mono HB1.out.size)))); (have xb2 := HQ2.out.cell); (have HSTP := step_any V2 (SS.of_own hown (by have := HWN.out; omega)) (by omega) hc4 (by have hh := HWL.out; rw [List.getD_eq_getElem?_getD]; cases hq : WD[0]? with | none => (exact Nat.zero_le _) | some y => (have := hh y (List.mem_of_getElem? hq); unfold maxLen; simp; omega))); rw [hst] at HSTP; (have HSTP := Lib.hid HSTP); (have HN1 := Lib.hid hn1); clear hown hb hc4 hst hn1) | (go_at_call 23; refine HSTP.out.mono ?_; rintro e V3 ⟨hb3, he⟩; (try (simp only at he)); obtain ⟨As, ns, cs, A2, m2, c2, he, ho1, ho2⟩ := he; (have HQ3 := Lib.hid (HQ2.out.on hb3)); (have HO1 := Lib.hid ho1); (have HO2 := Lib.hid ho2); obtain ⟨SC, hSC⟩ : ∃ x, stC 0 (ba s.op) (ba s.dst) As ns cs (ba s.file) A2 m2 c2 = x := ⟨_, rfl⟩; rw [hSC] at he; subst he; (have HSC := Lib.hid hSC); (have HS6 : Hid (SC.size = 6) := (by rw [← hSC]; rfl)); (have HONE : Hid (SC.all (·.oneCell') = true) := (by rw [← hSC]; exact stC_one _ _ _ _ _ _ _ _ _ _)); clear hb3 ho1 ho2 hSC; obtain ⟨WA, hWA⟩ : ∃ x, V3.alloc (.cells #[.int .i64 0, .string ⟨#[]⟩, .string ⟨#[]⟩, .slice none 0 0, .string ⟨#[]⟩, .slice none 0 0] 37) = x := ⟨_, rfl⟩; (have HXA : Hid (WA.heap[V3.heap.size]? = some (.cells st0 37 (0, 0))) := (by rw [← hWA]; exact heap_alloc_new V3 _)); (have HBA : Hid (Below V3.heap.size V3 WA) := (by rw [← hWA]; exact (Below.refl _ _).alloc (Nat.le_refl _) _))) | (refine wpList_store_rowG rfl 37 (.tmp 10) (.tmp 33) rfl V3.heap.size SC rfl rfl 37 st0 HXA.out (by rw [HS6.out]; exact infoSt) (by rw [HS6.out]; rfl) HONE.out ?_; intro W4 hr4 hg4; (have HR4 := Lib.hid hr4); (have HB4 : Hid (Below V3.heap.size V3 W4) := HBA.out.grown hg4 HBA.out.size (fun q e => by injection e with e; omega)); clear hr4 hg4 xb2; (have HQ4 := Lib.hid (HQ3.out.on HB4.out)); (have xb4 := HQ4.out.cell)) | fail)
     refine bodyPost_ret (results_three rfl _ _ _) rfl ?_
     refine ⟨HQ4.out.bel, ?_⟩
     rw [HE.out]
     rfl
    have q1 : ((k : Int) == 64) = false := by simp; omega
    have HK64 : Hid (¬ 64 ≤ (R.map SRow.p).length) := by show ¬ _; rw [List.length_map, HQ.out.ts.2.1]; exact h64
    have HKL : Hid (k < 64) := by show _ < _; omega
    clear h64
    have HSRCN : Hid (s.srcs.length ≤ 8193) := by show _ ≤ _; have := stepM_srcs hst; have := HWN.out; have := HNW.out; omega
    obtain ⟨al, hal⟩ : ∃ b, s.srcs.all known.contains = b := ⟨_, rfl⟩
    have HAL := Lib.hid hal
    clear hal
    have HCF : Hid (∀ (V4 : World) (A : Option Addr) (ns cs : Nat), KM V4 w.heap.size cnt (fun t => known.contains t) → V4.cell? ⟨w.heap.size + 1, 0, none⟩ = some (.map (some w.heap.size)) → V4.ownsRow (w.heap.size + 2) 9 1 (.slice A ns cs) ns (s.srcs.map vS) → Calls Tryz.prog 24 #[.slice A ns cs, .func (.func 25) #[] #[.pointer (some ⟨w.heap.size + 1, 0, none⟩)]] V4 fun e w' => e = .returned (.bool (!al)) ∧ Below V4.heap.size V4 w') := by
     intro V4 A ns cs hk hc ho
     have := contains_any hk hc ho HSH.out.2 (by have h1 := ho.1; have h2 := HSRCN.out; simp at h1; omega)
     have ha : s.srcs.all (fun t => known.contains t) = al := HAL.out
     rw [ha] at this
     exact this
    cases al with
    | false =>
     have HE : Hid (res = .err ((i : Int) + 1) 8) := by show _ = _; rw [← HREM2.out]; exact linesP_name HW0.out HST.out HK64.out HAL.out
     go_wp2_with (first | (go_at_call 22; refine HWD.out.mono ?_; rintro e V ⟨rfl, rfl⟩) | (go_at_call 21; refine HCO.out.mono ?_; rintro e V2 ⟨v, rfl, hown, hb⟩; obtain ⟨A4, c4, rfl, hc4⟩ := own_shape hown; (have HQ2 := Lib.hid (HQ.out.on (HB1.out.trans (hb.mono HB1.out.size)))); (have xb2 := HQ2.out.cell); (have HSTP := step_any V2 (SS.of_own hown (by have := HWN.out; omega)) (by omega) hc4 (by have hh := HWL.out; rw [List.getD_eq_getElem?_getD]; cases hq : WD[0]? with | none => (exact Nat.zero_le _) | some y => (have := hh y (List.mem_of_getElem? hq); unfold maxLen; simp; omega))); rw [hst] at HSTP; (have HSTP := Lib.hid HSTP); (have HN1 := Lib.hid hn1); clear hown hb hc4 hst hn1) | (go_at_call 23; refine HSTP.out.mono ?_; rintro e V3 ⟨hb3, he⟩; (try (simp only at he)); obtain ⟨As, ns, cs, A2, m2, c2, he, ho1, ho2⟩ := he; (have HQ3 := Lib.hid (HQ2.out.on hb3)); (have HO1 := Lib.hid ho1); (have HO2 := Lib.hid ho2); obtain ⟨SC, hSC⟩ : ∃ x, stC 0 (ba s.op) (ba s.dst) As ns cs (ba s.file) A2 m2 c2 = x := ⟨_, rfl⟩; rw [hSC] at he; subst he; (have HSC := Lib.hid hSC); (have HS6 : Hid (SC.size = 6) := (by rw [← hSC]; rfl)); (have HONE : Hid (SC.all (·.oneCell') = true) := (by rw [← hSC]; exact stC_one _ _ _ _ _ _ _ _ _ _)); clear hb3 ho1 ho2 hSC; obtain ⟨WA, hWA⟩ : ∃ x, V3.alloc (.cells #[.int .i64 0, .string ⟨#[]⟩, .string ⟨#[]⟩, .slice none 0 0, .string ⟨#[]⟩, .slice none 0 0] 37) = x := ⟨_, rfl⟩; (have HXA : Hid (WA.heap[V3.heap.size]? = some (.cells st0 37 (0, 0))) := (by rw [← hWA]; exact heap_alloc_new V3 _)); (have HBA : Hid (Below V3.heap.size V3 WA) := (by rw [← hWA]; exact (Below.refl _ _).alloc (Nat.le_refl _) _))) | (refine wpList_store_rowG rfl 37 (.tmp 10) (.tmp 33) rfl V3.heap.size SC rfl rfl 37 st0 HXA.out (by rw [HS6.out]; exact infoSt) (by rw [HS6.out]; rfl) HONE.out ?_; intro W4 hr4 hg4; (have HR4 := Lib.hid hr4); (have HB4 : Hid (Below V3.heap.size V3 W4) := HBA.out.grown hg4 HBA.out.size (fun q e => by injection e with e; omega)); clear hr4 hg4 xb2; (have HQ4 := Lib.hid (HQ3.out.on HB4.out)); (have xb4 := HQ4.out.cell); (have hs3 : SC[3]? = some (.slice As ns cs) := (by rw [← HSC.out]; rfl)); (have x3 : W4.cell? ⟨V3.heap.size, 3, none⟩ = some (.slice As ns cs) := (Ard.row_cell HR4.out 3).trans hs3); (have HCF4 := Lib.hid (HCF.out W4 As ns cs HQ4.out.km xb4 (own_below (own_lower HO1.out HQ2.out.sz) HB4.out)))) | (go_at_call 24; refine HCF4.out.mono ?_; rintro e V5 ⟨rfl, hb5⟩; (have HQ5 := Lib.hid (HQ4.out.on hb5)); clear hb5) | fail)
     refine bodyPost_ret (results_three rfl _ _ _) rfl ?_
     refine ⟨HQ5.out.bel, ?_⟩
     rw [HE.out]
     rfl
    | true =>
     have HMORE : Hid (linesP (LL.drop (i + 1)) ((i : Int) + 1) (R.map SRow.p ++ [((i : Int) + 1, s)]) (s.dst :: known) = res) := by show _ = _; rw [← HREM2.out]; exact (linesP_more HW0.out HST.out HK64.out HAL.out).symm
     obtain ⟨zo, hzo⟩ : ∃ z, ba s.op = z := ⟨_, rfl⟩
     obtain ⟨zd, hzd⟩ : ∃ z, ba s.dst = z := ⟨_, rfl⟩
     obtain ⟨zf, hzf⟩ : ∃ z, ba s.file = z := ⟨_, rfl⟩
     have HZO := Lib.hid hzo
     have HZD := Lib.hid hzd
     have HZF := Lib.hid hzf
     clear hzo hzd hzf
     go_wp2_with (first | (go_at_call 22; refine HWD.out.mono ?_; rintro e V ⟨rfl, rfl⟩) | (go_at_call 21; refine HCO.out.mono ?_; rintro e V2 ⟨v, rfl, hown, hb⟩; obtain ⟨A4, c4, rfl, hc4⟩ := own_shape hown; (have HQ2 := Lib.hid (HQ.out.on (HB1.out.trans (hb.mono HB1.out.size)))); (have xb2 := HQ2.out.cell); (have HSTP := step_any V2 (SS.of_own hown (by have := HWN.out; omega)) (by omega) hc4 (by have hh := HWL.out; rw [List.getD_eq_getElem?_getD]; cases hq : WD[0]? with | none => (exact Nat.zero_le _) | some y => (have := hh y (List.mem_of_getElem? hq); unfold maxLen; simp; omega))); rw [hst] at HSTP; (have HSTP := Lib.hid HSTP); (have HN1 := Lib.hid hn1); clear hown hb hc4 hst hn1) | (go_at_call 23; refine HSTP.out.mono ?_; rintro e V3 ⟨hb3, he⟩; (try (simp only at he)); obtain ⟨As, ns, cs, A2, m2, c2, he, ho1, ho2⟩ := he; (have HQ3 := Lib.hid (HQ2.out.on hb3)); (have HO1 := Lib.hid ho1); (have HO2 := Lib.hid ho2); obtain ⟨SC, hSC⟩ : ∃ x, stC 0 (ba s.op) (ba s.dst) As ns cs (ba s.file) A2 m2 c2 = x := ⟨_, rfl⟩; rw [hSC] at he; subst he; (have HSC := Lib.hid hSC); (have HS6 : Hid (SC.size = 6) := (by rw [← hSC]; rfl)); (have HONE : Hid (SC.all (·.oneCell') = true) := (by rw [← hSC]; exact stC_one _ _ _ _ _ _ _ _ _ _)); clear hb3 ho1 ho2 hSC; obtain ⟨WA, hWA⟩ : ∃ x, V3.alloc (.cells #[.int .i64 0, .string ⟨#[]⟩, .string ⟨#[]⟩, .slice none 0 0, .string ⟨#[]⟩, .slice none 0 0] 37) = x := ⟨_, rfl⟩; (have HXA : Hid (WA.heap[V3.heap.size]? = some (.cells st0 37 (0, 0))) := (by rw [← hWA]; exact heap_alloc_new V3 _)); (have HBA : Hid (Below V3.heap.size V3 WA) := (by rw [← hWA]; exact (Below.refl _ _).alloc (Nat.le_refl _) _))) | (refine wpList_store_rowG rfl 37 (.tmp 10) (.tmp 33) rfl V3.heap.size SC rfl rfl 37 st0 HXA.out (by rw [HS6.out]; exact infoSt) (by rw [HS6.out]; rfl) HONE.out ?_; intro W4 hr4 hg4; (have HR4 := Lib.hid hr4); (have HB4 : Hid (Below V3.heap.size V3 W4) := HBA.out.grown hg4 HBA.out.size (fun q e => by injection e with e; omega)); clear hr4 hg4 xb2; (have HQ4 := Lib.hid (HQ3.out.on HB4.out)); (have xb4 := HQ4.out.cell); (have hs3 : SC[3]? = some (.slice As ns cs) := (by rw [← HSC.out]; rfl)); (have x3 : W4.cell? ⟨V3.heap.size, 3, none⟩ = some (.slice As ns cs) := (Ard.row_cell HR4.out 3).trans hs3); (have HCF4 := Lib.hid (HCF.out W4 As ns cs HQ4.out.km xb4 (own_below (own_lower HO1.out HQ2.out.sz) HB4.out)))) | (go_at_call 24; refine HCF4.out.mono ?_; rintro e V5 ⟨rfl, hb5⟩; (have HB5 : Hid (Below V3.heap.size V3 V5) := HB4.out.trans (hb5.mono HB4.out.size)); (have hr5 := (hb5.block _ (Array.getElem?_eq_some_iff.1 HR4.out).1).trans HR4.out); (rw [← HSC.out] at hr5); (have y0 : V5.cell? ⟨V3.heap.size, 0, none⟩ = some (.int .i64 0) := Ard.row_cell hr5 0); (have y1 : V5.frozen? ⟨V3.heap.size, 0, none⟩ = false := Ard.row_frozen hr5 0); obtain ⟨W6, hW6⟩ : ∃ x, V5.setCell ⟨V3.heap.size, 0, none⟩ (.int .i64 ((i : Int) + 1)) = x := ⟨_, rfl⟩; (have hr6 : W6.heap[V3.heap.size]? = some (.cells (stC ((i : Int) + 1) (ba s.op) (ba s.dst) As ns cs (ba s.file) A2 m2 c2) 37 (0, 0)) := (by rw [← hW6]; exact heap_setCell_same V5 V3.heap.size 0 _ _ _ hr5)); (have hb6 : Below V3.heap.size V3 W6 := (by rw [← hW6]; exact HB5.out.setCell (p := ⟨V3.heap.size, 0, none⟩) (Nat.le_refl _) _)); (have HB6 := Lib.hid hb6); (have HQ6 := Lib.hid (HQ3.out.on hb6)); (have xb6 := HQ6.out.cell); (have y2 : W6.cell? ⟨V3.heap.size, 2, none⟩ = some (.string (ba s.dst)) := Ard.row_cell hr6 2); rw [HZD.out] at y2; obtain ⟨W7, hput, hg7, hq7⟩ := HQ6.out.put (by have := HKC.out.2; have := HLT.out; have := HMB.out; unfold maxLen; omega) HSH.out.1; rw [HZD.out] at hput; (have hr7 := (hg7.block _ (Array.getElem?_eq_some_iff.1 hr6).1 (by intro e; injection e with e; have := HQ3.out.sz; omega)).trans hr6); (have HR7 : Hid (W7.heap[V3.heap.size]? = some (.cells #[.int .i64 ((i : Int) + 1), .string zo, .string zd, .slice As ns cs, .string zf, .slice A2 m2 c2] 37 (0, 0))) := (by show _ = _; rw [← HZO.out, ← HZD.out, ← HZF.out]; exact hr7)); (have HQ7 := Lib.hid hq7); (have HROW : Hid (SRow.own W7 (w.heap.size + 2) ⟨((i : Int) + 1, s), As, ns, cs, A2, m2, c2⟩) := ⟨own_other (own_below (own_lower HO1.out HQ2.out.sz) HB6.out) (by omega) hg7, own_other (own_below (own_lower HO2.out HQ2.out.sz) HB6.out) (by omega) hg7⟩); clear hb5 hr5 hr6 hb6 hg7 hq7 hr7 xb4) | (refine wpList_load_row rfl 37 (.tmp 10) rfl V3.heap.size rfl 37 #[.int .i64 ((i : Int) + 1), .string zo, .string zd, .slice As ns cs, .string zf, .slice A2 m2 c2] (0, 0) _ HR7.out Tryz.underlying37 rfl infoSt ?_) | (at_builtin; (have HQ8 := Lib.hid (HQ7.out.on ((Below.refl _ _).alloc (Nat.le_refl _) (.cells #[.int .i64 ((i : Int) + 1), .string zo, .string zd, .slice As ns cs, .string zf, .slice A2 m2 c2] 37)))); (have HOWN8 := Lib.hid (HROW.out.below ((Below.refl _ _).alloc (Nat.le_refl _) (.cells #[.int .i64 ((i : Int) + 1), .string zo, .string zd, .slice As ns cs, .string zf, .slice A2 m2 c2] 37)))); refine Jp.wpList_push rfl (.tmp 56) (.tmp 58) _ rfl (w.heap.size + 2) 37 6 104 (.agg st0) Tryz.underlying23 infoStep rfl (by omega) (.slice A k c) k _ rfl HQ8.out.ts.1 W7.heap.size 1 1 [.int .i64 ((i : Int) + 1), .string zo, .string zd, .slice As ns cs, .string zf, .slice A2 m2 c2] 37 rfl rfl (heap_alloc_new W7 _) (by simp [Value.oneCell']) (by omega) (by have := HKL.out; unfold maxLen; omega) (by have := HKL.out; omega) (by have := HQ8.out.sz; omega) _ rfl ?_; intro g cap W9 ho9 hg9 _ hlt9; (have HO9 := Lib.hid ho9); (have HG9 := Lib.hid hg9); clear ho9 hg9 hlt9) | fail)
     have HQ9 := Lib.hid (HQ8.out.app (r := ⟨((i : Int) + 1, s), As, ns, cs, A2, m2, c2⟩) HOWN8.out (by show World.ownsRow _ _ _ _ _ _ (_ ++ [.int .i64 ((i : Int) + 1), .string (ba s.op), .string (ba s.dst), .slice As ns cs, .string (ba s.file), .slice A2 m2 c2]); rw [HZO.out, HZD.out, HZF.out]; exact HO9.out) HG9.out)
     go_roundw
     case rel => exact ⟨i + 1, some ⟨g, 0, none⟩, k + 1, cap, R ++ [⟨((i : Int) + 1, s), As, ns, cs, A2, m2, c2⟩], s.dst :: known, cnt + 1, HLT.out, rfl, rfl, HQ9, by show _ = _; rw [List.map_append]; exact HMORE.out, ⟨by have := HKL.out; omega, by have := HKC.out.2; omega⟩⟩
     case measure => exact meas_by (d := 1) HLT.out (by omega)
  ·obtain rfl : i = m := by omega
   have d2 : decide ((i : Int) < (i : Int)) = false := decide_eq_false (by omega)
   have HE : Hid (res = .ok (R.map SRow.p)) := by
    show _ = _
    rw [← HREM.out, List.drop_of_length_le (by rw [HLM.out]; exact Nat.le_refl _)]
    rfl
   clear hi hlt
   go_wp2_with fail
   refine bodyPost_ret (results_three rfl _ _ _) rfl ?_
   refine ⟨HQ.out.bel, ?_⟩
   rw [HE.out]
   exact ⟨A, k, c, R, rfl, HQ.out.ts.lower (by omega), rfl⟩
end Go.Proofs.YtoofgblmpjndjaaGreatDoor.Scr
