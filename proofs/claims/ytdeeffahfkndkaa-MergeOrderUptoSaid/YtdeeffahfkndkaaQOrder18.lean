/- The law MergeOrder returns true for every schema and every list of lists of rows, and leaves its arguments as they were, where the arguments are together of bulk at most 1048576. -/
import Derived.Test.YtdeeffahfkndkaaQOrder12
import Derived.Test.YtdeeffahfkndkaaQOrder14
import Derived.Test.YtdeeffahfkndkaaQOrder17
import Derived.Laws.Bits128
import Derived.Deep.QuietTactic
import Derived.BigQuiet
import Derived.Test.YtdeeffahfkndkaaRows
import Derived.WalkKit
import Derived.ProofKit
import Derived.OpenShut
import Derived.ShutString
import Derived.ChangeOld
import Derived.Below
import Derived.SizedLaws
import Derived.JoinedCond
namespace Go.Proofs.Ytdeeffahfkndkaa.P
open Go.RowKit Go.Proofs.YtdeeffahfkndkaaW.PrintWords Go.Proofs.YtdeeffahfkndkaaW.PrintLast Go.Proofs.YtdeeffahfkndkaaW.PrintMore
set_option linter.unusedVariables false
set_option linter.unusedSimpArgs false
theorem copyOk_of {l : List Row} {nd na : Nat} (hl : l.length ≤ 1000) (hnd : nd ≤ 40) (hna : na ≤ 40) (h : ∀ r ∈ l, RowGood nd na r) : rows_Copy.ok l = true := by
 simp only [rows_Copy.ok, Bool.and_eq_true, decide_eq_true_eq, List.all_eq_true]
 exact ⟨by omega, fun r hr => ⟨by have := (h r hr).dims; omega, by have := (h r hr).aggs; omega⟩⟩
theorem listsB_of {l : List (List Row)} {nd na : Nat} (hl : l.length ≤ 1000) (hs : (l.map (·.length)).sum ≤ 1000) (hnd : nd ≤ 40) (hna : na ≤ 40) (h : ∀ x ∈ l, x.length ≤ 1000 ∧ ∀ r ∈ x, RowGood nd na r) : ListsB l = true := by
 simp only [ListsB, Bool.and_eq_true, decide_eq_true_eq, List.all_eq_true]
 exact ⟨⟨by omega, by omega⟩, fun x hx => copyOk_of (h x hx).1 hnd hna (h x hx).2⟩
theorem ins_end : ∀ {o : List Row} {r : Row}, (∀ y ∈ o, cmpRow y r < 0) → ins o r = some (o ++ [r])
 | [], r, _ => rfl
 | x :: t, r, h => by rw [ins_lt (h x (List.mem_cons_self ..)), ins_end (fun y hy => h y (List.mem_cons_of_mem _ hy))]; rfl
theorem foldI_end : ∀ (l o : List Row), (o ++ l).Pairwise (fun a b => cmpRow a b < 0) → foldI o l = some (o ++ l)
 | [], o, _ => by rw [foldI, List.append_nil]
 | r :: t, o, h => by
  have h1 := List.pairwise_append.1 h
  rw [foldI, ins_end (fun y hy => h1.2.2 y hy r (List.mem_cons_self ..)), Option.bind_some, foldI_end t (o ++ [r]) (by rw [List.append_assoc]; exact h), List.append_assoc]
  rfl
theorem foldI_self {l : List Row} (h : sortedR l = true) : foldI [] l = some l := by rw [foldI_end l [] (sortedR_pairwise h)]; rfl
end Go.Proofs.Ytdeeffahfkndkaa.P
namespace Go.Proofs.Ytdeeffahfkndkaa.P
open Go.RowKit Go.Proofs.YtdeeffahfkndkaaW.PrintWords Go.Proofs.YtdeeffahfkndkaaW.PrintLast Go.Proofs.YtdeeffahfkndkaaW.PrintMore
set_option linter.unusedVariables false
set_option linter.unusedSimpArgs false
def joinAU (a b : S71) : S71 := ⟨a.f0 + b.f0, mn a.f1 b.f1, mx a.f2 b.f2⟩
def joinU (a b : Row) : Row := ⟨a.f0, a.f1, a.f2 + b.f2, List.zipWith joinAU a.f3 b.f3⟩
theorem joinAU_comm (a b : S71) : joinAU a b = joinAU b a := by
 unfold joinAU mn mx
 have h1 : (if b.f1 < a.f1 then b.f1 else a.f1) = (if a.f1 < b.f1 then a.f1 else b.f1) := by split <;> split <;> omega
 have h2 : (if a.f2 < b.f2 then b.f2 else a.f2) = (if b.f2 < a.f2 then a.f2 else b.f2) := by split <;> split <;> omega
 rw [h1, h2, Int.add_comm]
theorem joinAU_right (x a b : S71) : joinAU (joinAU x a) b = joinAU (joinAU x b) a := by
 unfold joinAU mn mx
 simp only [S71.mk.injEq]
 refine ⟨by omega, ?_, ?_⟩
 ·(repeat' split) <;> omega
 ·(repeat' split) <;> omega
theorem zip_comm : ∀ a b : List S71, List.zipWith joinAU a b = List.zipWith joinAU b a
 | [], [] => rfl
 | [], _ :: _ => rfl
 | _ :: _, [] => rfl
 | x :: a, y :: b => by rw [List.zipWith_cons_cons, List.zipWith_cons_cons, joinAU_comm, zip_comm a b]
theorem zip_right : ∀ x a b : List S71, List.zipWith joinAU (List.zipWith joinAU x a) b = List.zipWith joinAU (List.zipWith joinAU x b) a
 | [], a, b => by simp
 | x :: l, [], [] => rfl
 | x :: l, [], _ :: _ => rfl
 | x :: l, _ :: _, [] => rfl
 | x :: l, y :: a, z :: b => by simp only [List.zipWith_cons_cons]; rw [joinAU_right, zip_right l a b]
theorem joinU_key (a b c : Row) : cmpRow (joinU a b) c = cmpRow a c ∧ cmpRow c (joinU a b) = cmpRow c a := ⟨rfl, rfl⟩
theorem joinU_comm {a b : Row} (h : cmpRow a b = 0) : joinU a b = joinU b a := by
 obtain ⟨h0, h1⟩ := (cmpRow_zero _ _).1 h
 unfold joinU
 rw [zip_comm, h0, h1, Int.add_comm]
theorem joinU_right (x a b : Row) : joinU (joinU x a) b = joinU (joinU x b) a := by
 unfold joinU
 simp only [S39.mk.injEq, true_and]
 exact ⟨by omega, zip_right _ _ _⟩
def insU : List Row → Row → List Row
 | [], r => [r]
 | x :: t, r => if cmpRow x r < 0 then x :: insU t r else if cmpRow x r = 0 then joinU x r :: t else r :: x :: t
theorem insU_lt {x r : Row} {t : List Row} (h : cmpRow x r < 0) : insU (x :: t) r = x :: insU t r := by rw [insU, if_pos h]
theorem insU_eq {x r : Row} {t : List Row} (h : cmpRow x r = 0) : insU (x :: t) r = joinU x r :: t := by rw [insU, if_neg (by omega), if_pos h]
theorem insU_gt {x r : Row} {t : List Row} (h : 0 < cmpRow x r) : insU (x :: t) r = r :: x :: t := by rw [insU, if_neg (by omega), if_neg (by omega)]
theorem insU_comm_le : ∀ (l : List Row) {a b : Row}, cmpRow a b ≤ 0 → insU (insU l a) b = insU (insU l b) a
 | [], a, b, h => by
  rcases Int.lt_or_eq_of_le h with h | h
  ·rw [insU, insU, insU_lt h, insU_gt (lt_gt h)]; rfl
  ·rw [insU, insU, insU_eq h, insU_eq (by rw [cmpRow_swap]; omega), joinU_comm h]
 | x :: t, a, b, h => by
  have ih := insU_comm_le t h
  have hv := cmpRow_vals x a
  rcases Int.lt_or_eq_of_le h with hab | hab
  ·
   rcases hv with hx | hx | hx
   ·have hxb : cmpRow x b < 0 := cmpRow_trans (show cmpRow x a < 0 by omega) hab
    have e1 : insU (x :: t) a = x :: insU t a := insU_lt (by omega)
    have e2 : insU (x :: t) b = x :: insU t b := insU_lt hxb
    rw [e1, e2, insU_lt hxb, insU_lt (show cmpRow x a < 0 by omega), ih]
   ·have h3 := (cmpRow_key hx (c := b)).1
    rw [insU_eq hx, insU_lt (by rw [(joinU_key x a b).1]; omega), insU_lt (by omega), insU_eq hx]
   ·have hax : cmpRow a x < 0 := gt_lt (by omega)
    have e1 : insU (x :: t) a = a :: x :: t := insU_gt (by omega)
    rcases cmpRow_vals x b with hy | hy | hy
    ·have e2 : insU (x :: t) b = x :: insU t b := insU_lt (by omega)
     rw [e1, e2, insU_lt hab, e2]
     exact (insU_gt (by omega)).symm
    ·have e2 : insU (x :: t) b = joinU x b :: t := insU_eq hy
     rw [e1, e2, insU_lt hab, e2]
     exact (insU_gt (by rw [(joinU_key x b a).1]; omega)).symm
    ·have e2 : insU (x :: t) b = b :: x :: t := insU_gt (by omega)
     rw [e1, e2, insU_lt hab, e2]
     exact (insU_gt (lt_gt hab)).symm
  ·
   have h3 := (cmpRow_key hab (c := x)).2
   rcases hv with hx | hx | hx
   ·rw [insU_lt (by omega), insU_lt (by omega), insU_lt (by omega), insU_lt (by omega), ih]
   ·rw [insU_eq hx, insU_eq (by rw [(joinU_key x a b).1]; omega), insU_eq (by omega), insU_eq (by rw [(joinU_key x b a).1]; omega), joinU_right]
   ·rw [insU_gt (by omega), insU_eq hab, insU_gt (by omega), insU_eq (by rw [cmpRow_swap]; omega), joinU_comm hab]
theorem insU_comm (l : List Row) (a b : Row) : insU (insU l a) b = insU (insU l b) a := by
 rcases Int.lt_or_le 0 (cmpRow a b) with h | h
 ·exact (insU_comm_le l (by rw [cmpRow_swap]; omega)).symm
 ·exact insU_comm_le l h
theorem foldU_perm {l m : List Row} (h : l.Perm m) : ∀ o : List Row, l.foldl insU o = m.foldl insU o := by
 induction h with
 | nil => intro o; rfl
 | cons x _ ih => intro o; exact ih _
 | swap x y l => intro o; simp only [List.foldl_cons]; rw [insU_comm]
 | trans _ _ i1 i2 => intro o; exact (i1 o).trans (i2 o)
structure RowFold (nd na : Nat) (r : Row) : Prop where
 dims : r.f1.length = nd
 aggs : r.f3.length = na
 count : 1 ≤ r.f2 ∧ r.f2 ≤ 1048576
theorem RowGood.fold {nd na : Nat} {r : Row} (h : RowGood nd na r) : RowFold nd na r := ⟨h.dims, h.aggs, h.count⟩
theorem joinAs_U : ∀ {l m x : List S71}, l.length = m.length → joinAs l m = some x → x = List.zipWith joinAU l m
 | [], [], x, _, h => by simp [joinAs] at h; subst h; rfl
 | a :: l, b :: m, x, hl, h => by
  simp only [joinAs, Option.bind_eq_some_iff] at h
  obtain ⟨y, hy, z, hz, e⟩ := h
  simp only [Option.some.injEq] at e
  subst e
  have e1 : y = joinAU a b := by
   unfold joinA at hy
   split at hy
   ·exact (Option.some.inj hy).symm
   ·cases hy
  rw [List.zipWith_cons_cons, e1, joinAs_U (by simpa using hl) hz]
 | [], b :: m, x, hl, h => by simp at hl
 | a :: l, [], x, hl, h => by simp at hl
theorem joinO_U {nd na : Nat} {a b z : Row} (ha : RowFold nd na a) (hb : RowFold nd na b) (h : joinO a b = some z) : z = joinU a b ∧ RowFold nd na z := by
 have hw : wrap64 (a.f2 + b.f2) = a.f2 + b.f2 := by have := ha.count; have := hb.count; unfold wrap64; omega
 unfold joinO at h
 split at h
 ·rename_i h0
  obtain rfl := Option.some.inj h
  unfold joinE at h0 ⊢
  split at h0
  ·rename_i hc
   rw [if_pos hc]
   split at h0
   ·simp at h0
   ·rename_i hs
    rw [if_neg hs]
    cases hj : joinAs a.f3 b.f3 with
    | none => rw [hj] at h0; simp at h0
    | some l =>
     have e := joinAs_U hc.2 hj
     have hl := joinAs_length hc.2 hj
     rw [hw] at hs ⊢
     refine ⟨by show (⟨a.f0, a.f1, a.f2 + b.f2, l⟩ : Row) = joinU a b; rw [e]; rfl, ha.dims, hl.trans ha.aggs, ?_⟩
     show 1 ≤ a.f2 + b.f2 ∧ a.f2 + b.f2 ≤ 1048576
     have := ha.count; have := hb.count; omega
  ·simp at h0
 ·cases h
theorem ins_U {nd na : Nat} : ∀ {l o : List Row} {r : Row}, (∀ x ∈ l, RowFold nd na x) → RowFold nd na r → ins l r = some o → o = insU l r ∧ (∀ x ∈ o, RowFold nd na x) ∧ o.length ≤ l.length + 1
 | [], o, r, _, hr, h => by
  obtain rfl := Option.some.inj h
  exact ⟨rfl, fun x hx => by rw [List.mem_singleton.1 hx]; exact hr, by simp⟩
 | x :: t, o, r, hl, hr, h => by
  have ht : ∀ y ∈ t, RowFold nd na y := fun y hy => hl y (List.mem_cons_of_mem _ hy)
  have hx := hl x (List.mem_cons_self ..)
  rcases cmpRow_vals x r with hv | hv | hv
  ·rw [ins_lt (by omega), Option.map_eq_some_iff] at h
   obtain ⟨o', ho, rfl⟩ := h
   obtain ⟨h1, h2, h3⟩ := ins_U ht hr ho
   refine ⟨by rw [insU_lt (by omega), h1], fun y hy => ?_, by simp only [List.length_cons]; omega⟩
   rcases List.mem_cons.1 hy with rfl | hy
   ·exact hx
   ·exact h2 y hy
  ·rw [ins_eq hv, Option.map_eq_some_iff] at h
   obtain ⟨j, hj, rfl⟩ := h
   obtain ⟨h1, h2⟩ := joinO_U hx hr hj
   refine ⟨by rw [insU_eq hv, h1], fun y hy => ?_, by simp⟩
   rcases List.mem_cons.1 hy with rfl | hy
   ·exact h2
   ·exact ht y hy
  ·rw [ins_gt (by omega)] at h
   obtain rfl := Option.some.inj h
   refine ⟨by rw [insU_gt (by omega)], fun y hy => ?_, by simp⟩
   rcases List.mem_cons.1 hy with rfl | hy
   ·exact hr
   ·exact hl y hy
theorem foldI_U {nd na : Nat} : ∀ {m o x : List Row}, (∀ r ∈ o, RowFold nd na r) → (∀ r ∈ m, RowFold nd na r) → foldI o m = some x → x = m.foldl insU o ∧ (∀ r ∈ x, RowFold nd na r) ∧ x.length ≤ o.length + m.length
 | [], o, x, ho, _, h => by obtain rfl := Option.some.inj h; exact ⟨rfl, ho, by simp⟩
 | r :: t, o, x, ho, hm, h => by
  rw [foldI, Option.bind_eq_some_iff] at h
  obtain ⟨o', h1, h2⟩ := h
  obtain ⟨e1, g1, n1⟩ := ins_U ho (hm r (List.mem_cons_self ..)) h1
  obtain ⟨e2, g2, n2⟩ := foldI_U g1 (fun q hq => hm q (List.mem_cons_of_mem _ hq)) h2
  exact ⟨by rw [e2, e1]; rfl, g2, by simp only [List.length_cons]; omega⟩
theorem foldI_app : ∀ (l m o : List Row), foldI o (l ++ m) = (foldI o l).bind fun o => foldI o m
 | [], m, o => by rw [List.nil_append, foldI, Option.bind_some]
 | a :: l, m, o => by
  rw [List.cons_append, foldI, foldI, Option.bind_assoc]
  congr 1
  funext o2
  exact foldI_app l m o2
theorem foldI_pw : ∀ {m o x : List Row}, o.Pairwise (fun a b => cmpRow a b < 0) → foldI o m = some x → x.Pairwise (fun a b => cmpRow a b < 0)
 | [], o, x, ho, h => by obtain rfl := Option.some.inj h; exact ho
 | r :: t, o, x, ho, h => by
  rw [foldI, Option.bind_eq_some_iff] at h
  obtain ⟨o', h1, h2⟩ := h
  exact foldI_pw (ins_sorted ho h1).1 h2
theorem ins_keys : ∀ {l o : List Row} {r : Row}, l.Pairwise (fun a b => cmpRow a b < 0) → ins l r = some o → (∀ q, hasKey q o = (hasKey q l || cmpRow q r == 0)) ∧ o.length = l.length + (if hasKey r l = true then 0 else 1)
 | [], o, r, _, h => by
  obtain rfl := Option.some.inj h
  exact ⟨fun q => by simp [hasKey], by simp [hasKey]⟩
 | x :: t, o, r, hp, h => by
  have hpt := List.Pairwise.of_cons hp
  have hc : ∀ (q y : Row) (u : List Row), hasKey q (y :: u) = (cmpRow q y == 0 || hasKey q u) := fun _ _ _ => rfl
  rcases cmpRow_vals x r with hv | hv | hv
  ·rw [ins_lt (by omega), Option.map_eq_some_iff] at h
   obtain ⟨o', ho, rfl⟩ := h
   obtain ⟨h1, h2⟩ := ins_keys hpt ho
   have hz : (cmpRow r x == 0) = false := by rw [beq_eq_false_iff_ne, cmpRow_swap]; omega
   refine ⟨fun q => by rw [hc, hc, h1, Bool.or_assoc], ?_⟩
   rw [hc, hz, Bool.false_or, List.length_cons, List.length_cons, h2]
   omega
  ·rw [ins_eq hv, Option.map_eq_some_iff] at h
   obtain ⟨j, hj, rfl⟩ := h
   have hk := joinO_key hj
   refine ⟨fun q => ?_, ?_⟩
   ·rw [hc, hc, (hk q).2, (cmpRow_key hv (c := q)).2]
    cases (cmpRow q r == 0) <;> simp
   ·rw [hc, show (cmpRow r x == 0) = true by rw [beq_iff_eq, cmpRow_swap]; omega]
    simp
  ·rw [ins_gt (by omega)] at h
   obtain rfl := Option.some.inj h
   have hn : hasKey r (x :: t) = false := by
    rw [Bool.eq_false_iff]
    intro hk
    obtain ⟨s, hs, e⟩ := hasKey_iff.1 hk
    rcases List.mem_cons.1 hs with rfl | hs
    ·rw [cmpRow_swap] at e; omega
    ·have h1 := List.rel_of_pairwise_cons hp hs
     have h2 := cmpRow_trans (gt_lt (show 0 < cmpRow x r by omega)) h1
     omega
   refine ⟨fun q => by rw [hc, Bool.or_comm], ?_⟩
   rw [hn]; simp
theorem fold_keys (m : List Row) : ∀ x : List Row, foldI [] m = some x → x.length = keysN m ∧ ∀ q, hasKey q x = hasKey q m := by
 have snoc : ∀ (k : Nat) (m : List Row), m.length = k → ∀ x, foldI [] m = some x → x.length = keysN m ∧ ∀ q, hasKey q x = hasKey q m := by
  intro k
  induction k with
  | zero =>
   intro m hm x h
   obtain rfl := List.length_eq_zero_iff.1 hm
   obtain rfl := Option.some.inj h
   exact ⟨rfl, fun q => rfl⟩
  | succ k ih =>
   intro m hm x h
   obtain ⟨t, r, rfl⟩ : ∃ t r, m = t ++ [r] := ⟨m.dropLast, m.getLast (by intro e; rw [e] at hm; cases hm), (List.dropLast_concat_getLast _).symm⟩
   rw [foldI_app, Option.bind_eq_some_iff] at h
   obtain ⟨o, h1, h2⟩ := h
   obtain ⟨i1, i2⟩ := ih t (by simpa using hm) o h1
   rw [foldI, Option.bind_eq_some_iff] at h2
   obtain ⟨x', h3, h4⟩ := h2
   obtain rfl := Option.some.inj h4
   obtain ⟨j1, j2⟩ := ins_keys (foldI_pw List.Pairwise.nil h1) h3
   have hk : keysN (t ++ [r]) = (if hasKey r t = true then 0 else 1) + keysN t := by
    rw [keysN_perm (List.perm_append_comm (l₁ := t) (l₂ := [r]))]; rfl
   refine ⟨by rw [j2, i1, i2, hk]; omega, fun q => ?_⟩
   rw [j1, i2, hasKey, hasKey, List.any_append]
   simp [hasKey]
 exact snoc m.length m rfl
theorem order_all {nd na : Nat} {l : List (List Row)} {x : List Row} (hg : ∀ y ∈ l, ∀ r ∈ y, RowGood nd na r) (h : listsE l = (x, 0)) :
  foldI [] l.flatten = some x ∧ l.all sortedR = true ∧ x.Pairwise (fun a b => cmpRow a b < 0) ∧ (∀ r ∈ x, RowFold nd na r) ∧ x.length = keysN l.flatten ∧ (listsE l.reverse = (x, 0) ∨ listsE l.reverse = ([], 121)) := by
 have hall : l.all sortedR = true := by
  cases hs : l.all sortedR with
  | true => rfl
  | false => unfold listsE at h; rw [if_neg (by rw [hs]; decide)] at h; cases h
 have hfl : ∀ r ∈ l.flatten, RowGood nd na r := fun r hr => by obtain ⟨y, hy, hr⟩ := List.mem_flatten.1 hr; exact hg y hy r hr
 have hf : foldI [] l.flatten = some x := by
  rw [listsE_fold hall na (fun r hr => (hfl r hr).aggs)] at h
  cases hq : foldI [] l.flatten with
  | none => rw [hq] at h; cases h
  | some o => rw [hq] at h; injection h with h1 _; rw [h1]
 obtain ⟨hu, hr, _⟩ := foldI_U (nd := nd) (na := na) (fun r h => by simp at h) (fun r hr => (hfl r hr).fold) hf
 refine ⟨hf, hall, foldI_pw List.Pairwise.nil hf, hr, (fold_keys _ _ hf).1, ?_⟩
 have hpr : l.reverse.flatten.Perm l.flatten := (List.reverse_perm l).flatten
 rw [listsE_fold (by rw [List.all_reverse]; exact hall) na (fun r hr => (hfl r (hpr.mem_iff.1 hr)).aggs)]
 cases hq : foldI [] l.reverse.flatten with
 | none => exact .inr rfl
 | some y =>
  obtain ⟨hy, _⟩ := foldI_U (nd := nd) (na := na) (fun r h => by simp at h) (fun r hr => (hfl r (hpr.mem_iff.1 hr)).fold) hq
  exact .inl (by rw [hy, hu, foldU_perm hpr])
theorem order_step {nd na : Nat} {l : List (List Row)} {x : List Row} (hg : ∀ y ∈ l, ∀ r ∈ y, RowGood nd na r) (hall : l.all sortedR = true) (h : foldI [] l.flatten = some x) (i : Nat) (hi : i < l.length) {z : List Row} (hz : foldI [] (l.take i).flatten = some z) :
  ∃ z', foldI [] (l.take (i + 1)).flatten = some z' ∧ listsE [z, l[i]] = (z', 0) := by
 have e1 : l.flatten = (l.take (i + 1)).flatten ++ (l.drop (i + 1)).flatten := by rw [← List.flatten_append, List.take_append_drop]
 have e2 : (l.take (i + 1)).flatten = (l.take i).flatten ++ l[i] := by
  rw [show l.take (i + 1) = l.take i ++ [l[i]] by rw [List.take_append_getElem], List.flatten_append]
  simp
 have h1 := h
 rw [e1, foldI_app, Option.bind_eq_some_iff] at h1
 obtain ⟨z', hz', _⟩ := h1
 refine ⟨z', hz', ?_⟩
 have hgi : ∀ r ∈ l[i], RowGood nd na r := hg _ (List.getElem_mem hi)
 have hgz : ∀ r ∈ z, RowFold nd na r := (foldI_U (nd := nd) (na := na) (fun r h => by simp at h) (fun r hr => by
  obtain ⟨y, hy, hr⟩ := List.mem_flatten.1 hr
  exact (hg y (List.mem_of_mem_take hy) r hr).fold) hz).2.1
 have hzs := foldI_pw List.Pairwise.nil hz
 have hf : ([z, l[i]] : List (List Row)).flatten = z ++ l[i] := by simp
 rw [listsE_fold (by simp only [List.all_cons, List.all_nil, Bool.and_true, Bool.and_eq_true]; exact ⟨sortedR_of hzs, List.all_eq_true.1 hall _ (List.getElem_mem hi)⟩) na (by
  rw [hf]
  intro r hr
  rcases List.mem_append.1 hr with hr | hr
  ·exact (hgz r hr).aggs
  ·exact (hgi r hr).aggs), hf, foldI_app, foldI_self (sortedR_of hzs), Option.bind_some]
 rw [e2, foldI_app, hz, Option.bind_some] at hz'
 rw [hz']
end Go.Proofs.Ytdeeffahfkndkaa.P
namespace Go.Proofs.Ytdeeffahfkndkaa.P
open Go.RowKit Go.Proofs.YtdeeffahfkndkaaW.PrintWords Go.Proofs.YtdeeffahfkndkaaW.PrintLast Go.Proofs.YtdeeffahfkndkaaW.PrintMore
set_option linter.unusedVariables false
set_option linter.unusedSimpArgs false
theorem lists_C {W : World} {g : Nat} {cells : Array Value} (h : W.heap[g]? = some (.cells cells 28 (0, 0))) (l : List (List Row)) (hm : l.length ≤ maxLen) (hc : ∀ (j : Nat) x, l[j]? = some x → ∃ A c, cells[j]? = some (.slice A x.length c) ∧ x.length ≤ c ∧ k39.C W A x.length x) : Kd.C (Kd.slice 39 k39) W (some ⟨g, 0, none⟩) l.length l :=
 C_blk (d := Kd.slice 39 k39) h l hm (fun j x hj => by
  obtain ⟨A, c, h1, h2, h3⟩ := hc j x hj
  refine ⟨[.slice A x.length c], rfl, ⟨A, c, rfl, h2, h3⟩, fun i u hu => ?_⟩
  match i, hu with
  | 0, hu => cases hu; show cells[j * 1 + 0]? = _; rw [Nat.mul_one, Nat.add_zero]; exact h1
  | i + 1, hu => simp at hu)
structure OneAt (w : World) (l : List (List Row)) (ad : Addr) (k : Nat) (x : List Row) (Ax : Option Addr) (cx : Nat) : Prop where
 cell : ∀ W, Below w.heap.size w W → W.cell? (ad.add k) = some (.slice Ax x.length cx)
 len : x.length ≤ cx
 C : ∀ W, Below w.heap.size w W → k39.C W Ax x.length x
theorem OneAt.lists {w : World} {l : List (List Row)} {ad : Addr} {k : Nat} {x : List Row} {Ax : Option Addr} {cx : Nat} (h : OneAt w l ad k x Ax cx) (hB : ListsB [[], x, []] = true) {W : World} (hb : Below w.heap.size w W) {n : Nat} (hn : W.heap.size = n) {r1 : List Row} {r2 : Int} (hr : listsE [[], x, []] = (r1, r2)) :
  Calls Try.prog 9 #[.slice (some ⟨n, 0, none⟩) 3 3] (W.alloc (.cells #[.slice none 0 0, .slice Ax x.length cx, .slice none 0 0] 28)) fun e w' => ∃ v, e = .returned (.tuple #[v, .int .i64 r2]) ∧ Kd.R k39 39 w' w.heap.size (fun _ => True) v r1 ∧ Below w.heap.size w w' := by
 have hb2 := beA hb (.cells #[.slice none 0 0, .slice Ax x.length cx, .slice none 0 0] 28)
 refine (merge_Lists.calls (some ⟨n, 0, none⟩) 3 [[], x, []] r1 r2 _ (lists_C (blk_at hn _ _) [[], x, []] (by simp [maxLen]) (fun j y hj => ?_)) (Nat.le_refl _) (by unfold merge_Lists.f; rw [if_pos hB, hr])).mono ?_
 ·match j, hj with
  | 0, hj => cases hj; exact ⟨none, 0, rfl, Nat.le_refl _, none_C _ _⟩
  | 1, hj => cases hj; exact ⟨Ax, cx, rfl, h.len, h.C _ hb2⟩
  | 2, hj => cases hj; exact ⟨none, 0, rfl, Nat.le_refl _, none_C _ _⟩
  | j + 3, hj => simp at hj
 ·rintro e w' ⟨v, rfl, hR, hb3⟩
  exact ⟨v, rfl, Kd.R_lower hR hb2.size, below_then hb2 hb3⟩
end Go.Proofs.Ytdeeffahfkndkaa.P
namespace Go.Proofs.Ytdeeffahfkndkaa.P
open Go.RowKit Go.Proofs.YtdeeffahfkndkaaW.PrintWords Go.Proofs.YtdeeffahfkndkaaW.PrintLast Go.Proofs.YtdeeffahfkndkaaW.PrintMore
set_option linter.unusedVariables false
set_option linter.unusedSimpArgs false
set_option maxHeartbeats 8000000 in
set_option maxRecDepth 100000 in
theorem order_walk_skip (w : World) (A0 : Option Addr) (c0 : Nat) (l0 : List ByteArray) (A1 : Option Addr) (c1 : Nat) (l1 : List ByteArray) (A : Option Addr) (c : Nat) (l : List (List Row)) (hlc : l.length ≤ c) (hC : Kd.C (Kd.slice 39 k39) w A l.length l) (hB : ListsB l = true) (r1 : List Row) (r2 : Int) (hr : listsE l = (r1, r2)) (b : Bool) (hb : b = true → r2 ≠ 0)
  (hf : ∀ W, Below w.heap.size w W → Calls Try.prog 7 #[.agg #[.slice A0 l0.length c0, .slice A1 l1.length c1], .slice A l.length c] W fun e w' => e = .returned (.bool b) ∧ Below W.heap.size W w') :
  Calls Try.prog 4 #[.agg #[.slice A0 l0.length c0, .slice A1 l1.length c1], .slice A l.length c] w fun e w' => e = .returned (.bool true) ∧ Below w.heap.size w w' := by
 have HF := Z0.mk hf
 have HLS : Z0 (∀ W, Below w.heap.size w W → Calls Try.prog 9 #[.slice A l.length c] W fun e w' => ∃ v, e = .returned (.tuple #[v, .int .i64 r2]) ∧ Kd.R k39 39 w' W.heap.size (fun _ => True) v r1 ∧ Below W.heap.size W w') := ⟨fun W hW => merge_Lists.calls A c l r1 r2 W (Kd.C_below hC hW) hlc (by unfold merge_Lists.f; rw [if_pos hB, hr])⟩
 have HL : Z0 (∀ W, Calls Try.prog 8 #[] W fun e w' => e = .returned (.bool true) ∧ Below W.heap.size W w') := ⟨fun W => columbarylaw15_alive.calls true W rfl⟩
 clear hf hC hB hr
 cases b with
 | false =>
  clear hb
  go_enter Try.func4, Try.ntmps4
  go_wp2_with (first
   | (go_at_call 7; refine (HF.out _ (beA (Below.refl _ _) _)).mono ?_; rintro e w1 ⟨rfl, hb1⟩; have HB1 := Z0.mk (below_then (beA (Below.refl _ _) _) hb1); clear hb1)
   | (go_at_call 9; refine (HLS.out _ HB1.out).mono ?_; rintro e w2 ⟨v, rfl, hR, hb2⟩; have HB2 := Z0.mk (below_then HB1.out hb2); clear hR hb2)
   | (go_at_call 8; refine (HL.out _).mono ?_; rintro e w3 ⟨rfl, hb3⟩; have HB3 := Z0.mk (below_then HB2.out hb3); clear hb3))
  go_ret
  exact ⟨rfl, HB3.out⟩
 | true =>
  have hne := hb rfl
  have q1 : ((r2 : Int) != 0) = true := bne_iff_ne.2 hne
  have q2 : (r2 == 0) = false := beq_eq_false_iff_ne.2 hne
  have q3 : decide (r2 = 0) = false := decide_eq_false hne
  clear hb
  go_enter Try.func4, Try.ntmps4
  go_wp2_with (first
   | (go_at_call 7; refine (HF.out _ (beA (Below.refl _ _) _)).mono ?_; rintro e w1 ⟨rfl, hb1⟩; have HB1 := Z0.mk (below_then (beA (Below.refl _ _) _) hb1); clear hb1)
   | (go_at_call 9; refine (HLS.out _ HB1.out).mono ?_; rintro e w2 ⟨v, rfl, hR, hb2⟩; have HB2 := Z0.mk (below_then HB1.out hb2); clear hR hb2)
   | (go_at_call 8; refine (HL.out _).mono ?_; rintro e w3 ⟨rfl, hb3⟩; have HB3 := Z0.mk (below_then HB2.out hb3); clear hb3))
  go_ret
  exact ⟨rfl, HB3.out⟩
structure SV (w : World) where
 x : List Row
 A : Option Addr
 c : Nat
 le : x.length ≤ c
 C : k39.C w A x.length x
def SV.val {w : World} (p : SV w) : Value := .slice p.A p.x.length p.c
def kSV (w : World) : Kd (SV w) where
 sz := 1
 E := []
 K := fun _ p c => c = [p.val]
 M := fun _ _ _ p c => c = [p.val]
 K_len := by rintro _ p _ rfl; rfl
 K_one := by rintro _ p _ rfl u hu; rw [List.mem_singleton.1 hu]; rfl
 K_below := by rintro _ _ _ _ _ rfl; rfl
 K_of_M := by rintro _ _ _ _ _ rfl; rfl
 M_mono := by rintro _ _ _ _ _ _ _ rfl; rfl
 M_bound := by rintro _ _ _ _ _ rfl; rfl
 M_move := by rintro _ _ _ _ _ _ _ rfl; rfl
 M_lower := by rintro _ _ _ _ _ _ _ rfl; rfl
theorem sv_C {w W : World} (hb : Below w.heap.size w W) {A : Option Addr} {n : Nat} {zs : List (SV w)} (h : (kSV w).C W A n zs) : Kd.C (Kd.slice 39 k39) W A n (zs.map (·.x)) := by
 refine ⟨by rw [List.length_map]; exact h.1, h.2.1, fun hn => ?_⟩
 obtain ⟨ad, e, hc⟩ := h.2.2 hn
 refine ⟨ad, e, fun j p hj => ?_⟩
 rw [List.getElem?_map, Option.map_eq_some_iff] at hj
 obtain ⟨z, hz, rfl⟩ := hj
 obtain ⟨cl, h1, h2, h3⟩ := hc j z hz
 have h2' : cl = [z.val] := h2
 subst h2'
 exact ⟨_, rfl, ⟨z.A, z.c, rfl, z.le, Kd.C_below z.C hb⟩, h3⟩
theorem lists_pair {W : World} {n : Nat} (hn : W.heap.size = n) {x y : List Row} {Ax : Option Addr} {cx : Nat} {Ay : Option Addr} {cy : Nat} (lx : x.length ≤ cx) (hx : k39.C W Ax x.length x) (ly : y.length ≤ cy) (hy : k39.C W Ay y.length y) {r : List Row} {f : Int} (hB : ListsB [x, y] = true) (hr : listsE [x, y] = (r, f)) :
  Calls Try.prog 9 #[.slice (some ⟨n, 0, none⟩) 2 2] (W.alloc (.cells #[.slice Ax x.length cx, .slice Ay y.length cy] 28)) fun e w' => ∃ A c, e = .returned (.tuple #[.slice A r.length c, .int .i64 f]) ∧ r.length ≤ c ∧ k39.C w' A r.length r ∧ Below W.heap.size W w' := by
 have hb2 := beA (Below.refl W.heap.size W) (.cells #[.slice Ax x.length cx, .slice Ay y.length cy] 28)
 refine (merge_Lists.calls (some ⟨n, 0, none⟩) 2 [x, y] r f _ (lists_C (blk_at hn _ _) [x, y] (by simp [maxLen]) (fun j z hj => ?_)) (Nat.le_refl _) (by unfold merge_Lists.f; rw [if_pos hB, hr])).mono ?_
 ·match j, hj with
  | 0, hj => cases hj; exact ⟨Ax, cx, rfl, lx, Kd.C_below hx hb2⟩
  | 1, hj => cases hj; exact ⟨Ay, cy, rfl, ly, Kd.C_below hy hb2⟩
  | j + 2, hj => simp at hj
 ·rintro e w' ⟨v, rfl, hR, hb4⟩
  obtain ⟨A, c, rfl⟩ := Kd.R_slice hR
  obtain ⟨_, h1, h2⟩ := Kd.R_reads' hR
  exact ⟨A, c, rfl, h1, h2, below_then hb2 hb4⟩
def Kept39 (W : World) (A : Option Addr) (c : Nat) (x : List Row) : Prop := x.length ≤ c ∧ ∀ W', Below W.heap.size W W' → k39.C W' A x.length x
theorem Kept39.to {W W' : World} {A : Option Addr} {c : Nat} {x : List Row} (h : Kept39 W A c x) (hb : Below W.heap.size W W') : Kept39 W' A c x := ⟨h.1, fun W2 h2 => h.2 W2 (below_then hb h2)⟩
theorem Kept39.now {W : World} {A : Option Addr} {c : Nat} {x : List Row} (h : Kept39 W A c x) : k39.C W A x.length x := h.2 W (Below.refl _ _)
set_option maxHeartbeats 8000000 in
set_option maxRecDepth 100000 in
theorem order_walk_yes (w : World) (A0 : Option Addr) (c0 : Nat) (l0 : List ByteArray) (A1 : Option Addr) (c1 : Nat) (l1 : List ByteArray) (A : Option Addr) (c : Nat) (l : List (List Row)) (hlc : l.length ≤ c) (hl8 : l.length ≤ 8) (hC : Kd.C (Kd.slice 39 k39) w A l.length l)
  (hf : ∀ W, Below w.heap.size w W → Calls Try.prog 7 #[.agg #[.slice A0 l0.length c0, .slice A1 l1.length c1], .slice A l.length c] W fun e w' => e = .returned (.bool true) ∧ Below W.heap.size W w')
  (x : List Row) (hB : ListsB l = true) (hx : listsE l = (x, 0)) (y : List Row) (f : Int) (hBr : ListsB l.reverse = true) (hy : listsE l.reverse = (y, f)) (hyf : f = 0 ∧ y = x ∨ f = 121 ∧ y = [])
  (hz : ∀ (i : Nat) (hi : i < l.length) z, foldI [] (l.take i).flatten = some z → ∃ z', foldI [] (l.take (i + 1)).flatten = some z' ∧ listsE [z, l[i]] = (z', 0) ∧ ListsB [z, l[i]] = true) (hfx : foldI [] l.flatten = some x) (n1 : Int) (hst : statsE l = (n1, (x.length : Int)))
  (hs : ∀ W A' c', k39.C W A' x.length x → x.length ≤ c' → Calls Try.prog 14 #[.slice A' x.length c'] W fun e w' => e = .returned (.bool true) ∧ Below W.heap.size W w')
  (hsm : ∀ (q : List Row) W A' c' A2 c2, k39.C W A' x.length x → x.length ≤ c' → k39.C W A2 q.length q → q.length ≤ c2 → Calls Try.prog 13 #[.slice A' x.length c', .slice A2 q.length c2] W fun e w' => e = .returned (.bool (eqB x q)) ∧ Below W.heap.size W w') :
  Calls Try.prog 4 #[.agg #[.slice A0 l0.length c0, .slice A1 l1.length c1], .slice A l.length c] w fun e w' => e = .returned (.bool true) ∧ Below w.heap.size w w' := by
 have HF := Z0.mk hf
 have HC := Z0.mk hC
 have HS := Z0.mk hs
 have HSM := Z0.mk hsm
 have HZ := Z0.mk hz
 have HFX := Z0.mk hfx
 have HYF := Z0.mk hyf
 have HLS : Z0 (∀ W, Below w.heap.size w W → Calls Try.prog 9 #[.slice A l.length c] W fun e w' => ∃ v, e = .returned (.tuple #[v, .int .i64 0]) ∧ Kd.R k39 39 w' W.heap.size (fun _ => True) v x ∧ Below W.heap.size W w') := ⟨fun W hW => merge_Lists.calls A c l x 0 W (Kd.C_below hC hW) hlc (by unfold merge_Lists.f; rw [if_pos hB, hx])⟩
 have HLB : Z0 (∀ W A' c', Kd.C (Kd.slice 39 k39) W A' l.reverse.length l.reverse → l.reverse.length ≤ c' → Calls Try.prog 9 #[.slice A' l.reverse.length c'] W fun e w' => ∃ v, e = .returned (.tuple #[v, .int .i64 f]) ∧ Kd.R k39 39 w' W.heap.size (fun _ => True) v y ∧ Below W.heap.size W w') := ⟨fun W A' c' hCW hc' => merge_Lists.calls A' c' l.reverse y f W hCW hc' (by unfold merge_Lists.f; rw [if_pos hBr, hy])⟩
 have HST : Z0 (∀ W, Below w.heap.size w W → Calls Try.prog 11 #[.slice A l.length c] W fun e w' => e = .returned (.tuple #[.int .i64 n1, .int .i64 (x.length : Int)]) ∧ Below W.heap.size W w') := ⟨fun W hW => merge_Stats.calls A c l n1 (x.length : Int) W (Kd.C_below hC hW) hlc (by unfold merge_Stats.f; rw [if_pos hB, hst])⟩
 have HL : Z0 (∀ W, Calls Try.prog 8 #[] W fun e w' => e = .returned (.bool true) ∧ Below W.heap.size W w') := ⟨fun W => columbarylaw15_alive.calls true W rfl⟩
 clear hf hC hs hsm hz hfx hyf hB hx hBr hy hst
 go_enter Try.func4, Try.ntmps4
 go_wp2_with (first
  | (go_at_call 7; refine (HF.out _ (beA (Below.refl _ _) _)).mono ?_; rintro e w1 ⟨rfl, hb1⟩; have HB1 := Z0.mk (below_then (beA (Below.refl _ _) _) hb1); clear hb1)
  | (go_at_call 9; refine (HLS.out _ HB1.out).mono ?_; rintro e w2 ⟨v, rfl, hR, hb2⟩; have HB2 := Z0.mk (below_then HB1.out hb2); obtain ⟨Ax, cx, ev⟩ := Kd.R_slice hR; subst ev; have HX : Z0 (Kept39 w2 Ax cx x) := ⟨⟨(Kd.R_reads' hR).2.1, fun W' hW => Kd.C_below (Kd.R_reads' hR).2.2 hW⟩⟩; clear hR hb2))
 clear HF HLS HB1
 go_loopg [8, 9] (l.length + 1) (fun gk v8 v9 w' => ∃ (j : Nat) (t : Int) (zs : List (SV w)) (Ab : Option Addr) (cb : Nat), v8 = .slice Ab zs.length cb ∧ v9 = .int .i64 t ∧ Z0 (t = (l.length : Int) - 1 - j) ∧ -1 ≤ t ∧ t < l.length ∧ l.length < gk + j ∧ j ≤ l.length ∧ Z0 (zs.map (·.x) = l.reverse.take j ∧ (kSV w).R 28 w' w2.heap.size (fun _ => True) (.slice Ab zs.length cb) zs ∧ Below w2.heap.size w2 w'))
 case atStart => exact ⟨0, (l.length : Int) - 1, [], none, 0, rfl, rfl, ⟨by simp⟩, by omega, by omega, by omega, Nat.zero_le _, ⟨by simp, Kd.R_nil _ _ _ _ _, Below.refl _ _⟩⟩
 case round =>
  obtain ⟨j, t, zs, Ab, cb, rfl, rfl, HT, ht1, ht2, hgk, hjl, HI⟩ := hrel
  cases gk with
  | zero => exact absurd hgk (by omega)
  | succ k1 =>
   have hzl : zs.length = j := by
    have := congrArg List.length HI.out.1
    rw [List.length_map, List.length_take, List.length_reverse] at this
    omega
   have HZL := Z0.mk hzl
   clear hzl
   by_cases hlt : j < l.length
   ·have ht0 : 0 ≤ t := by have := HT.out; omega
    obtain ⟨ad, Ai, ci, rfl, hcell, hle, hCi⟩ := at_L6 HC.out t ht0 (by omega)
    have etn : t.toNat = l.length - 1 - j := by have := HT.out; omega
    have e1 : l.reverse[j]? = some (rd_L6 l t) := by
     rw [List.getElem?_reverse hlt]
     unfold rd_L6
     rw [etn, List.getD_eq_getElem?_getD, List.getElem?_eq_getElem (show l.length - 1 - j < l.length by omega)]
     rfl
    have hb2 := below_then HB2.out HI.out.2.2
    have hcW := (hb2.cell (World.block_lt_of_cell? _ _ hcell)).trans hcell
    obtain ⟨p, hp⟩ : ∃ p : SV w, p = ⟨rd_L6 l t, Ai, ci, hle, hCi⟩ := ⟨_, rfl⟩
    have hcP : ∀ q, some (Value.slice Ai (rd_L6 l t).length ci) = q → some p.val = q := fun q h => by rw [hp]; exact h
    have hcW2 := hcW.trans (hcP _ rfl).symm
    have HPE : Z0 (l.reverse[j]? = some p.x) := ⟨by rw [e1, hp]⟩
    have hpv : p.val = .slice p.A p.x.length p.c := rfl
    rw [hpv] at hcW2
    have hq : decide (t ≥ 0) = true := decide_eq_true ht0
    clear hcell hle hCi etn e1 hb2 hcW hcP hp hpv
    go_wp2_with (first | ((with_reducible refine gate_builtin (b := .append) (xs := #[.tmp 42, .tmp 47]) rfl ?_); (try (refine gate_guard (by rfl) ?_; dsimp only)); at_builtin; refine Kd.R_append (kSV w) (w0 := w2) w2.heap.size rfl (.tmp 42) (.tmp 47) 25 28 (.slice none 0 0) 24 rfl Try.underlying25 info28 rfl (Nat.succ_pos 0) (by decide) (.slice Ab zs.length cb) zs p [p.val] (fun _ => True) (fun k => some k ≠ (Value.slice Ab zs.length cb).ownBlock) rfl rfl rfl (fun k hk => ⟨trivial, hk⟩) (fun k hk => trivial) HI.out.2.1 HI.out.2.2 HI.out.2.2.size (by have := HZL.out; omega) ?_; rintro v9 w9 hR9 hB9 hg9 hat9; obtain ⟨A9, c9, e9⟩ := Kd.R_slice hR9; subst e9; have HR9 := Z0.mk hR9; have HB9 := Z0.mk hB9; clear hR9 hB9 hg9 hat9))
    go_roundg k1
    case measure => exact Nat.lt_succ_self _
    case rel => exact ⟨j + 1, t - 1, zs ++ [p], A9, c9, by simp, rfl, ⟨by have := HT.out; omega⟩, by omega, by omega, by omega, by omega, ⟨by rw [List.take_add_one, HPE.out, List.map_append, HI.out.1]; rfl, HR9.out, HB9.out⟩⟩
   ·have ht0 : t < 0 := by have := HT.out; omega
    have hq : decide (t ≥ 0) = false := decide_eq_false (by omega)
    have hlen : zs.length = l.reverse.length := by rw [HZL.out, List.length_reverse]; omega
    have hzr : zs.map (·.x) = l.reverse := by rw [HI.out.1, List.take_of_length_le (by rw [List.length_reverse]; omega)]
    have hCr := sv_C (below_then HB2.out HI.out.2.2) (Kd.R_reads' HI.out.2.1).2.2
    rw [hzr] at hCr
    have hcr := (Kd.R_reads' HI.out.2.1).2.1
    have HLB2 := Z0.mk (by
     have h := HLB.out _ Ab cb (by rw [← hlen]; exact hCr) (by rw [← hlen]; exact hcr)
     rw [← hlen] at h
     exact h)
    clear hlen hzr hCr hcr
    go_wp2_with (go_at_call 9; refine HLB2.out.mono ?_; rintro e w3 ⟨v, rfl, hR, hb3⟩; have HB3 := Z0.mk (below_then HI.out.2.2 hb3); obtain ⟨Ay, cy, ev⟩ := Kd.R_slice hR; subst ev; have HY : Z0 (Kept39 w3 Ay cy y) := ⟨⟨(Kd.R_reads' hR).2.1, fun W' hW => Kd.C_below (Kd.R_reads' hR).2.2 hW⟩⟩; clear hR hb3)
    have HX3 := Z0.mk (HX.out.to HB3.out)
    have HBW := Z0.mk (below_then HB2.out HB3.out)
    clear HLB HLB2 HI HT HZL hq ht0 ht1 ht2 hgk hjl hlt HX HB3
    go_loopg [12, 13, 14] (l.length + 1) (fun gk v12 v13 v14 w' => ∃ (i : Nat) (z : List Row) (Az : Option Addr) (cz : Nat), v12 = .slice Az z.length cz ∧ v13 = .int .i64 0 ∧ v14 = .int .i64 (i : Int) ∧ l.length < gk + i ∧ i ≤ l.length ∧ Z0 (foldI [] (l.take i).flatten = some z ∧ z.length ≤ cz ∧ k39.C w' Az z.length z ∧ Below w3.heap.size w3 w'))
    case atStart => exact ⟨0, [], none, 0, rfl, rfl, rfl, by omega, Nat.zero_le _, ⟨rfl, Nat.le_refl _, none_C _ _, Below.refl _ _⟩⟩
    case round =>
     obtain ⟨i, z, Az, cz, rfl, rfl, rfl, hgi, hil, HJ⟩ := hrel
     cases gk with
     | zero => exact absurd hgi (by omega)
     | succ k2 =>
      by_cases hlt : i < l.length
      ·have hbw := below_then HBW.out HJ.out.2.2.2
       obtain ⟨ad, Ai, ci, rfl, hcell, hle, hCi⟩ := at_L6 (Kd.C_below HC.out hbw) (i : Int) (by omega) (by omega)
       obtain ⟨z', h1, h2, h3⟩ := HZ.out i hlt z HJ.out.1
       rw [rd_L6_nat l i hlt, Int.toNat_natCast] at hcell
       rw [rd_L6_nat l i hlt] at hle hCi
       generalize l[i] = q at hcell hle hCi h2 h3
       have HP := Z0.mk (lists_pair rfl HJ.out.2.1 HJ.out.2.2.1 hle hCi h3 h2)
       have H1 := Z0.mk h1
       have hb1 : decide ((i : Int) < (l.length : Int)) = true := decide_eq_true (by omega)
       clear hle hCi h1 h2 h3 hbw
       go_wp2_with (go_at_call 9; refine HP.out.mono ?_; rintro e w4 ⟨A4, c4, rfl, hl4, hC4, hb4⟩; have H4 := Z0.mk (And.intro H1.out (And.intro hl4 (And.intro hC4 (below_then HJ.out.2.2.2 hb4)))); clear hl4 hC4 hb4)
       go_roundg k2
       case measure => exact Nat.lt_succ_self _
       case rel => exact ⟨i + 1, z', A4, c4, rfl, rfl, by go_num, by omega, by omega, H4⟩
      ·obtain rfl : i = l.length := by omega
       have hb1 : decide (((l.length : Nat) : Int) < (l.length : Int)) = false := decide_eq_false (by omega)
       have ez : z = x := by
        have := HJ.out.1
        rw [List.take_length, HFX.out] at this
        exact (Option.some.inj this).symm
       have HJ2 := Z0.mk HJ.out.2
       clear HJ
       subst ez
       have HX4 := Z0.mk (HX3.out.to HJ2.out.2.2)
       have HY4 := Z0.mk (HY.out.to HJ2.out.2.2)
       have hself : eqB z z = true := eqB_self z
       have HBW4 := Z0.mk (below_then HBW.out HJ2.out.2.2)
       have HM1 := Z0.mk (HSM.out y _ _ _ _ _ HX4.out.now HX4.out.1 HY4.out.now HY4.out.1)
       have HKZ : Z0 (Kept39 _ Az cz z) := ⟨⟨HJ2.out.1, fun W' hW => Kd.C_below HJ2.out.2.1 hW⟩⟩
       have HM2 : Z0 _ := ⟨fun W hW => HSM.out z W _ _ _ _ (HX4.out.2 W hW) HX4.out.1 (HKZ.out.2 W hW) HKZ.out.1⟩
       rw [hself] at HM2
       rcases HYF.out with ⟨rfl, rfl⟩ | ⟨rfl, hy0⟩
       ·rw [hself] at HM1
        clear hself
        go_wp2_with (first
         | (go_at_call 13; (with_reducible refine HM1.out.mono ?_); rintro e w5 ⟨rfl, hb5⟩; have HB5 := Z0.mk hb5; clear hb5)
         | (go_at_call 13; refine (HM2.out _ HB5.out).mono ?_; rintro e w6 ⟨rfl, hb6⟩; have HB6 := Z0.mk (below_then HB5.out hb6); clear hb6)
         | (go_at_call 14; refine (HS.out _ _ _ (HX4.out.2 _ HB6.out) HX4.out.1).mono ?_; rintro e w7 ⟨rfl, hb7⟩; have HB7 := Z0.mk (below_then HB6.out hb7); clear hb7)
         | (go_at_call 11; refine (HST.out _ (below_then HBW4.out HB7.out)).mono ?_; rintro e w8 ⟨rfl, hb8⟩; have HB8 := Z0.mk (below_then HB7.out hb8); clear hb8)
         | (go_at_call 8; refine (HL.out _).mono ?_; rintro e w9 ⟨rfl, hb9⟩; have HB9 := Z0.mk (below_then HB8.out hb9); clear hb9))
        go_ret
        exact ⟨rfl, below_then HBW4.out HB9.out⟩
       ·generalize eqB z y = u at HM1
        clear hself hy0 HYF
        go_wp2_with (first
         | (go_at_call 13; (with_reducible refine HM1.out.mono ?_); rintro e w5 ⟨rfl, hb5⟩; have HB5 := Z0.mk hb5; clear hb5)
         | (go_at_call 13; refine (HM2.out _ HB5.out).mono ?_; rintro e w6 ⟨rfl, hb6⟩; have HB6 := Z0.mk (below_then HB5.out hb6); clear hb6)
         | (go_at_call 14; refine (HS.out _ _ _ (HX4.out.2 _ HB6.out) HX4.out.1).mono ?_; rintro e w7 ⟨rfl, hb7⟩; have HB7 := Z0.mk (below_then HB6.out hb7); clear hb7)
         | (go_at_call 11; refine (HST.out _ (below_then HBW4.out HB7.out)).mono ?_; rintro e w8 ⟨rfl, hb8⟩; have HB8 := Z0.mk (below_then HB7.out hb8); clear hb8)
         | (go_at_call 8; refine (HL.out _).mono ?_; rintro e w9 ⟨rfl, hb9⟩; have HB9 := Z0.mk (below_then HB8.out hb9); clear hb9))
        go_ret
        exact ⟨rfl, below_then HBW4.out HB9.out⟩
end Go.Proofs.Ytdeeffahfkndkaa.P
namespace Go.Proofs.Ytdeeffahfkndkaa.P
open Go.RowKit Go.Proofs.YtdeeffahfkndkaaW.PrintWords Go.Proofs.YtdeeffahfkndkaaW.PrintLast Go.Proofs.YtdeeffahfkndkaaW.PrintMore
set_option linter.unusedVariables false
set_option linter.unusedSimpArgs false
theorem sum_ge {α : Type} (f g : α → Nat) (h : ∀ x, f x ≤ g x) : ∀ l : List α, (l.map f).sum ≤ (l.map g).sum
 | [] => Nat.le_refl _
 | x :: l => by have := h x; have := sum_ge f g h l; simp only [List.map_cons, List.sum_cons]; omega
theorem sum_one {α : Type} (g : α → Nat) (h : ∀ x, 1 ≤ g x) : ∀ l : List α, l.length ≤ (l.map g).sum
 | [] => Nat.le_refl _
 | x :: l => by have := h x; have := sum_one g h l; simp only [List.map_cons, List.sum_cons, List.length_cons]; omega
theorem sum_mem {α : Type} (g : α → Nat) : ∀ {l : List α} {x : α}, x ∈ l → g x ≤ (l.map g).sum
 | y :: l, x, h => by
  simp only [List.map_cons, List.sum_cons]
  rcases List.mem_cons.1 h with rfl | h
  ·omega
  ·have := sum_mem g h; omega
theorem mRow_len (r : Row) : r.f1.length ≤ mRow r ∧ r.f3.length ≤ mRow r ∧ 1 ≤ mRow r := by
 have h1 := sum_one mStr (fun s => by unfold mStr; omega) r.f1
 have h3 := sum_one mAgg (fun _ => by unfold mAgg; omega) r.f3
 unfold mRow
 omega
theorem listsB_bulk {l : List (List Row)} (h : mLists l ≤ 1048576) : ListsB l = true := by
 have h0 : (l.map mList).sum ≤ 1048576 := by unfold mLists at h; omega
 have h1 := sum_one mList (fun x => by unfold mList; omega) l
 have h2 := sum_ge (fun x : List Row => x.length) mList (fun x => by have := sum_one mRow (fun r => (mRow_len r).2.2) x; unfold mList; omega) l
 simp only [ListsB, Bool.and_eq_true, decide_eq_true_eq, List.all_eq_true]
 refine ⟨⟨by omega, by omega⟩, fun x hx => ?_⟩
 have h3 := sum_mem mList hx
 have h4 := sum_one mRow (fun r => (mRow_len r).2.2) x
 have h5 : mList x = (x.map mRow).sum + 1 := rfl
 simp only [rows_Copy.ok, Bool.and_eq_true, decide_eq_true_eq, List.all_eq_true]
 refine ⟨by omega, fun r hr => ?_⟩
 have h6 := sum_mem mRow hr
 have h7 := mRow_len r
 exact ⟨by omega, by omega⟩
theorem order_walk (w : World) (A0 : Option Addr) (c0 : Nat) (l0 : List ByteArray) (A1 : Option Addr) (c1 : Nat) (l1 : List ByteArray) (A : Option Addr) (c : Nat) (l : List (List Row))
  (q0 : l0.length ≤ c0) (C0 : Kd.string.C w A0 l0.length l0) (q1 : l1.length ≤ c1) (C1 : Kd.string.C w A1 l1.length l1) (g0 : ∀ s ∈ l0, GStr s) (g1 : ∀ s ∈ l1, GStr s) (q : l.length ≤ c) (C : Kd.C (Kd.slice 39 k39) w A l.length l) (g : GLists l) (hm : mLists l ≤ 1048576) :
  Calls Try.prog 4 #[.agg #[.slice A0 l0.length c0, .slice A1 l1.length c1], .slice A l.length c] w fun e w' => e = .returned (.bool true) ∧ Below w.heap.size w w' := by
 obtain ⟨b, hb, hφ⟩ := fits15_fin l0 l1 g0 g1 l g.2
 obtain ⟨kf, hkf⟩ := hb.rounds
 have hF : ∀ W, Below w.heap.size w W → Calls Try.prog 7 #[.agg #[.slice A0 l0.length c0, .slice A1 l1.length c1], .slice A l.length c] W fun e w' => e = .returned (.bool b) ∧ Below W.heap.size W w' := fun W hW =>
  (columbarylaw15_fits.calls kf A0 c0 l0 A1 c1 l1 A c l b W (Kd.C_below C0 hW) q0 (Kd.C_below C1 hW) q1 (Kd.C_below C hW) q hkf).mono fun e w' h => h
 have hB := listsB_bulk hm
 obtain ⟨r1, r2, hr⟩ : ∃ r1 r2, listsE l = (r1, r2) := ⟨_, _, rfl⟩
 by_cases hc : b = true ∧ r2 = 0
 ·obtain ⟨rfl, rfl⟩ := hc
  have G := hφ rfl
  have hnd := G.nd
  have hna := G.na
  have hl8 := G.len
  have hsum := G.sum
  have hg : ∀ y ∈ l, ∀ r ∈ y, RowGood l0.length l1.length r := fun y hy => (G.lists y hy).rows
  obtain ⟨hfx, hall, hpw, hrf, hkeys, hrev⟩ := order_all hg hr
  have hg1 : ∀ y ∈ l, y.length ≤ 1000 ∧ ∀ r ∈ y, RowGood l0.length l1.length r := fun y hy => ⟨by have := (G.lists y hy).len; omega, hg y hy⟩
  have hBr : ListsB l.reverse = true := listsB_of (by rw [List.length_reverse]; omega) (by rw [List.map_reverse, List.sum_reverse]; omega) (by omega) (by omega) (fun y hy => hg1 y (List.mem_reverse.1 hy))
  have hfold : ∀ (m : List (List Row)) z, (∀ y ∈ m, y ∈ l) → foldI [] m.flatten = some z → (∀ r ∈ z, RowFold l0.length l1.length r) ∧ z.length ≤ (m.map (·.length)).sum := fun m z hmem hz => by
   obtain ⟨_, h2, h3⟩ := foldI_U (nd := l0.length) (na := l1.length) (fun r h => by simp at h) (fun r hr => by
    obtain ⟨y, hy, hr⟩ := List.mem_flatten.1 hr
    exact (hg y (hmem y hy) r hr).fold) hz
   rw [List.length_flatten] at h3
   exact ⟨h2, by simpa using h3⟩
  have hxl := (hfold l r1 (fun y hy => hy) hfx).2
  obtain ⟨ks, hks⟩ := (sortedRef_ev r1 l0.length (fun r hr => (hrf r hr).dims) (by omega) (by omega)).rounds
  rw [sortedR_of hpw] at hks
  have hyf : ∃ y f, listsE l.reverse = (y, f) ∧ (f = 0 ∧ y = r1 ∨ f = 121 ∧ y = []) := by
   rcases hrev with h | h
   ·exact ⟨r1, 0, h, .inl ⟨rfl, rfl⟩⟩
   ·exact ⟨[], 121, h, .inr ⟨rfl, rfl⟩⟩
  obtain ⟨y, f, hy, hyf⟩ := hyf
  refine order_walk_yes w A0 c0 l0 A1 c1 l1 A c l q hl8 C hF r1 hB hr y f hBr hy hyf (fun i hi z hz => ?_) hfx (sumL l : Int) (by unfold statsE; rw [if_pos hall, hkeys]) (fun W A' c' hC hc => (columbaryref13_Sorted.calls ks A' c' r1 true W hC hc hks).mono fun e w' h => h) (fun p W A' c' A2 c2 hC hc hC2 hc2 => ?_)
  ·obtain ⟨z', h1, h2⟩ := order_step hg hall hfx i hi hz
   refine ⟨z', h1, h2, ?_⟩
   obtain ⟨hzr, hzl⟩ := hfold (l.take i) z (fun y hy => List.mem_of_mem_take hy) hz
   have hts : ((l.take i).map (·.length)).sum ≤ (l.map (·.length)).sum := by
    have : (l.map (·.length)).sum = ((l.take i).map (·.length)).sum + ((l.drop i).map (·.length)).sum := by rw [← List.sum_append, ← List.map_append, List.take_append_drop]
    omega
   have hil := (G.lists _ (List.getElem_mem hi)).len
   simp only [ListsB, Bool.and_eq_true, decide_eq_true_eq, List.all_eq_true]
   refine ⟨⟨by simp, by simp; omega⟩, fun v hv => ?_⟩
   simp only [List.mem_cons, List.not_mem_nil, or_false] at hv
   rcases hv with rfl | rfl
   ·simp only [rows_Copy.ok, Bool.and_eq_true, decide_eq_true_eq, List.all_eq_true]
    exact ⟨by omega, fun r hr => ⟨by have := (hzr r hr).dims; omega, by have := (hzr r hr).aggs; omega⟩⟩
   ·exact copyOk_of (by omega) (by omega) (by omega) (hg _ (List.getElem_mem hi))
  ·obtain ⟨km, hkm⟩ := (same_ev r1 p (by omega) (fun r hr => ⟨by have := (hrf r hr).dims; omega, by have := (hrf r hr).aggs; omega⟩)).rounds
   exact (columbaryref13_Same.calls km A' c' r1 A2 c2 p _ W hC hc hC2 hc2 hkm).mono fun e w' h => h
 ·exact order_walk_skip w A0 c0 l0 A1 c1 l1 A c l q C hB r1 r2 hr b (fun h h2 => hc ⟨h, h2⟩) hF
end Go.Proofs.Ytdeeffahfkndkaa.P
namespace Go.Proofs.Ytdeeffahfkndkaa.mergeOrder
open Go.ChangeShapes Go.WideShapes Go.ChangeAt Go.RowKit
open Go.ChangeMaps (open_string shut_string)
set_option linter.unusedVariables false
theorem own : ownKnob Try.prog.godebug = none := by kernel_rfl
theorem laidOut : laidOutB Try.prog = true := by kernel_rfl
set_option maxRecDepth 100000 in
theorem lifted (os : Os) (started : os.Started) (H : Type) (enc : TypeId × Value → H) (F : Stop.Interp) :
  ReturnsInHanded {} Try.checked os 4 .any ((Rows.OpenSpec.upto Rows.mergeOrderSpec).pre6 enc Try.prog Try.f4 Rows.mergeOrderUptoRow.domain false) (((Rows.OpenSpec.upto Rows.mergeOrderSpec).at F).post enc Try.prog Try.f4 false true false false) := by
 refine returnsInHanded_of_cond (C := Try.checked) (s := Rows.OpenSpec.upto Rows.mergeOrderSpec) (k := Rows.uptoSmall) rfl own started (by kernel_rfl) Try.func4
  (OpenSpec.witness (enc := enc) (C := Try.checked) (s := Rows.OpenSpec.upto Rows.mergeOrderSpec) (k := Rows.uptoSmall) rfl false ⟨#[], #[.agg #[.slice none 0 0, .slice none 0 0], .slice none 0 0], []⟩ 8 (by kernel_rfl) (by kernel_rfl) (by kernel_rfl)
   (x := ([.agg [.nil, .nil], .nil], [], [])) (by kernel_rfl) rfl (by kernel_rfl)) ?_
 intro W base args ds gs before hval0 hW _ hk _
 have hval : ∀ (j : Nat) t v, Try.f4.params[j]? = some t → args[j]? = some v → Value.okWide Try.prog W .any base t v := hval0
 have hW' := hW
 obtain ⟨p, q, hA0, hV, rfl, hfz, hnd⟩ := hW
 have hA : DataW.TrodAll enc Try.prog W 0 (fun _ => true) true Try.f4.params.toList args.toList ds p := hA0
 rw [Try.params4] at hA hval
 obtain ⟨v0, vs0, d0, ds0, p0, q0, hargs, rfl, rfl, h0, r0⟩ := trodAll_cons hA
 obtain ⟨v1, vs1, d1, ds1, p1, q1, rfl, rfl, rfl, h1, r1⟩ := trodAll_cons r0
 obtain ⟨rfl, rfl, rfl⟩ := trodAll_nil r1
 obtain rfl : args = #[v0, v1] := by cases args; simp_all
 obtain ⟨rfl, rfl⟩ := trodVars_none hV
 have k0 := h0
 have lt0 : ∀ x ∈ p0, x.block < W.heap.size := by obtain ⟨m, hm⟩ := k0; exact DataW.trod_lt m _ _ _ hm
 have k1 := h1
 have lt1 : ∀ x ∈ p1, x.block < W.heap.size := by obtain ⟨m, hm⟩ := k1; exact DataW.trod_lt m _ _ _ hm
 obtain ⟨A0, c0, l0, A1, c1, l1, rfl, e0, C0, e1, C1, g0, g1⟩ := P.open24 (hval 0 24 v0 rfl rfl) h0
 obtain ⟨A, c, l, rfl, e2, C2, g2, hm⟩ := P.open_sl Try.underlying25 P.opens25 (hval 1 25 v1 rfl rfl) h1
 have hbulk : P.mLists l ≤ 1048576 := by
  have h : Rows.uptoBulkAll ([d0, d1] ++ []) ≤ 1048576 := of_decide_eq_true hk
  simp only [List.append_nil, Rows.uptoBulkAll] at h
  omega
 clear hA0 hval0
 refine (P.order_walk W A0 c0 l0 A1 c1 l1 A c l e0 C0 e1 C1 g0 g1 e2 C2 g2 hbulk).mono fun e W' ⟨he, bel⟩ => ?_
 subst he
 exact ⟨_, rfl, _, _, _, [], _, [], hW', trodAll_mk1 (shut_bool Try.underlying4 _), (trodAll_cons_mk (Below.trod laidOut (by kernel_rfl) (of_decide_eq_true (by kernel_rfl)) k0 bel lt0) (trodAll_cons_mk (Below.trod laidOut (by kernel_rfl) (of_decide_eq_true (by kernel_rfl)) k1 bel lt1) trodAll_mk0)), rfl, bel.frame _, fun h => by cases h⟩
theorem proved : Rows.MergeOrderUptoSaid :=
 OpenClaim.holds_of_cond 4 Try.f4 rfl rfl rfl rfl rfl rfl rfl ⟨rfl, rfl, rfl, rfl, rfl⟩ rfl rfl rfl rfl rfl (by kernel_rfl) Try.func4 (by kernel_rfl)
  (of_decide_eq_true (by kernel_rfl)) (by unfold Func.isWrapper; first | (rw [if_pos (by decide +kernel)]; kernel_rfl) | (rw [if_neg (by decide +kernel)]; exact ⟨rfl, rfl⟩))
  (fun os started H enc _ F => lifted os started H enc F)
#print axioms proved
end Go.Proofs.Ytdeeffahfkndkaa.mergeOrder
namespace Go.Proofs.Ytdeeffahfkndkaa
theorem mergeOrder_holds : Rows.MergeOrderUptoSaid := mergeOrder.proved
end Go.Proofs.Ytdeeffahfkndkaa
