/- A part of the proof: lemmas and contracts of functions (printed or written by the session's program, and by hand), in dependency order. -/
import Derived.Lib.Strings
import Derived.Test.YtdeeffahfkndkaaQOrder3
import Derived.Test.YtdeeffahfkndkaaQOrder6
namespace Go.Proofs.Ytdeeffahfkndkaa.P
open Go.RowKit Go.Proofs.YtdeeffahfkndkaaW.PrintWords Go.Proofs.YtdeeffahfkndkaaW.PrintLast Go.Proofs.YtdeeffahfkndkaaW.PrintMore
set_option linter.unusedVariables false
set_option linter.unusedSimpArgs false
theorem wrap_nat {i : Nat} (h : i < 9223372036854775807) : wrap64 ((i : Int) + 1) = ((i + 1 : Nat) : Int) := by unfold wrap64; omega
def cmpI (a b : Int) : Int := if a < b then -1 else if b < a then 1 else 0
def cmpS (a b : ByteArray) : Int := if Op.bytesLess a.toList b.toList = true then -1 else if (a.toList == b.toList) = true then 0 else 1
def cmpL : List ByteArray → List ByteArray → Int
 | [], [] => 0
 | [], _ :: _ => -1
 | _ :: _, [] => 1
 | a :: l, b :: m => if cmpS a b = 0 then cmpL l m else cmpS a b
def orI (a b : Int) : Int := if a = 0 then b else a
def cmpRow (a b : S39) : Int := orI (cmpI a.f0 b.f0) (cmpL a.f1 b.f1)
theorem cmpI_f (a b : Int) : cmp_Compare_int.f a b = some (cmpI a b) := by
 unfold cmp_Compare_int.f cmp_isNaN_int.f cmpI
 simp only [bne_self_eq_false, Option.bind_some, if_false, Bool.false_eq_true, gt_iff_lt]
 split
 ·rfl
 ·split <;> rfl
theorem cmpS_f (a b : ByteArray) : cmp_Compare_string.f a b = some (cmpS a b) := rfl
theorem orI_ev (a b : Int) : Ev (fun k => cmp_Or_int.f k [a, b]) (orI a b) := by
 refine ⟨4, fun k hk => ?_⟩
 obtain ⟨k, rfl⟩ : ∃ m, k = m + 3 := ⟨k - 3, by omega⟩
 unfold cmp_Or_int.f orI
 by_cases ha : a = 0
 ·by_cases hb : b = 0
  ·simp [cmp_Or_int.l0, rd, ha, hb, wrap64]
  ·simp [cmp_Or_int.l0, rd, ha, hb, wrap64]
 ·simp [cmp_Or_int.l0, rd, ha]
theorem rdOf_cons (l : List ByteArray) (i : Nat) (x : ByteArray) (r : List ByteArray) (h : l.drop i = x :: r) : rdOf ByteArray.empty l (i : Int) = x := by
 have : l[i]? = some x := by rw [← List.head?_drop, h]; rfl
 simp [rdOf, List.getD_eq_getElem?_getD, this]
theorem cmpL_ev_ (l m : List ByteArray) (hl : l.length < 4611686018427387904) : ∀ d i : Nat, i + d = l.length → Ev (fun k => slices_Compare_string_string.l0 k l m l (l.length : Int) (i : Int)) (cmpL (l.drop i) (m.drop i)) := by
 intro d
 induction d with
 | zero =>
  intro i hi
  refine Ev.step (f := fun _ => some (cmpL (l.drop i) (m.drop i))) (fun k => ?_) (Ev.now _)
  have h0 : l.drop i = [] := List.drop_eq_nil_of_le (by omega)
  rw [h0]
  simp only [slices_Compare_string_string.l0]
  rw [if_neg (by omega)]
  by_cases hm : l.length < m.length
  ·rw [if_pos (by omega)]
   cases hd : m.drop i with
   | nil => have := List.drop_eq_nil_iff.1 hd; omega
   | cons x r => rfl
  ·rw [if_neg (by omega)]
   have h1 : m.drop i = [] := List.drop_eq_nil_of_le (by omega)
   rw [h1]
   rfl
 | succ d ih =>
  intro i hi
  have hlt : i < l.length := by omega
  cases hd : l.drop i with
  | nil => have := List.drop_eq_nil_iff.1 hd; omega
  | cons x r =>
   have hr : l.drop (i + 1) = r := by rw [← List.tail_drop, hd]; rfl
   by_cases hm : i < m.length
   ·cases hd2 : m.drop i with
    | nil => have := List.drop_eq_nil_iff.1 hd2; omega
    | cons y s =>
     have hs : m.drop (i + 1) = s := by rw [← List.tail_drop, hd2]; rfl
     by_cases hc : cmpS x y = 0
     ·refine Ev.step (f := fun k => slices_Compare_string_string.l0 k l m l (l.length : Int) ((i + 1 : Nat) : Int)) (fun k => ?_) ?_
      ·simp only [slices_Compare_string_string.l0]
       rw [if_pos (by omega), if_pos (by omega), if_pos (by omega), if_neg (by omega), if_pos (by omega), rdOf_cons l i x r hd, rdOf_cons m i y s hd2, cmpS_f, Option.bind_some, if_pos hc, wrap_nat (by omega)]
      ·have h := ih (i + 1) (by omega)
       rw [hr, hs] at h
       rw [cmpL, if_pos hc]
       exact h
     ·refine Ev.step (f := fun _ => some (cmpL (x :: r) (y :: s))) (fun k => ?_) (Ev.now _)
      simp only [slices_Compare_string_string.l0]
      rw [if_pos (by omega), if_pos (by omega), if_pos (by omega), if_neg (by omega), if_pos (by omega), rdOf_cons l i x r hd, rdOf_cons m i y s hd2, cmpS_f, Option.bind_some, if_neg hc, cmpL, if_neg hc]
   ·refine Ev.step (f := fun _ => some (cmpL (x :: r) (m.drop i))) (fun k => ?_) (Ev.now _)
    have h1 : m.drop i = [] := List.drop_eq_nil_of_le (by omega)
    simp only [slices_Compare_string_string.l0]
    rw [if_pos (by omega), if_pos (by omega), if_pos (by omega), if_pos (by omega), h1, cmpL]
theorem cmpL_ev (l m : List ByteArray) (hl : l.length < 4611686018427387904) : Ev (fun k => slices_Compare_string_string.f k l m) (cmpL l m) := by
 have h := cmpL_ev_ l m hl l.length 0 (by omega)
 simpa [slices_Compare_string_string.f] using h
theorem cmpRow_ev (a b : S39) (ha : a.f1.length < 4611686018427387904) : Ev (fun k => rows_Compare.f k a.f0 a.f1 a.f2 a.f3 b.f0 b.f1 b.f2 b.f3) (cmpRow a b) := by
 have h1 := cmpL_ev a.f1 b.f1 ha
 have h2 := orI_ev (cmpI a.f0 b.f0) (cmpL a.f1 b.f1)
 obtain ⟨K1, h1⟩ := h1
 obtain ⟨K2, h2⟩ := h2
 refine ⟨max K1 K2, fun k hk => ?_⟩
 have e1 := h1 k (by omega)
 have e2 := h2 k (by omega)
 show rows_Compare.f k a.f0 a.f1 a.f2 a.f3 b.f0 b.f1 b.f2 b.f3 = some (cmpRow a b)
 unfold rows_Compare.f
 replace e1 : slices_Compare_string_string.f k a.f1 b.f1 = some (cmpL a.f1 b.f1) := e1
 replace e2 : cmp_Or_int.f k [cmpI a.f0 b.f0, cmpL a.f1 b.f1] = some (orI (cmpI a.f0 b.f0) (cmpL a.f1 b.f1)) := e2
 rw [cmpI_f, Option.bind_some, e1, Option.bind_some, e2]
 rfl
theorem cmpI_vals (a b : Int) : cmpI a b = -1 ∨ cmpI a b = 0 ∨ cmpI a b = 1 := by unfold cmpI; (repeat' split) <;> simp
theorem cmpI_swap (a b : Int) : cmpI b a = - cmpI a b := by unfold cmpI; (repeat' split) <;> omega
theorem cmpI_zero (a b : Int) : cmpI a b = 0 ↔ a = b := by unfold cmpI; (repeat' split) <;> omega
theorem cmpI_trans {a b c : Int} (h1 : cmpI a b < 0) (h2 : cmpI b c < 0) : cmpI a c < 0 := by
 unfold cmpI at h1 h2 ⊢
 have h3 : a < b := by
  by_cases h : a < b
  ·exact h
  ·rw [if_neg h] at h1; split at h1 <;> omega
 have h4 : b < c := by
  by_cases h : b < c
  ·exact h
  ·rw [if_neg h] at h2; split at h2 <;> omega
 rw [if_pos (by omega)]
 omega
theorem less_irrefl : ∀ x : List UInt8, Op.bytesLess x x = false
 | [] => rfl
 | a :: x => by simp [Op.bytesLess, less_irrefl x, UInt8.lt_irrefl]
theorem less_tri : ∀ x y : List UInt8, Op.bytesLess x y = false → x ≠ y → Op.bytesLess y x = true
 | [], [], _, h => absurd rfl h
 | [], _ :: _, h, _ => by simp [Op.bytesLess] at h
 | _ :: _, [], _, _ => rfl
 | a :: x, b :: y, h, hn => by
  simp only [Op.bytesLess, Bool.or_eq_false_iff, decide_eq_false_iff_not, Bool.and_eq_false_iff, beq_eq_false_iff_ne] at h
  simp only [Op.bytesLess, Bool.or_eq_true, decide_eq_true_eq, Bool.and_eq_true, beq_iff_eq]
  by_cases e : a = b
  ·subst e
   refine .inr ⟨rfl, less_tri x y (h.2.resolve_left (fun h => h rfl)) (fun e => hn (by rw [e]))⟩
  ·left
   rw [UInt8.lt_iff_toNat_lt] at *
   have : a.toNat ≠ b.toNat := fun h => e (UInt8.toNat_inj.1 h)
   omega
theorem less_trans : ∀ x y z : List UInt8, Op.bytesLess x y = true → Op.bytesLess y z = true → Op.bytesLess x z = true
 | _, m, [], _, h => by cases m <;> simp [Op.bytesLess] at h
 | l, [], _ :: _, h, _ => by cases l <;> simp [Op.bytesLess] at h
 | [], _ :: _, _ :: _, _, _ => rfl
 | a :: x, b :: y, c :: z, h1, h2 => by
  simp only [Op.bytesLess, Bool.or_eq_true, decide_eq_true_eq, Bool.and_eq_true, beq_iff_eq, UInt8.lt_iff_toNat_lt] at *
  rcases h1 with h1 | ⟨rfl, h1⟩
  ·rcases h2 with h2 | ⟨rfl, h2⟩
   ·exact .inl (by omega)
   ·exact .inl h1
  ·rcases h2 with h2 | ⟨rfl, h2⟩
   ·exact .inl h2
   ·exact .inr ⟨rfl, less_trans x y z h1 h2⟩
theorem toList_inj {a b : ByteArray} (h : a.toList = b.toList) : a = b := by
 rw [Lib.toList_data, Lib.toList_data] at h
 cases a with | mk a => cases b with | mk b => cases a with | mk a => cases b with | mk b => simp at h; rw [h]
theorem cmpS_vals (a b : ByteArray) : cmpS a b = -1 ∨ cmpS a b = 0 ∨ cmpS a b = 1 := by unfold cmpS; (repeat' split) <;> simp
theorem cmpS_zero (a b : ByteArray) : cmpS a b = 0 ↔ a = b := by
 unfold cmpS
 constructor
 ·intro h
  split at h
  ·omega
  ·split at h
   ·exact toList_inj (by simpa using ‹(a.toList == b.toList) = true›)
   ·omega
 ·rintro rfl
  rw [if_neg (by rw [less_irrefl]; simp), if_pos (by simp)]
theorem cmpS_swap (a b : ByteArray) : cmpS b a = - cmpS a b := by
 by_cases e : a = b
 ·subst e; rw [(cmpS_zero a a).2 rfl]; rfl
 ·have he : a.toList ≠ b.toList := fun h => e (toList_inj h)
  unfold cmpS
  by_cases h1 : Op.bytesLess a.toList b.toList = true
  ·have h2 : ¬ Op.bytesLess b.toList a.toList = true := fun h => by have := less_trans _ _ _ h1 h; rw [less_irrefl] at this; cases this
   rw [if_neg h2, if_neg (by simpa using fun h => he h.symm), if_pos h1]
   rfl
  ·have h2 := less_tri _ _ (by simpa using h1) he
   rw [if_pos h2, if_neg h1, if_neg (by simpa using he)]
theorem cmpS_neg (a b : ByteArray) : cmpS a b < 0 ↔ Op.bytesLess a.toList b.toList = true := by
 unfold cmpS
 constructor
 ·intro h
  split at h
  ·assumption
  ·split at h <;> omega
 ·intro h
  rw [if_pos h]
  omega
theorem cmpS_trans {a b c : ByteArray} (h1 : cmpS a b < 0) (h2 : cmpS b c < 0) : cmpS a c < 0 := by rw [cmpS_neg] at *; exact less_trans _ _ _ h1 h2
theorem cmpL_vals : ∀ l m, cmpL l m = -1 ∨ cmpL l m = 0 ∨ cmpL l m = 1
 | [], [] => by simp [cmpL]
 | [], _ :: _ => by simp [cmpL]
 | _ :: _, [] => by simp [cmpL]
 | a :: l, b :: m => by
  rw [cmpL]
  split
  ·exact cmpL_vals l m
  ·exact cmpS_vals a b
theorem cmpL_zero : ∀ l m, cmpL l m = 0 ↔ l = m
 | [], [] => by simp [cmpL]
 | [], _ :: _ => by simp [cmpL]
 | _ :: _, [] => by simp [cmpL]
 | a :: l, b :: m => by
  rw [cmpL]
  by_cases h : cmpS a b = 0
  ·rw [if_pos h, cmpL_zero l m, (cmpS_zero a b).1 h]
   simp
  ·rw [if_neg h]
   constructor
   ·exact fun h' => absurd h' h
   ·intro h'
    injection h' with h' _
    exact absurd ((cmpS_zero a b).2 h') h
theorem cmpL_swap : ∀ l m, cmpL m l = - cmpL l m
 | [], [] => by simp [cmpL]
 | [], _ :: _ => by simp [cmpL]
 | _ :: _, [] => by simp [cmpL]
 | a :: l, b :: m => by
  rw [cmpL, cmpL, cmpS_swap a b]
  by_cases h : cmpS a b = 0
  ·rw [if_pos h, if_pos (by omega), cmpL_swap l m]
  ·rw [if_neg h, if_neg (by omega)]
theorem cmpL_trans : ∀ l m n, cmpL l m < 0 → cmpL m n < 0 → cmpL l n < 0
 | _, m, [], _, h => by cases m <;> simp [cmpL] at h
 | l, [], _ :: _, h, _ => by cases l <;> simp [cmpL] at h
 | [], _ :: _, _ :: _, _, _ => by simp [cmpL]
 | a :: l, b :: m, c :: n, h1, h2 => by
  rw [cmpL] at *
  by_cases e1 : cmpS a b = 0
  ·rw [if_pos e1] at h1
   have := (cmpS_zero a b).1 e1
   subst this
   by_cases e2 : cmpS a c = 0
   ·rw [if_pos e2] at h2 ⊢
    exact cmpL_trans l m n h1 h2
   ·rw [if_neg e2] at h2 ⊢
    exact h2
  ·rw [if_neg e1] at h1
   by_cases e2 : cmpS b c = 0
   ·have := (cmpS_zero b c).1 e2
    subst this
    rw [if_neg e1]
    exact h1
   ·rw [if_neg e2] at h2
    have := cmpS_trans h1 h2
    rw [if_neg (by omega)]
    exact this
theorem orI_neg (a b : Int) : orI a b < 0 ↔ a < 0 ∨ a = 0 ∧ b < 0 := by unfold orI; split <;> omega
theorem orI_zero (a b : Int) : orI a b = 0 ↔ a = 0 ∧ b = 0 := by unfold orI; split <;> omega
theorem cmpRow_vals (a b : S39) : cmpRow a b = -1 ∨ cmpRow a b = 0 ∨ cmpRow a b = 1 := by
 unfold cmpRow orI
 split
 ·exact cmpL_vals _ _
 ·exact cmpI_vals _ _
theorem cmpRow_zero (a b : S39) : cmpRow a b = 0 ↔ a.f0 = b.f0 ∧ a.f1 = b.f1 := by unfold cmpRow; rw [orI_zero, cmpI_zero, cmpL_zero]
theorem cmpRow_swap (a b : S39) : cmpRow b a = - cmpRow a b := by
 unfold cmpRow orI
 rw [cmpI_swap a.f0 b.f0, cmpL_swap a.f1 b.f1]
 by_cases h : cmpI a.f0 b.f0 = 0
 ·rw [if_pos h, if_pos (by omega)]
 ·rw [if_neg h, if_neg (by omega)]
theorem cmpRow_trans {a b c : S39} (h1 : cmpRow a b < 0) (h2 : cmpRow b c < 0) : cmpRow a c < 0 := by
 unfold cmpRow at *
 rw [orI_neg] at h1 h2 ⊢
 rcases h1 with h1 | ⟨e1, h1⟩
 ·rcases h2 with h2 | ⟨e2, h2⟩
  ·exact .inl (cmpI_trans h1 h2)
  ·rw [cmpI_zero] at e2
   rw [← e2]
   exact .inl h1
 ·rw [cmpI_zero] at e1
  rw [e1]
  rcases h2 with h2 | ⟨e2, h2⟩
  ·exact .inl h2
  ·exact .inr ⟨e2, cmpL_trans _ _ _ h1 h2⟩
theorem cmpRow_key {a b c : S39} (h : cmpRow a b = 0) : cmpRow a c = cmpRow b c ∧ cmpRow c a = cmpRow c b := by
 rw [cmpRow_zero] at h
 unfold cmpRow
 rw [h.1, h.2]
 exact ⟨rfl, rfl⟩
theorem cmpRow_self (a : S39) : cmpRow a a = 0 := (cmpRow_zero a a).2 ⟨rfl, rfl⟩
end Go.Proofs.Ytdeeffahfkndkaa.P
namespace Go.Proofs.Ytdeeffahfkndkaa.P
open Go.RowKit Go.Proofs.YtdeeffahfkndkaaW.PrintWords Go.Proofs.YtdeeffahfkndkaaW.PrintLast Go.Proofs.YtdeeffahfkndkaaW.PrintMore
set_option linter.unusedVariables false
set_option linter.unusedSimpArgs false
def fitB (n : Int) : Bool := decide (-4611686018427387904 ≤ n) && decide (n ≤ 4611686018427387904)
def rightA (a : S71) : Bool := fitB a.f0 && fitB a.f1 && fitB a.f2 && decide (a.f1 ≤ a.f2)
def joinA (a b : S71) : Option S71 := if (rightA a && rightA b && fitB (a.f0 + b.f0)) = true then some ⟨a.f0 + b.f0, mn a.f1 b.f1, mx a.f2 b.f2⟩ else none
def joinAs : List S71 → List S71 → Option (List S71)
 | a :: l, b :: m => (joinA a b).bind fun x => (joinAs l m).bind fun y => some (x :: y)
 | _, _ => some []
def joinE (a b : S39) : S39 × Int :=
 if cmpRow a b = 0 ∧ a.f3.length = b.f3.length then
  if wrap64 (a.f2 + b.f2) > 1048576 then (z39, 121)
  else match joinAs a.f3 b.f3 with
   | some l => (⟨a.f0, a.f1, wrap64 (a.f2 + b.f2), l⟩, 0)
   | none => (z39, 121)
 else (z39, 131)
theorem fits_loop (L : List Int) (hL : L.length < 1000) : ∀ n i : Nat, i + n = L.length → Ev (fun k => agg_fits.l0 k L (L.length : Int) (i : Int)) ((L.drop i).all fitB)
 | 0, i, h => by
  refine Ev.step (f := fun _ => some true) (fun k => ?_) ?_
  ·rw [agg_fits.l0, if_neg (by omega)]
  ·rw [List.drop_eq_nil_of_le (by omega)]; exact Ev.now _
 | n + 1, i, h => by
  have hi : i < L.length := by omega
  have e : L.drop i = L[i] :: L.drop (i + 1) := List.drop_eq_getElem_cons hi
  have er : rd L (i : Int) = L[i] := by simp [rd, List.getElem?_eq_getElem hi]
  have ew : wrap64 ((i : Int) + 1) = ((i + 1 : Nat) : Int) := wrap_nat (by omega)
  rw [e, List.all_cons]
  by_cases h1 : L[i] < -4611686018427387904
  ·refine Ev.step (f := fun _ => some false) (fun k => ?_) ?_
   ·rw [agg_fits.l0, if_pos (by omega), if_pos (by omega), if_pos (by omega), er, if_pos h1]
   ·rw [show fitB L[i] = false by unfold fitB; rw [decide_eq_false (by omega), Bool.false_and], Bool.false_and]; exact Ev.now _
  ·by_cases h2 : L[i] > 4611686018427387904
   ·refine Ev.step (f := fun _ => some false) (fun k => ?_) ?_
    ·rw [agg_fits.l0, if_pos (by omega), if_pos (by omega), if_pos (by omega), er, if_neg h1, if_pos h2]
    ·rw [show fitB L[i] = false by unfold fitB; rw [decide_eq_false (by omega : ¬ L[i] ≤ _), Bool.and_false], Bool.false_and]; exact Ev.now _
   ·refine Ev.step (f := fun k => agg_fits.l0 k L (L.length : Int) ((i + 1 : Nat) : Int)) (fun k => ?_) ?_
    ·rw [agg_fits.l0, if_pos (by omega), if_pos (by omega), if_pos (by omega), er, if_neg h1, if_neg h2, ew]
    ·rw [show fitB L[i] = true by unfold fitB; rw [decide_eq_true (by omega : _ ≤ L[i]), decide_eq_true (by omega : L[i] ≤ _), Bool.true_and], Bool.true_and]
     exact fits_loop L hL n (i + 1) (by omega)
theorem right_ev (a : S71) : Ev (fun k => agg_Right.f k a.f0 a.f1 a.f2) (rightA a) := by
 have h : Ev (fun k => agg_fits.f k [a.f0, a.f1, a.f2]) ([a.f0, a.f1, a.f2].all fitB) := fits_loop [a.f0, a.f1, a.f2] (by simp) 3 0 rfl
 unfold agg_Right.f
 refine Ev.bind h ?_
 unfold rightA
 simp only [List.all_cons, List.all_nil, Bool.and_true]
 rw [← Bool.and_assoc]
 cases hb : (fitB a.f0 && fitB a.f1 && fitB a.f2) with
 | true => exact Ev.now _
 | false => exact Ev.now _
def joinA4 (a b : S71) : Int × Int × Int × Int := match joinA a b with
 | some x => (x.f0, x.f1, x.f2, 0)
 | none => (0, 0, 0, if (rightA a && rightA b) = true then 121 else 1)
theorem right_fit {a : S71} (h : rightA a = true) : -4611686018427387904 ≤ a.f0 ∧ a.f0 ≤ 4611686018427387904 := by
 simp only [rightA, fitB, Bool.and_eq_true, decide_eq_true_eq] at h
 omega
theorem joinA_ev (a b : S71) : Ev (fun k => agg_Join.f k a.f0 a.f1 a.f2 b.f0 b.f1 b.f2) (joinA4 a b) := by
 unfold agg_Join.f
 refine Ev.bind (right_ev a) ?_
 cases ha : rightA a with
 | false =>
  refine Ev.step (f := fun _ => some (joinA4 a b)) (fun k => ?_) (Ev.now _)
  rw [if_neg (by decide), agg_Join.j0, if_pos rfl]
  unfold joinA4 joinA
  rw [ha, Bool.false_and, Bool.false_and, if_neg (by decide)]
  rfl
 | true =>
  refine Ev.congr (f := fun k => (agg_Right.f k b.f0 b.f1 b.f2).bind fun t => agg_Join.j0 k (!t) a.f0 a.f1 a.f2 b.f0 b.f1 b.f2) (fun k => by rw [if_pos rfl]) ?_
  refine Ev.bind (right_ev b) ?_
  cases hb : rightA b with
  | false =>
   refine Ev.step (f := fun _ => some (joinA4 a b)) (fun k => ?_) (Ev.now _)
   rw [Bool.not_false, agg_Join.j0, if_pos rfl]
   unfold joinA4 joinA
   rw [ha, hb, Bool.true_and, Bool.false_and, if_neg (by decide)]
   rfl
  | true =>
   have h1 := right_fit ha
   have h2 := right_fit hb
   refine Ev.step (f := fun _ => some (joinA4 a b)) (fun k => ?_) (Ev.now _)
   rw [Bool.not_true, agg_Join.j0, if_neg (by decide)]
   unfold joinA4 joinA
   rw [ha, hb, Bool.true_and, Bool.true_and]
   have w2 : wrap64 (-4611686018427387904 - a.f0) = -4611686018427387904 - a.f0 := IntWalk.wrap64_in _ ⟨by omega, by omega⟩
   have good : fitB (a.f0 + b.f0) = true → some (wrap64 (a.f0 + b.f0), mn a.f1 b.f1, mx a.f2 b.f2, (0 : Int)) = some (match (if fitB (a.f0 + b.f0) = true then some (⟨a.f0 + b.f0, mn a.f1 b.f1, mx a.f2 b.f2⟩ : S71) else none) with | some x => (x.f0, x.f1, x.f2, 0) | none => (0, 0, 0, if true = true then 121 else 1)) := fun h => by
    rw [if_pos h]
    simp only [fitB, Bool.and_eq_true, decide_eq_true_eq] at h
    rw [IntWalk.wrap64_in _ ⟨by omega, by omega⟩]
   have bad : ¬ fitB (a.f0 + b.f0) = true → some (0, 0, 0, (121 : Int)) = some (match (if fitB (a.f0 + b.f0) = true then some (⟨a.f0 + b.f0, mn a.f1 b.f1, mx a.f2 b.f2⟩ : S71) else none) with | some x => (x.f0, x.f1, x.f2, 0) | none => (0, 0, 0, if true = true then 121 else 1)) := fun h => by
    rw [if_neg h]; rfl
   have fit : fitB (a.f0 + b.f0) = true ↔ -4611686018427387904 ≤ a.f0 + b.f0 ∧ a.f0 + b.f0 ≤ 4611686018427387904 := by simp only [fitB, Bool.and_eq_true, decide_eq_true_eq]
   by_cases q1 : a.f0 > 0
   ·have w1 : wrap64 (4611686018427387904 - a.f0) = 4611686018427387904 - a.f0 := IntWalk.wrap64_in _ ⟨by omega, by omega⟩
    rw [if_pos q1, w1]
    by_cases q2 : b.f0 > 4611686018427387904 - a.f0
    ·rw [if_pos q2]; exact bad (fun h => by rw [fit] at h; omega)
    ·rw [if_neg q2, if_neg (by omega)]; exact good (by rw [fit]; omega)
   ·rw [if_neg q1]
    by_cases q2 : a.f0 < 0
    ·rw [if_pos q2, w2]
     by_cases q3 : b.f0 < -4611686018427387904 - a.f0
     ·rw [if_pos q3]; exact bad (fun h => by rw [fit] at h; omega)
     ·rw [if_neg q3]; exact good (by rw [fit]; omega)
    ·rw [if_neg q2]; exact good (by rw [fit]; omega)
theorem joinAs_length : ∀ {l m x : List S71}, l.length = m.length → joinAs l m = some x → x.length = l.length
 | [], [], x, _, h => by simp [joinAs] at h; subst h; rfl
 | a :: l, b :: m, x, hl, h => by
  simp only [joinAs, Option.bind_eq_some_iff] at h
  obtain ⟨y, _, z, hz, e⟩ := h
  simp only [Option.some.injEq] at e
  subst e
  rw [List.length_cons, joinAs_length (by simpa using hl) hz, List.length_cons]
 | [], b :: m, x, hl, h => by simp at hl
 | a :: l, [], x, hl, h => by simp at hl
theorem join_loop (xs ys : List S71) (b0 : Int) (b1 : List ByteArray) (b2 r0 : Int) (r1 : List ByteArray) (r2 : Int) (hl : xs.length = ys.length) (hb : xs.length < 5864062014805) : ∀ n i : Nat, i + n = xs.length → ∀ acc : List S71, acc.length = i →
  Ev (fun k => rows_Join.l0 k xs (xs.length : Int) (i : Int) b0 b1 b2 ys r0 r1 r2 acc) (match joinAs (xs.drop i) (ys.drop i) with | some l => (r0, r1, r2, acc ++ l, 0) | none => (0, [], 0, [], 121))
 | 0, i, h, acc, ha => by
  refine Ev.step (f := fun _ => some (r0, r1, r2, acc, 0)) (fun k => ?_) ?_
  ·rw [rows_Join.l0, if_neg (by omega)]
  ·rw [List.drop_eq_nil_of_le (by omega), joinAs]
   ·show Ev (fun _ => some (r0, r1, r2, acc, 0)) (r0, r1, r2, acc ++ [], 0)
    rw [List.append_nil]; exact Ev.now _
   ·intro a l b m h1 h2; cases h1
 | n + 1, i, h, acc, ha => by
  have hi : i < xs.length := by omega
  have hi2 : i < ys.length := by omega
  have e1 : xs.drop i = xs[i] :: xs.drop (i + 1) := List.drop_eq_getElem_cons hi
  have e2 : ys.drop i = ys[i] :: ys.drop (i + 1) := List.drop_eq_getElem_cons hi2
  have er1 : rd_T71 xs (i : Int) = xs[i] := by simp [rd_T71, List.getElem?_eq_getElem hi]
  have er2 : rd_T71 ys (i : Int) = ys[i] := by simp [rd_T71, List.getElem?_eq_getElem hi2]
  have ew : wrap64 ((i : Int) + 1) = ((i + 1 : Nat) : Int) := wrap_nat (by omega)
  rw [e1, e2, joinAs]
  refine Ev.step (f := fun k => (agg_Join.f k xs[i].f0 xs[i].f1 xs[i].f2 ys[i].f0 ys[i].f1 ys[i].f2).bind fun bt => (if bt.2.2.2 = 0 then (if acc.length < 5864062014805 then (rows_Join.l0 k xs (xs.length : Int) ((i + 1 : Nat) : Int) b0 b1 b2 ys r0 r1 r2 (acc ++ [(⟨bt.1, bt.2.1, bt.2.2.1⟩ : S71)])) else none) else (some (0, ([] : List ByteArray), 0, ([] : List (S71)), 121)))) (fun k => ?_) ?_
  ·rw [rows_Join.l0, if_pos (by omega), if_pos (by omega), if_pos (by omega), if_pos (by omega), er1, er2, ew]
  ·refine Ev.bind (joinA_ev xs[i] ys[i]) ?_
   unfold joinA4
   cases hj : joinA xs[i] ys[i] with
   | none =>
    simp only [Option.bind_none]
    refine Ev.congr (f := fun _ => some (0, [], 0, [], 121)) (fun k => if_neg ?_) (Ev.now _)
    split <;> decide
   | some x =>
    simp only [Option.bind_some]
    have ih := join_loop xs ys b0 b1 b2 r0 r1 r2 hl hb n (i + 1) (by omega) (acc ++ [x]) (by simp [ha])
    refine Ev.congr (f := fun k => rows_Join.l0 k xs (xs.length : Int) ((i + 1 : Nat) : Int) b0 b1 b2 ys r0 r1 r2 (acc ++ [x])) (fun k => ?_) ?_
    ·rw [if_pos (by trivial), if_pos (by omega)]
    ·cases hr : joinAs (xs.drop (i + 1)) (ys.drop (i + 1)) with
     | none => rw [hr] at ih; simpa using ih
     | some l => rw [hr] at ih; simpa using ih
def five (r : S39 × Int) : Int × List ByteArray × Int × List S71 × Int := (r.1.f0, r.1.f1, r.1.f2, r.1.f3, r.2)
theorem join_ev (a b : S39) (h1 : a.f1.length < 8796093022208) (h3 : a.f3.length < 5864062014805) : Ev (fun k => rows_Join.f k a.f0 a.f1 a.f2 a.f3 b.f0 b.f1 b.f2 b.f3) (five (joinE a b)) := by
 unfold rows_Join.f
 refine Ev.bind (cmpRow_ev a b (by omega)) ?_
 unfold joinE
 by_cases hc : cmpRow a b = 0
 ·refine Ev.congr (f := fun k => rows_Join.j0 k ((a.f3.length : Int) != (b.f3.length : Int)) a.f0 a.f1 a.f2 a.f3 b.f0 b.f1 b.f2 b.f3) (fun k => if_pos hc) ?_
  by_cases hl : a.f3.length = b.f3.length
  ·rw [if_pos ⟨hc, hl⟩]
   have e : ((a.f3.length : Int) != (b.f3.length : Int)) = false := by rw [hl]; simp
   rw [e]
   by_cases hs : wrap64 (a.f2 + b.f2) > 1048576
   ·rw [if_pos hs]
    refine Ev.step (f := fun _ => some (0, [], 0, [], 121)) (fun k => ?_) (Ev.now _)
    rw [rows_Join.j0, if_neg (by decide), if_pos hs]
   ·rw [if_neg hs]
    refine Ev.step (f := fun k => rows_Join.l0 k a.f3 (a.f3.length : Int) 0 b.f0 b.f1 b.f2 b.f3 a.f0 a.f1 (wrap64 (a.f2 + b.f2)) []) (fun k => ?_) ?_
    ·rw [rows_Join.j0, if_neg (by decide), if_neg hs, slices_Clone_string_string.f, if_pos h1, Option.bind_some]
    ·have := join_loop a.f3 b.f3 b.f0 b.f1 b.f2 a.f0 a.f1 (wrap64 (a.f2 + b.f2)) hl h3 a.f3.length 0 (by omega) [] rfl
     rw [List.drop_zero, List.drop_zero] at this
     cases hr : joinAs a.f3 b.f3 with
     | none => rw [hr] at this; exact this
     | some l => rw [hr] at this; exact this
  ·rw [if_neg (fun h => hl h.2)]
   have e : ((a.f3.length : Int) != (b.f3.length : Int)) = true := by simp; omega
   rw [e]
   refine Ev.step (f := fun _ => some (0, [], 0, [], 131)) (fun k => ?_) (Ev.now _)
   rw [rows_Join.j0, if_pos rfl]
 ·refine Ev.congr (f := fun k => rows_Join.j0 k true a.f0 a.f1 a.f2 a.f3 b.f0 b.f1 b.f2 b.f3) (fun k => if_neg hc) ?_
  rw [if_neg (fun h => hc h.1)]
  refine Ev.step (f := fun _ => some (0, [], 0, [], 131)) (fun k => ?_) (Ev.now _)
  rw [rows_Join.j0, if_pos rfl]
end Go.Proofs.Ytdeeffahfkndkaa.P
