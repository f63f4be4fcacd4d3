/- A part of the proof: lemmas and contracts of functions (printed or written by the session's program, and by hand), in dependency order. -/
import Derived.Test.YtdeeffahfkndkaaQOrder4
import Derived.Test.YtdeeffahfkndkaaQOrder12
import Derived.Test.YtdeeffahfkndkaaQOrder13
namespace Go.Proofs.Ytdeeffahfkndkaa.P
open Go.RowKit Go.Proofs.YtdeeffahfkndkaaW.PrintWords Go.Proofs.YtdeeffahfkndkaaW.PrintLast Go.Proofs.YtdeeffahfkndkaaW.PrintMore
set_option linter.unusedVariables false
set_option linter.unusedSimpArgs false
def Fin (g : Nat → Option Bool) (φ : Prop) : Prop := ∃ b, Ev g b ∧ (b = true → φ)
theorem Fin.yes {φ : Prop} (h : φ) : Fin (fun _ => some true) φ := ⟨true, Ev.now _, fun _ => h⟩
theorem Fin.no {φ : Prop} : Fin (fun _ => some false) φ := ⟨false, Ev.now _, fun h => by cases h⟩
theorem Fin.when {φ c : Prop} [Decidable c] (h : c → φ) : Fin (fun _ => some (decide c)) φ := ⟨decide c, Ev.now _, fun h1 => h (of_decide_eq_true h1)⟩
theorem Fin.any (b : Bool) : Fin (fun _ => some b) True := ⟨b, Ev.now _, fun _ => trivial⟩
theorem Fin.step {φ : Prop} {g f : Nat → Option Bool} (h : ∀ k, g (k + 1) = f k) (k : Fin f φ) : Fin g φ := let ⟨b, h1, h2⟩ := k; ⟨b, Ev.step h h1, h2⟩
theorem Fin.congr {φ : Prop} {g f : Nat → Option Bool} (h : ∀ k, g k = f k) (k : Fin f φ) : Fin g φ := let ⟨b, h1, h2⟩ := k; ⟨b, Ev.congr h h1, h2⟩
theorem Fin.imp {φ ψ : Prop} {g : Nat → Option Bool} (h : Fin g φ) (hi : φ → ψ) : Fin g ψ := let ⟨b, h1, h2⟩ := h; ⟨b, h1, fun h => hi (h2 h)⟩
theorem Fin.ite {φ c : Prop} [Decidable c] {f g : Nat → Option Bool} (hf : c → Fin f φ) (hg : ¬ c → Fin g φ) : Fin (fun k => if c then f k else g k) φ := by
 by_cases h : c
 ·exact Fin.congr (fun k => if_pos h) (hf h)
 ·exact Fin.congr (fun k => if_neg h) (hg h)
theorem Fin.pos {φ c : Prop} [Decidable c] {f g : Nat → Option Bool} (h : c) (hf : Fin f φ) : Fin (fun k => if c then f k else g k) φ := Fin.congr (fun k => if_pos h) hf
theorem Fin.neg {φ c : Prop} [Decidable c] {f g : Nat → Option Bool} (h : ¬ c) (hf : Fin g φ) : Fin (fun k => if c then f k else g k) φ := Fin.congr (fun k => if_neg h) hf
theorem Fin.bind {φ ψ : Prop} {g : Nat → Option Bool} {f : Nat → Bool → Option Bool} (h : Fin g ψ) (ht : ψ → Fin (fun k => f k true) φ) (hf : Fin (fun k => f k false) φ) : Fin (fun k => (g k).bind (f k)) φ := by
 obtain ⟨b, h1, h2⟩ := h
 cases b with
 | true => obtain ⟨c, h3, h4⟩ := ht (h2 rfl); exact ⟨c, Ev.bind h1 h3, h4⟩
 | false => obtain ⟨c, h3, h4⟩ := hf; exact ⟨c, Ev.bind h1 h3, h4⟩
theorem value_fin (s : ByteArray) (hs : GStr s) : ∀ n i : Nat, i + n = s.size → Fin (fun k => columbaryref10_Value.l0 k s (i : Int)) True
 | 0, i, h => by
  refine Fin.step (f := fun _ => some (decide ((s.size : Int) ≤ 24))) (fun k => ?_) (Fin.any _)
  rw [columbaryref10_Value.l0, if_neg (by omega)]
 | n + 1, i, h => by
  have hm : s.size ≤ 9223372036854775807 := hs
  have ew : wrap64 ((i : Int) + 1) = ((i + 1 : Nat) : Int) := wrap_nat (by omega)
  have ih := value_fin s hs n (i + 1) (by omega)
  refine Fin.step (fun k => by rw [columbaryref10_Value.l0, if_pos (by omega), if_pos (by omega), ew]) ?_
  exact Fin.ite (fun _ => Fin.no) (fun _ => Fin.ite (fun _ => Fin.no) (fun _ => Fin.ite (fun _ => Fin.no) (fun _ => Fin.ite (fun _ => Fin.no) (fun _ => ih))))
theorem name_fin1 (s : ByteArray) (hs : GStr s) : ∀ n i : Nat, i + n = s.size → Fin (fun k => columbaryref10_Name.l1 k s (i : Int)) True
 | 0, i, h => by
  refine Fin.step (fun k => by rw [columbaryref10_Name.l1, if_neg (by omega)]) ?_
  exact Fin.ite (fun _ => Fin.any _) (fun _ => Fin.no)
 | n + 1, i, h => by
  have hm : s.size ≤ 9223372036854775807 := hs
  have ew : wrap64 ((i : Int) + 1) = ((i + 1 : Nat) : Int) := wrap_nat (by omega)
  have ih := name_fin1 s hs n (i + 1) (by omega)
  refine Fin.step (fun k => by rw [columbaryref10_Name.l1, if_pos (by omega), if_pos (by omega), ew]) ?_
  repeat' (first | exact ih | exact Fin.no | refine Fin.ite (fun _ => ?_) (fun _ => ?_))
theorem name_fin0 (s : ByteArray) (hs : GStr s) (l : List ByteArray) (hl : l.length < 1000) : ∀ n i : Nat, i + n = l.length → Fin (fun k => columbaryref10_Name.l0 k s l (i : Int)) True
 | 0, i, h => Fin.step (fun k => by rw [columbaryref10_Name.l0, if_neg (by omega)]; rfl) (name_fin1 s hs s.size 0 (by omega))
 | n + 1, i, h => by
  have ew : wrap64 ((i : Int) + 1) = ((i + 1 : Nat) : Int) := wrap_nat (by omega)
  refine Fin.step (fun k => by rw [columbaryref10_Name.l0, if_pos (by omega), if_pos (by omega), ew]) ?_
  exact Fin.ite (fun _ => Fin.no) (fun _ => name_fin0 s hs l hl n (i + 1) (by omega))
theorem name_fin (s : ByteArray) (hs : GStr s) : Fin (fun k => columbaryref10_Name.f k s) True := by
 unfold columbaryref10_Name.f columbaryref10_words.f
 exact name_fin0 s hs _ (by decide) 20 0 rfl
theorem rdOf_nat (l : List ByteArray) (i : Nat) (h : i < l.length) : rdOf ByteArray.empty l (i : Int) = l[i] := by simp [rdOf, List.getD_eq_getElem?_getD, List.getElem?_eq_getElem h]
theorem right10_in (x : List ByteArray) (hl : x.length ≤ 40) (a b : List ByteArray) (i : Nat) (hi : i < x.length) (h : Fin (fun k => columbaryref10_Right.l0 k x ((i + 1 : Nat) : Int) a b) (a.length ≤ 6 ∧ b.length ≤ 4)) : ∀ m j : Nat, j + m = i → Fin (fun k => columbaryref10_Right.l1 k x (i : Int) (j : Int) a b) (a.length ≤ 6 ∧ b.length ≤ 4)
 | 0, j, e => by
  have ew : wrap64 ((i : Int) + 1) = ((i + 1 : Nat) : Int) := wrap_nat (by omega)
  exact Fin.step (fun k => by rw [columbaryref10_Right.l1, if_neg (by omega), ew]) h
 | m + 1, j, e => by
  have ew : wrap64 ((j : Int) + 1) = ((j + 1 : Nat) : Int) := wrap_nat (by omega)
  refine Fin.step (fun k => by rw [columbaryref10_Right.l1, if_pos (by omega), if_pos (by omega), if_pos (by omega), if_pos (by omega), if_pos (by omega), ew]) ?_
  exact Fin.ite (fun _ => Fin.no) (fun _ => right10_in x hl a b i hi h m (j + 1) (by omega))
theorem right10_out (x : List ByteArray) (hx : ∀ s ∈ x, GStr s) (hl : x.length ≤ 40) (a b : List ByteArray) : ∀ n i : Nat, i + n = x.length → Fin (fun k => columbaryref10_Right.l0 k x (i : Int) a b) (a.length ≤ 6 ∧ b.length ≤ 4)
 | 0, i, h => by
  refine Fin.step (fun k => by rw [columbaryref10_Right.l0, if_neg (by omega)]) ?_
  exact Fin.ite (fun _ => Fin.ite (fun h1 => Fin.when (fun h2 => ⟨by omega, by omega⟩)) (fun _ => Fin.no)) (fun _ => Fin.no)
 | n + 1, i, h => by
  have hi : i < x.length := by omega
  refine Fin.step (fun k => by rw [columbaryref10_Right.l0, if_pos (by omega), if_pos (by omega), rdOf_nat x i hi]) ?_
  exact Fin.bind (name_fin _ (hx _ (List.getElem_mem hi))) (fun _ => Fin.pos rfl (right10_in x hl a b i hi (right10_out x hx hl a b n (i + 1) (by omega)) i 0 (by omega))) (Fin.neg (by decide) Fin.no)
theorem right10_fin (a b : List ByteArray) (ha : ∀ s ∈ a, GStr s) (hb : ∀ s ∈ b, GStr s) (hla : a.length ≤ 20) (hlb : b.length ≤ 20) : Fin (fun k => columbaryref10_Right.f k a b) (a.length ≤ 6 ∧ b.length ≤ 4) := by
 refine Fin.congr (f := fun k => columbaryref10_Right.l0 k (a ++ b) 0 a b) (fun k => ?_) (right10_out (a ++ b) (fun s hs => (List.mem_append.1 hs).elim (ha s) (hb s)) (by rw [List.length_append]; omega) a b (a ++ b).length 0 (by omega))
 unfold columbaryref10_Right.f
 show (if ([] : List ByteArray).length + a.length < 8796093022208 then _ else none) = _
 rw [if_pos (by simp; omega)]
 show (if ([] ++ a).length + b.length < 8796093022208 then _ else none) = _
 rw [if_pos (by simp; omega)]
 rfl
theorem fits10_out (l : List ByteArray) : ∀ n i : Nat, i + n = l.length → i ≤ 20 → Fin (fun k => columbarylaw10_Fits.l0 k l (i : Int)) (l.length ≤ 20)
 | 0, i, h, h20 => Fin.step (fun k => by rw [columbarylaw10_Fits.l0, if_neg (by omega)]) (Fin.yes (by omega))
 | n + 1, i, h, h20 => by
  have ew : wrap64 ((i : Int) + 1) = ((i + 1 : Nat) : Int) := wrap_nat (by omega)
  refine Fin.step (fun k => by rw [columbarylaw10_Fits.l0, if_pos (by omega), ew]) ?_
  exact Fin.ite (fun _ => Fin.no) (fun h1 => Fin.pos (by omega) (Fin.ite (fun _ => Fin.no) (fun _ => fits10_out l n (i + 1) (by omega) (by omega))))
theorem fits10_fin (l : List ByteArray) : Fin (fun k => columbarylaw10_Fits.f k l) (l.length ≤ 20) := fits10_out l l.length 0 (by omega) (by omega)
theorem right12_f (a : S71) : columbaryref12_Right.f a.f0 a.f1 a.f2 = some (rightA a) := by
 have e : ∀ n : Int, columbaryref12_fits.f n = some (fitB n) := fun n => by
  unfold columbaryref12_fits.f fitB
  by_cases h : n ≥ -4611686018427387904
  ·rw [if_pos h, decide_eq_true (show -4611686018427387904 ≤ n from h), Bool.true_and]
  ·rw [if_neg h, decide_eq_false (show ¬ -4611686018427387904 ≤ n from h), Bool.false_and]
 unfold columbaryref12_Right.f rightA
 rw [e, e, e]
 simp only [Option.bind_some]
 cases fitB a.f0 <;> cases fitB a.f1 <;> cases fitB a.f2 <;> simp
structure RowGood (nd na : Nat) (r : Row) : Prop where
 dims : r.f1.length = nd
 aggs : r.f3.length = na
 right : ∀ a ∈ r.f3, rightA a = true
 time : 0 ≤ r.f0 ∧ r.f0 ≤ 1099511627776
 count : 1 ≤ r.f2 ∧ r.f2 ≤ 1048576
theorem right13_in (nd na : Nat) (t : Int) (ds : List ByteArray) (c : Int) (as_ : List S71) (h1 : ds.length = nd) (h2 : as_.length = na) (hl : as_.length ≤ 40) : ∀ n i : Nat, i + n = as_.length → (∀ (j : Nat) a, as_[j]? = some a → j < i → rightA a = true) → Fin (fun k => columbaryref13_Right.l1 k (i : Int) t ds c as_) (RowGood nd na ⟨t, ds, c, as_⟩)
 | 0, i, h, hr => by
  refine Fin.step (fun k => by rw [columbaryref13_Right.l1, if_neg (by omega)]) ?_
  refine Fin.ite (fun q1 => Fin.ite (fun q2 => Fin.ite (fun q3 => Fin.when (fun q4 => ⟨h1, h2, fun a ha => ?_, ⟨q1, q2⟩, ⟨q3, q4⟩⟩)) (fun _ => Fin.no)) (fun _ => Fin.no)) (fun _ => Fin.no)
  obtain ⟨j, hj⟩ := List.getElem?_of_mem ha
  exact hr j a hj (by have := (List.getElem?_eq_some_iff.1 hj).1; show j < i; have e : (S39.f3 ⟨t, ds, c, as_⟩).length = as_.length := rfl; omega)
 | n + 1, i, h, hr => by
  have hi : i < as_.length := by omega
  have ew : wrap64 ((i : Int) + 1) = ((i + 1 : Nat) : Int) := wrap_nat (by omega)
  have er : rd_T71 as_ (i : Int) = as_[i] := by simp [rd_T71, List.getElem?_eq_getElem hi]
  refine Fin.step (fun k => by rw [columbaryref13_Right.l1, if_pos (by omega), if_pos (by omega), er, right12_f, ew, Option.bind_some]) ?_
  refine Fin.ite (fun hg => right13_in nd na t ds c as_ h1 h2 hl n (i + 1) (by omega) (fun j a hj hlt => ?_)) (fun _ => Fin.no)
  rcases Nat.lt_or_ge j i with h3 | h3
  ·exact hr j a hj h3
  ·obtain rfl : j = i := by omega
   rw [List.getElem?_eq_getElem hi] at hj
   obtain rfl := Option.some.inj hj
   exact hg
theorem right13_out (nd na : Nat) (t : Int) (ds : List ByteArray) (c : Int) (as_ : List S71) (h1 : ds.length = nd) (h2 : as_.length = na) (hl : as_.length ≤ 40) (hld : ds.length ≤ 40) (hs : ∀ s ∈ ds, GStr s) : ∀ n i : Nat, i + n = ds.length → Fin (fun k => columbaryref13_Right.l0 k (i : Int) t ds c as_) (RowGood nd na ⟨t, ds, c, as_⟩)
 | 0, i, h => Fin.step (fun k => by rw [columbaryref13_Right.l0, if_neg (by omega)]; rfl) (right13_in nd na t ds c as_ h1 h2 hl as_.length 0 (by omega) (fun j a _ hj => by omega))
 | n + 1, i, h => by
  have hi : i < ds.length := by omega
  have ew : wrap64 ((i : Int) + 1) = ((i + 1 : Nat) : Int) := wrap_nat (by omega)
  refine Fin.step (fun k => by rw [columbaryref13_Right.l0, if_pos (by omega), if_pos (by omega), rdOf_nat ds i hi, ew]) ?_
  exact Fin.bind (value_fin _ (hs _ (List.getElem_mem hi)) _ 0 (Nat.zero_add _)) (fun _ => Fin.pos rfl (right13_out nd na t ds c as_ h1 h2 hl hld hs n (i + 1) (by omega))) (Fin.neg (by decide) Fin.no)
theorem right13_fin (a b : List ByteArray) (hla : a.length ≤ 20) (hlb : b.length ≤ 20) (r : Row) (hr : GRow r) : Fin (fun k => columbaryref13_Right.f k a b r.f0 r.f1 r.f2 r.f3) (RowGood a.length b.length r) := by
 unfold columbaryref13_Right.f
 refine Fin.ite (fun h1 => ?_) (fun _ => Fin.step (fun k => by rw [columbaryref13_Right.j0, if_pos rfl]) Fin.no)
 by_cases h2 : r.f3.length = b.length
 ·have e : ((r.f3.length : Int) != (b.length : Int)) = false := by rw [h2]; simp
  rw [e]
  refine Fin.step (fun k => by rw [columbaryref13_Right.j0, if_neg (by decide)]) ?_
  exact right13_out _ _ _ _ _ _ (by omega) h2 (by omega) (by omega) hr.2.1.2 _ 0 (Nat.zero_add _)
 ·have e : ((r.f3.length : Int) != (b.length : Int)) = true := by simp; omega
  rw [e]
  exact Fin.step (fun k => by rw [columbaryref13_Right.j0, if_pos rfl]) Fin.no
structure ListGood (a b : List ByteArray) (l : List Row) : Prop where
 nd : a.length ≤ 6
 na : b.length ≤ 4
 len : l.length ≤ 120
 rows : ∀ r ∈ l, RowGood a.length b.length r
theorem rd_T39_nat (l : List Row) (i : Nat) (h : i < l.length) : rd_T39 l (i : Int) = l[i] := by simp [rd_T39, List.getElem?_eq_getElem h]
theorem fits13_out (a b : List ByteArray) (hnd : a.length ≤ 6) (hna : b.length ≤ 4) (l : List Row) (hl : l.length ≤ 120) (hg : ∀ r ∈ l, GRow r) : ∀ n i : Nat, i + n = l.length → (∀ (j : Nat) r, l[j]? = some r → j < i → RowGood a.length b.length r) → Fin (fun k => columbarylaw13_Fits.l0 k l (i : Int) a b) (ListGood a b l)
 | 0, i, h, hr => by
  refine Fin.step (fun k => by rw [columbarylaw13_Fits.l0, if_neg (by omega)]) (Fin.yes ⟨hnd, hna, hl, fun r hm => ?_⟩)
  obtain ⟨j, hj⟩ := List.getElem?_of_mem hm
  exact hr j r hj (by have := (List.getElem?_eq_some_iff.1 hj).1; omega)
 | n + 1, i, h, hr => by
  have hi : i < l.length := by omega
  have ew : wrap64 ((i : Int) + 1) = ((i + 1 : Nat) : Int) := wrap_nat (by omega)
  refine Fin.step (fun k => by rw [columbarylaw13_Fits.l0, if_pos (by omega), if_pos (by omega), rd_T39_nat l i hi, ew]) ?_
  refine Fin.bind (right13_fin a b (by omega) (by omega) _ (hg _ (List.getElem_mem hi))) (fun hg1 => Fin.pos rfl (fits13_out a b hnd hna l hl hg n (i + 1) (by omega) (fun j r hj hlt => ?_))) (Fin.neg (by decide) Fin.no)
  rcases Nat.lt_or_ge j i with h3 | h3
  ·exact hr j r hj h3
  ·obtain rfl : j = i := by omega
   rw [List.getElem?_eq_getElem hi] at hj
   obtain rfl := Option.some.inj hj
   exact hg1
theorem fits13_fin (a b : List ByteArray) (ha : ∀ s ∈ a, GStr s) (hb : ∀ s ∈ b, GStr s) (l : List Row) (hg : ∀ r ∈ l, GRow r) : Fin (fun k => columbarylaw13_Fits.f k a b l) (ListGood a b l) := by
 have hj : Fin (fun k => columbarylaw13_Fits.j0 k l true a b) (ListGood a b l) := Fin.step (fun k => by rw [columbarylaw13_Fits.j0, if_pos rfl]) Fin.no
 unfold columbarylaw13_Fits.f
 refine Fin.bind (fits10_fin a) (fun h1 => ?_) ?_
 ·refine Fin.bind (fits10_fin b) (fun h2 => ?_) ?_
  ·refine Fin.pos rfl (Fin.pos rfl (Fin.ite (fun _ => hj) (fun h3 => ?_)))
   refine Fin.bind (right10_fin a b ha hb h1 h2) (fun h4 => ?_) hj
   refine Fin.step (fun k => by rw [Bool.not_true, columbarylaw13_Fits.j0, if_neg (by decide)]) ?_
   exact fits13_out a b h4.1 h4.2 l (by omega) hg l.length 0 (by omega) (fun j r _ hlt => by omega)
  ·exact Fin.pos rfl (Fin.neg (by decide) hj)
 ·refine Fin.bind (fits10_fin b) (fun h2 => ?_) ?_
  ·exact Fin.neg (by decide) hj
  ·exact Fin.neg (by decide) hj
structure FitsGood (a b : List ByteArray) (l : List (List Row)) : Prop where
 nd : a.length ≤ 6
 na : b.length ≤ 4
 len : l.length ≤ 8
 sum : (l.map (·.length)).sum ≤ 200
 lists : ∀ x ∈ l, ListGood a b x
theorem rd_L6_nat (l : List (List Row)) (i : Nat) (h : i < l.length) : rd_L6 l (i : Int) = l[i] := by simp [rd_L6, List.getElem?_eq_getElem h]
theorem fits15_out (a b : List ByteArray) (ha : ∀ s ∈ a, GStr s) (hb : ∀ s ∈ b, GStr s) (l : List (List Row)) (hg : ∀ x ∈ l, GList x) : ∀ n i s : Nat, i + n = l.length → i ≤ 8 → s = ((l.take i).map (·.length)).sum → s ≤ 200 → (∀ (j : Nat) x, l[j]? = some x → j < i → ListGood a b x) → Fin (fun k => columbarylaw15_fits.l0 k l (s : Int) (i : Int) a b) (FitsGood a b l)
 | 0, i, s, h, h8, hs, hs2, hr => by
  refine Fin.step (fun k => by rw [columbarylaw15_fits.l0, if_neg (by omega)]) ?_
  refine Fin.bind (fits13_fin a b ha hb [] (fun r h => by simp at h)) (fun h0 => Fin.yes ⟨h0.nd, h0.na, by omega, ?_, fun x hm => ?_⟩) Fin.no
  ·rw [List.take_of_length_le (by omega)] at hs; omega
  ·obtain ⟨j, hj⟩ := List.getElem?_of_mem hm
   exact hr j x hj (by have := (List.getElem?_eq_some_iff.1 hj).1; omega)
 | n + 1, i, s, h, h8, hs, hs2, hr => by
  have hi : i < l.length := by omega
  have ew : wrap64 ((i : Int) + 1) = ((i + 1 : Nat) : Int) := wrap_nat (by omega)
  refine Fin.step (fun k => by rw [columbarylaw15_fits.l0, if_pos (by omega), if_pos (by omega), rd_L6_nat l i hi, ew]) ?_
  refine Fin.bind (fits13_fin a b ha hb _ (hg _ (List.getElem_mem hi)).2) (fun hg1 => Fin.pos rfl (Fin.ite (fun _ => Fin.no) (fun h8' => ?_))) (Fin.neg (by decide) Fin.no)
  have hlen := hg1.len
  have es : wrap64 ((s : Int) + (l[i].length : Int)) = ((s + l[i].length : Nat) : Int) := by unfold wrap64; omega
  rw [es]
  refine Fin.ite (fun _ => Fin.no) (fun h200 => ?_)
  have hi8 : i ≠ 8 := fun e => h8' (by rw [e]; rfl)
  refine fits15_out a b ha hb l hg n (i + 1) (s + l[i].length) (by omega) (by omega) ?_ (by omega) (fun j x hj hlt => ?_)
  ·rw [show l.take (i + 1) = l.take i ++ [l[i]] by rw [List.take_append_getElem], List.map_append, List.sum_append, ← hs]; simp
  ·rcases Nat.lt_or_ge j i with h3 | h3
   ·exact hr j x hj h3
   ·obtain rfl : j = i := by omega
    rw [List.getElem?_eq_getElem hi] at hj
    obtain rfl := Option.some.inj hj
    exact hg1
theorem fits15_fin (a b : List ByteArray) (ha : ∀ s ∈ a, GStr s) (hb : ∀ s ∈ b, GStr s) (l : List (List Row)) (hg : ∀ x ∈ l, GList x) : Fin (fun k => columbarylaw15_fits.f k a b l) (FitsGood a b l) :=
 fits15_out a b ha hb l hg l.length 0 0 (by omega) (by omega) rfl (by omega) (fun j x _ hlt => by omega)
end Go.Proofs.Ytdeeffahfkndkaa.P
namespace Go.Proofs.Ytdeeffahfkndkaa.P
open Go.RowKit Go.Proofs.YtdeeffahfkndkaaW.PrintWords Go.Proofs.YtdeeffahfkndkaaW.PrintLast Go.Proofs.YtdeeffahfkndkaaW.PrintMore
set_option linter.unusedVariables false
set_option linter.unusedSimpArgs false
theorem less_out (a b : Row) (hl : a.f1.length = b.f1.length) (hb : a.f1.length < 4611686018427387904) : ∀ n i : Nat, i + n = a.f1.length → Ev (fun k => columbaryref13_Less.l0 k (i : Int) a.f0 a.f1 a.f2 a.f3 b.f0 b.f1 b.f2 b.f3) (decide (cmpL (a.f1.drop i) (b.f1.drop i) < 0))
 | 0, i, h => by
  refine Ev.step (fun k => by rw [columbaryref13_Less.l0, if_neg (by omega)]) ?_
  refine Ev.step (fun k => by rw [columbaryref13_Less.j1, if_neg (by decide)]) ?_
  rw [List.drop_eq_nil_of_le (by omega), List.drop_eq_nil_of_le (by omega)]
  exact Ev.now _
 | n + 1, i, h => by
  have hi : i < a.f1.length := by omega
  have hi2 : i < b.f1.length := by omega
  have ew : wrap64 ((i : Int) + 1) = ((i + 1 : Nat) : Int) := wrap_nat (by omega)
  have e1 : a.f1.drop i = a.f1[i] :: a.f1.drop (i + 1) := List.drop_eq_getElem_cons hi
  have e2 : b.f1.drop i = b.f1[i] :: b.f1.drop (i + 1) := List.drop_eq_getElem_cons hi2
  refine Ev.step (fun k => by rw [columbaryref13_Less.l0, if_pos (by omega)]) ?_
  refine Ev.step (fun k => by rw [columbaryref13_Less.j1, if_pos (decide_eq_true (by omega)), if_pos (by omega), if_pos (by omega), if_pos (by omega), rdOf_nat _ i hi, rdOf_nat _ i hi2, ew]) ?_
  rw [e1, e2, cmpL]
  by_cases e : a.f1[i] = b.f1[i]
  ·rw [if_pos ((cmpS_zero _ _).2 e)]
   exact Ev.congr (fun k => if_pos (by rw [e])) (less_out a b hl hb n (i + 1) (by omega))
  ·rw [if_neg (fun h => e ((cmpS_zero _ _).1 h))]
   refine Ev.congr (f := fun _ => some (Op.bytesLess a.f1[i].toList b.f1[i].toList)) (fun k => if_neg (fun h => e (toList_inj h))) ?_
   have : Op.bytesLess a.f1[i].toList b.f1[i].toList = decide (cmpS a.f1[i] b.f1[i] < 0) := by
    rw [Bool.eq_iff_iff, decide_eq_true_iff, cmpS_neg]
   rw [this]
   exact Ev.now _
theorem below_ev (a b : Row) (hl : a.f1.length = b.f1.length) (hb : a.f1.length < 4611686018427387904) : Ev (fun k => columbaryref13_Less.f k a.f0 a.f1 a.f2 a.f3 b.f0 b.f1 b.f2 b.f3) (decide (cmpRow a b < 0)) := by
 unfold columbaryref13_Less.f
 by_cases h : a.f0 = b.f0
 ·have e : cmpRow a b = cmpL a.f1 b.f1 := by unfold cmpRow orI; rw [if_pos ((cmpI_zero _ _).2 h)]
  rw [e]
  exact Ev.congr (fun k => if_pos h) (less_out a b hl hb a.f1.length 0 (by omega))
 ·refine Ev.congr (f := fun _ => some (decide (a.f0 < b.f0))) (fun k => if_neg h) ?_
  have e : cmpRow a b = cmpI a.f0 b.f0 := by unfold cmpRow orI; rw [if_neg (fun hz => h ((cmpI_zero _ _).1 hz))]
  have e2 : decide (a.f0 < b.f0) = decide (cmpRow a b < 0) := by
   rw [e]
   unfold cmpI
   by_cases h1 : a.f0 < b.f0
   ·rw [if_pos h1, decide_eq_true h1]; rfl
   ·rw [if_neg h1, if_pos (by omega), decide_eq_false h1]; rfl
  rw [e2]
  exact Ev.now _
theorem sorted_out (l : List Row) (m : Nat) (hm : ∀ r ∈ l, r.f1.length = m) (hb : m < 4611686018427387904) (hl : l.length < 4611686018427387904) : ∀ n i : Nat, i + 1 + n = l.length → Ev (fun k => columbaryref13_Sorted.l0 k l ((i + 1 : Nat) : Int)) (sortedR (l.drop i))
 | 0, i, h => by
  refine Ev.step (f := fun _ => some true) (fun k => by rw [columbaryref13_Sorted.l0, if_neg (by omega)]) ?_
  have e : l.drop i = [l[i]'(by omega)] := by rw [List.drop_eq_getElem_cons (by omega), List.drop_eq_nil_of_le (by omega)]
  rw [e]
  exact Ev.now _
 | n + 1, i, h => by
  have hi : i < l.length := by omega
  have hi2 : i + 1 < l.length := by omega
  have ew : wrap64 (((i + 1 : Nat) : Int) + 1) = ((i + 1 + 1 : Nat) : Int) := wrap_nat (by omega)
  have ew2 : wrap64 (((i + 1 : Nat) : Int) - 1) = (i : Int) := by unfold wrap64; omega
  have e1 : l.drop i = l[i] :: l[i + 1] :: l.drop (i + 1 + 1) := by rw [List.drop_eq_getElem_cons hi, List.drop_eq_getElem_cons hi2]
  have e2 : l.drop (i + 1) = l[i + 1] :: l.drop (i + 1 + 1) := List.drop_eq_getElem_cons hi2
  refine Ev.step (fun k => by rw [columbaryref13_Sorted.l0, if_pos (by omega), ew2, if_pos (by omega), if_pos (by omega), if_pos (by omega), rd_T39_nat l i hi, rd_T39_nat l (i + 1) hi2, ew]) ?_
  have h1 := hm _ (List.getElem_mem hi)
  have h2 := hm _ (List.getElem_mem hi2)
  refine Ev.bind (below_ev l[i] l[i + 1] (by omega) (by omega)) ?_
  rw [e1, sortedR, ← e2]
  by_cases hc : cmpRow l[i] l[i + 1] < 0
  ·rw [decide_eq_true hc, Bool.true_and]
   exact Ev.congr (fun k => if_pos rfl) (sorted_out l m hm hb hl n (i + 1) (by omega))
  ·rw [decide_eq_false hc, Bool.false_and]
   exact Ev.congr (f := fun _ => some false) (fun k => if_neg (by decide)) (Ev.now _)
theorem sortedRef_ev (l : List Row) (m : Nat) (hm : ∀ r ∈ l, r.f1.length = m) (hb : m < 4611686018427387904) (hl : l.length < 4611686018427387904) : Ev (fun k => columbaryref13_Sorted.f k l) (sortedR l) := by
 unfold columbaryref13_Sorted.f
 rcases Nat.eq_zero_or_pos l.length with h0 | h0
 ·obtain rfl := List.length_eq_zero_iff.1 h0
  exact Ev.step (f := fun _ => some true) (fun k => by rw [columbaryref13_Sorted.l0, if_neg (by decide)]) (Ev.now _)
 ·exact sorted_out l m hm hb hl (l.length - 1) 0 (by omega)
open Classical in
noncomputable def eqB {α : Type} (a b : α) : Bool := decide (a = b)
open Classical in
theorem eqB_iff {α : Type} {a b : α} : eqB a b = true ↔ a = b := by unfold eqB; exact decide_eq_true_iff
theorem eqB_self {α : Type} (a : α) : eqB a a = true := eqB_iff.2 rfl
theorem eqB_of {α : Type} {a b : α} (h : a = b) : eqB a b = true := by subst h; exact eqB_self a
theorem eqB_ne {α : Type} {a b : α} (h : a ≠ b) : eqB a b = false := by rw [Bool.eq_false_iff]; exact fun e => h (eqB_iff.1 e)
theorem eqB_cons {α : Type} {x y : α} {l m : List α} (h : x = y) : eqB (x :: l) (y :: m) = eqB l m := by
 rw [Bool.eq_iff_iff, eqB_iff, eqB_iff]; simp [h]
theorem eqB_cons_ne {α : Type} {x y : α} {l m : List α} (h : x ≠ y) : eqB (x :: l) (y :: m) = false := eqB_ne (fun e => h (List.cons.inj e).1)
theorem texts_out (l m : List ByteArray) (hl : l.length = m.length) (hb : l.length < 4611686018427387904) : ∀ n i : Nat, i + n = l.length → Ev (fun k => columbaryref03_Texts.l0 k l m (i : Int)) (eqB (l.drop i) (m.drop i))
 | 0, i, h => by
  refine Ev.step (f := fun _ => some true) (fun k => by rw [columbaryref03_Texts.l0, if_neg (by omega)]) ?_
  rw [List.drop_eq_nil_of_le (by omega), List.drop_eq_nil_of_le (by omega), eqB_self]
  exact Ev.now _
 | n + 1, i, h => by
  have hi : i < l.length := by omega
  have hi2 : i < m.length := by omega
  have ew : wrap64 ((i : Int) + 1) = ((i + 1 : Nat) : Int) := wrap_nat (by omega)
  refine Ev.step (fun k => by rw [columbaryref03_Texts.l0, if_pos (by omega), if_pos (by omega), if_pos (by omega), rdOf_nat _ i hi, rdOf_nat _ i hi2, ew]) ?_
  rw [List.drop_eq_getElem_cons hi, List.drop_eq_getElem_cons hi2]
  by_cases e : l[i] = m[i]
  ·rw [eqB_cons e]
   exact Ev.congr (fun k => if_pos (by rw [e])) (texts_out l m hl hb n (i + 1) (by omega))
  ·rw [eqB_cons_ne e]
   exact Ev.congr (f := fun _ => some false) (fun k => if_neg (fun h => e (toList_inj h))) (Ev.now _)
theorem texts_ev (l m : List ByteArray) (hb : l.length < 4611686018427387904) : Ev (fun k => columbaryref03_Texts.f k l m) (eqB l m) := by
 unfold columbaryref03_Texts.f
 by_cases hl : l.length = m.length
 ·exact Ev.congr (fun k => if_pos (by omega)) (texts_out l m hl hb l.length 0 (by omega))
 ·rw [eqB_ne (fun e => hl (by rw [e]))]
  exact Ev.congr (f := fun _ => some false) (fun k => if_neg (by omega)) (Ev.now _)
theorem same12_out (l m : List S71) (hl : l.length = m.length) (hb : l.length < 4611686018427387904) : ∀ n i : Nat, i + n = l.length → Ev (fun k => columbaryref12_Same.l0 k l m (i : Int)) (eqB (l.drop i) (m.drop i))
 | 0, i, h => by
  refine Ev.step (f := fun _ => some true) (fun k => by rw [columbaryref12_Same.l0, if_neg (by omega)]) ?_
  rw [List.drop_eq_nil_of_le (by omega), List.drop_eq_nil_of_le (by omega), eqB_self]
  exact Ev.now _
 | n + 1, i, h => by
  have hi : i < l.length := by omega
  have hi2 : i < m.length := by omega
  have ew : wrap64 ((i : Int) + 1) = ((i + 1 : Nat) : Int) := wrap_nat (by omega)
  have er : ∀ (q : List S71) (h : i < q.length), rd_T71 q (i : Int) = q[i] := fun q h => by simp [rd_T71, List.getElem?_eq_getElem h]
  refine Ev.step (fun k => by rw [columbaryref12_Same.l0, if_pos (by omega), if_pos (by omega), if_pos (by omega), er l hi, er m hi2, ew]) ?_
  rw [List.drop_eq_getElem_cons hi, List.drop_eq_getElem_cons hi2]
  by_cases e : l[i] = m[i]
  ·rw [eqB_cons e]
   exact Ev.congr (fun k => if_neg (by rw [e]; simp)) (same12_out l m hl hb n (i + 1) (by omega))
  ·rw [eqB_cons_ne e]
   refine Ev.congr (f := fun _ => some false) (fun k => if_pos ?_) (Ev.now _)
   generalize l[i] = x at e
   generalize m[i] = y at e
   obtain ⟨x0, x1, x2⟩ := x
   obtain ⟨y0, y1, y2⟩ := y
   by_cases q0 : x0 = y0
   ·by_cases q1 : x1 = y1
    ·by_cases q2 : x2 = y2
     ·subst q0; subst q1; subst q2; exact absurd rfl e
     ·simp [q2]
    ·simp [q1]
   ·simp [q0]
theorem same12_ev (l m : List S71) (hb : l.length < 4611686018427387904) : Ev (fun k => columbaryref12_Same.f k l m) (eqB l m) := by
 unfold columbaryref12_Same.f
 by_cases hl : l.length = m.length
 ·exact Ev.congr (fun k => if_pos (by omega)) (same12_out l m hl hb l.length 0 (by omega))
 ·rw [eqB_ne (fun e => hl (by rw [e]))]
  exact Ev.congr (f := fun _ => some false) (fun k => if_neg (by omega)) (Ev.now _)
theorem onekey_ev (a b : Row) (hb : a.f1.length < 4611686018427387904) : Ev (fun k => columbaryref13_OneKey.f k a.f0 a.f1 a.f2 a.f3 b.f0 b.f1 b.f2 b.f3) (cmpRow a b == 0) := by
 unfold columbaryref13_OneKey.f
 refine Ev.bind (texts_ev a.f1 b.f1 hb) ?_
 by_cases e : a.f1 = b.f1
 ·rw [eqB_of e]
  refine Ev.congr (f := fun _ => some (a.f0 == b.f0)) (fun k => if_pos rfl) ?_
  have : (a.f0 == b.f0) = (cmpRow a b == 0) := by
   rw [Bool.eq_iff_iff, beq_iff_eq, beq_iff_eq, cmpRow_zero]
   exact ⟨fun h => ⟨h, e⟩, fun h => h.1⟩
  rw [this]
  exact Ev.now _
 ·rw [eqB_ne e]
  refine Ev.congr (f := fun _ => some false) (fun k => if_neg (by decide)) ?_
  have : (cmpRow a b == 0) = false := by
   rw [beq_eq_false_iff_ne]
   exact fun h => e ((cmpRow_zero _ _).1 h).2
  rw [this]
  exact Ev.now _
theorem one_ev (a b : Row) (h1 : a.f1.length < 4611686018427387904) (h3 : a.f3.length < 4611686018427387904) : Ev (fun k => columbaryref13_One.f k a.f0 a.f1 a.f2 a.f3 b.f0 b.f1 b.f2 b.f3) (eqB a b) := by
 unfold columbaryref13_One.f
 refine Ev.bind (onekey_ev a b h1) (Ev.bind (same12_ev a.f3 b.f3 h3) ?_)
 obtain ⟨a0, a1, a2, a3⟩ := a
 obtain ⟨b0, b1, b2, b3⟩ := b
 by_cases e1 : cmpRow ⟨a0, a1, a2, a3⟩ ⟨b0, b1, b2, b3⟩ = 0
 ·have hk := (cmpRow_zero _ _).1 e1
  have k0 : a0 = b0 := hk.1
  have k1 : a1 = b1 := hk.2
  rw [show (cmpRow ⟨a0, a1, a2, a3⟩ ⟨b0, b1, b2, b3⟩ == 0) = true by rw [e1]; rfl]
  by_cases e3 : a3 = b3
  ·rw [show eqB (S39.f3 ⟨a0, a1, a2, a3⟩) (S39.f3 ⟨b0, b1, b2, b3⟩) = true from eqB_of e3]
   refine Ev.congr (f := fun _ => some (a2 == b2)) (fun k => by rw [if_pos rfl, if_pos rfl]) ?_
   have : (a2 == b2) = eqB (⟨a0, a1, a2, a3⟩ : Row) ⟨b0, b1, b2, b3⟩ := by
    rw [Bool.eq_iff_iff, beq_iff_eq, eqB_iff]
    constructor
    ·intro h; rw [k0, k1, h, e3]
    ·intro h; injection h
   rw [this]
   exact Ev.now _
  ·rw [show eqB (S39.f3 ⟨a0, a1, a2, a3⟩) (S39.f3 ⟨b0, b1, b2, b3⟩) = false from eqB_ne e3, eqB_ne (fun h => e3 (by injection h))]
   exact Ev.congr (f := fun _ => some false) (fun k => by rw [if_pos rfl, if_neg (by decide)]) (Ev.now _)
 ·rw [show (cmpRow ⟨a0, a1, a2, a3⟩ ⟨b0, b1, b2, b3⟩ == 0) = false from beq_eq_false_iff_ne.2 e1, show eqB (⟨a0, a1, a2, a3⟩ : Row) ⟨b0, b1, b2, b3⟩ = false from eqB_ne (fun h => e1 (h ▸ cmpRow_self _))]
  exact Ev.congr (f := fun _ => some false) (fun k => by rw [if_neg (by decide)]) (Ev.now _)
theorem same_out (l m : List Row) (hl : l.length = m.length) (hb : l.length < 4611686018427387904) (h1 : ∀ r ∈ l, r.f1.length < 4611686018427387904 ∧ r.f3.length < 4611686018427387904) : ∀ n i : Nat, i + n = l.length → Ev (fun k => columbaryref13_Same.l0 k l m (i : Int)) (eqB (l.drop i) (m.drop i))
 | 0, i, h => by
  refine Ev.step (f := fun _ => some true) (fun k => by rw [columbaryref13_Same.l0, if_neg (by omega)]) ?_
  rw [List.drop_eq_nil_of_le (by omega), List.drop_eq_nil_of_le (by omega), eqB_self]
  exact Ev.now _
 | n + 1, i, h => by
  have hi : i < l.length := by omega
  have hi2 : i < m.length := by omega
  have ew : wrap64 ((i : Int) + 1) = ((i + 1 : Nat) : Int) := wrap_nat (by omega)
  refine Ev.step (fun k => by rw [columbaryref13_Same.l0, if_pos (by omega), if_pos (by omega), if_pos (by omega), rd_T39_nat l i hi, rd_T39_nat m i hi2, ew]) ?_
  rw [List.drop_eq_getElem_cons hi, List.drop_eq_getElem_cons hi2]
  refine Ev.bind (one_ev l[i] m[i] (h1 _ (List.getElem_mem hi)).1 (h1 _ (List.getElem_mem hi)).2) ?_
  by_cases e : l[i] = m[i]
  ·rw [eqB_cons e, eqB_of e]
   exact Ev.congr (fun k => if_pos rfl) (same_out l m hl hb h1 n (i + 1) (by omega))
  ·rw [eqB_cons_ne e, eqB_ne e]
   exact Ev.congr (f := fun _ => some false) (fun k => if_neg (by decide)) (Ev.now _)
theorem same_ev (l m : List Row) (hb : l.length < 4611686018427387904) (h1 : ∀ r ∈ l, r.f1.length < 4611686018427387904 ∧ r.f3.length < 4611686018427387904) : Ev (fun k => columbaryref13_Same.f k l m) (eqB l m) := by
 unfold columbaryref13_Same.f
 by_cases hl : l.length = m.length
 ·exact Ev.congr (fun k => if_pos (by omega)) (same_out l m hl hb h1 l.length 0 (by omega))
 ·rw [eqB_ne (fun e => hl (by rw [e]))]
  exact Ev.congr (f := fun _ => some false) (fun k => if_neg (by omega)) (Ev.now _)
end Go.Proofs.Ytdeeffahfkndkaa.P
