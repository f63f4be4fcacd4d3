/- A part of the proof: lemmas and contracts of functions (printed or written by the session's program, and by hand), in dependency order. -/
import Derived.Test.YtdeeffahfkndkaaQOrder7
import Derived.Test.YtdeeffahfkndkaaQOrder10
import Derived.Test.YtdeeffahfkndkaaQOrder11
import Derived.Test.YtdeeffahfkndkaaQOrder8
namespace Go.Proofs.Ytdeeffahfkndkaa.P
open Go.RowKit Go.Proofs.YtdeeffahfkndkaaW.PrintWords Go.Proofs.YtdeeffahfkndkaaW.PrintLast Go.Proofs.YtdeeffahfkndkaaW.PrintMore
set_option linter.unusedVariables false
set_option linter.unusedSimpArgs false
def sortedR : List Row → Bool
 | a :: b :: t => decide (cmpRow a b < 0) && sortedR (b :: t)
 | _ => true
def RowsOk (l : List Row) : Prop := ∀ r ∈ l, r.f1.length < 4611686018427387904
def begunC : Nat → List (List Row) → List Cur
 | _, [] => []
 | i, x :: t => (if x = [] then [] else [⟨x, (i : Int)⟩]) ++ begunC (i + 1) t
theorem begunC_snoc : ∀ (l : List (List Row)) (i : Nat) (x : List Row), begunC i (l ++ [x]) = begunC i l ++ (if x = [] then [] else [⟨x, ((i + l.length : Nat) : Int)⟩])
 | [], i, x => by simp [begunC]
 | y :: t, i, x => by
  simp only [List.cons_append, begunC, begunC_snoc t, List.length_cons, List.append_assoc]
  rw [show i + 1 + t.length = i + (t.length + 1) by omega]
theorem begunC_length : ∀ (l : List (List Row)) (i : Nat), (begunC i l).length ≤ l.length
 | [], i => by simp [begunC]
 | y :: t, i => by
  have := begunC_length t (i + 1)
  simp only [begunC, List.length_append, List.length_cons]
  split <;> simp <;> omega
theorem begunC_mem : ∀ (l : List (List Row)) (i : Nat) (a : Cur), a ∈ begunC i l → a.f0 ≠ [] ∧ a.f0 ∈ l
 | [], i, a, h => by simp [begunC] at h
 | y :: t, i, a, h => by
  simp only [begunC, List.mem_append] at h
  rcases h with h | h
  ·split at h
   ·simp at h
   ·rename_i hy
    simp only [List.mem_singleton] at h
    subst h
    exact ⟨hy, List.mem_cons_self ..⟩
  ·obtain ⟨h1, h2⟩ := begunC_mem t (i + 1) a h
   exact ⟨h1, List.mem_cons_of_mem _ h2⟩
theorem sorted_loop (l : List Row) (hok : RowsOk l) (hl : l.length ≤ 9223372036854775807) : ∀ (n i : Nat), i + n = l.length → 0 < i → Ev (fun k => rows_Sorted.l0 k l (l.length : Int) (i : Int)) (sortedR (l.drop (i - 1)))
 | 0, i, hn, hi => by
  refine ⟨1, fun k hk => ?_⟩
  obtain ⟨k, rfl⟩ : ∃ k', k = k' + 1 := ⟨k - 1, by omega⟩
  show rows_Sorted.l0 (k + 1) l (l.length : Int) (i : Int) = some _
  rw [rows_Sorted.l0, if_neg (by omega)]
  have : (l.drop (i - 1)).length ≤ 1 := by rw [List.length_drop]; omega
  match hd : l.drop (i - 1), this with
  | [], _ => simp [sortedR]
  | [a], _ => simp [sortedR]
  | a :: b :: t, h => simp at h
 | n + 1, i, hn, hi => by
  have hi1 : i - 1 < l.length := by omega
  have hi2 : i < l.length := by omega
  have e : l.drop (i - 1) = l[i - 1] :: l[i] :: l.drop (i + 1) := by
   rw [List.drop_eq_getElem_cons hi1, show i - 1 + 1 = i by omega, List.drop_eq_getElem_cons hi2]
  have e2 : l.drop (i + 1 - 1) = l[i] :: l.drop (i + 1) := by rw [show i + 1 - 1 = i by omega, List.drop_eq_getElem_cons hi2]
  obtain ⟨K1, h1⟩ := cmpRow_ev l[i - 1] l[i] (hok _ (List.getElem_mem hi1))
  obtain ⟨K2, h2⟩ := sorted_loop l hok hl n (i + 1) (by omega) (by omega)
  refine ⟨max K1 K2 + 1, fun k hk => ?_⟩
  obtain ⟨k, rfl⟩ : ∃ k', k = k' + 1 := ⟨k - 1, by omega⟩
  have e3 := h1 k (by omega)
  have e4 := h2 k (by omega)
  have w1 : wrap64 ((i : Int) - 1) = ((i - 1 : Nat) : Int) := by rw [IntWalk.wrap64_in _ ⟨by omega, by omega⟩]; omega
  have w2 : wrap64 ((i : Int) + 1) = ((i + 1 : Nat) : Int) := by rw [IntWalk.wrap64_in _ ⟨by omega, by omega⟩]; omega
  show rows_Sorted.l0 (k + 1) l (l.length : Int) (i : Int) = some _
  rw [rows_Sorted.l0, if_pos (by omega), if_pos (by omega), w1, if_pos (by omega), if_pos (by omega), if_pos (by omega), if_pos (by omega), w2]
  have r1 : rd_T39 l ((i - 1 : Nat) : Int) = l[i - 1] := by simp [rd_T39, List.getElem?_eq_getElem hi1]
  have r2 : rd_T39 l ((i : Nat) : Int) = l[i] := by simp [rd_T39, List.getElem?_eq_getElem hi2]
  rw [r1, r2]
  replace e3 : rows_Compare.f k l[i - 1].f0 l[i - 1].f1 l[i - 1].f2 l[i - 1].f3 l[i].f0 l[i].f1 l[i].f2 l[i].f3 = some (cmpRow l[i - 1] l[i]) := e3
  replace e4 : rows_Sorted.l0 k l (l.length : Int) ((i + 1 : Nat) : Int) = some (sortedR (l.drop (i + 1 - 1))) := e4
  rw [e3, Option.bind_some, e, sortedR]
  rw [e2] at e4
  by_cases hc : cmpRow l[i - 1] l[i] < 0
  ·rw [if_neg (by omega), e4, decide_eq_true hc, Bool.true_and]
  ·rw [if_pos (by omega), decide_eq_false hc, Bool.false_and]
theorem sorted_ev (l : List Row) (hok : RowsOk l) (hl : l.length ≤ 9223372036854775807) : Ev (fun k => rows_Sorted.f k l) (sortedR l) := by
 match l, hok, hl with
 | [], _, _ => exact ⟨1, fun k hk => by
   obtain ⟨k, rfl⟩ : ∃ k', k = k' + 1 := ⟨k - 1, by omega⟩
   rfl⟩
 | a :: t, hok, hl =>
  obtain ⟨K, h⟩ := sorted_loop (a :: t) hok hl t.length 1 (by simp [Nat.add_comm]) (by omega)
  refine ⟨K + 1, fun k hk => ?_⟩
  obtain ⟨k, rfl⟩ : ∃ k', k = k' + 1 := ⟨k - 1, by omega⟩
  have e := h k (by omega)
  show rows_Sorted.f (k + 1) (a :: t) = some (sortedR (a :: t))
  rw [rows_Sorted.f, rows_Sorted.l0, if_pos (by first | (simp; done) | (simp; omega)), if_neg (by omega), show wrap64 (0 + 1) = ((1 : Nat) : Int) by rw [IntWalk.wrap64_in _ ⟨by omega, by omega⟩]; rfl]
  exact e
def ListsOk (l : List (List Row)) : Prop := l.length < 1099511627776 ∧ ∀ x ∈ l, rows_Copy.ok x = true
theorem copyOk_rows {x : List Row} (h : rows_Copy.ok x = true) : RowsOk x ∧ x.length ≤ 9223372036854775807 := by
 simp only [rows_Copy.ok, Bool.and_eq_true, decide_eq_true_eq, List.all_eq_true] at h
 exact ⟨fun r hr => by have := (h.2 r hr).1; omega, by omega⟩
theorem begunC_ok {l : List (List Row)} (h : ∀ x ∈ l, RowsOk x) {cs : List Cur} (hp : cs.Perm (begunC 0 l)) : ∀ a ∈ cs, CurOk a := fun a ha => by
 obtain ⟨h1, h2⟩ := begunC_mem l 0 a (hp.mem_iff.1 ha)
 exact ⟨h1, h _ h2⟩
theorem kq_empty {W : World} {base g : Nat} (hh : W.heap[g]? = some (.cells #[] 64 (0, 0))) (hb : base ≤ g) : kq.R 64 W base (fun _ => True) (.slice (some ⟨g, 0, none⟩) 0 0) [] :=
 ⟨fun _ _ => trivial, [], ⟨by simp, .inr ⟨g, 0, #[], rfl, hb, hh, Nat.le_refl _, by decide, by simp, by simp⟩⟩, Reps.none _ _⟩
theorem HS_below {w w' : World} {base : Nat} {ok : Nat → Prop} {B : Nat} {cs : List Cur} (h : HS w base ok B cs) (hb : Below w.heap.size w w') : HS w' base ok B cs := by
 obtain ⟨h1, v, h2, h3⟩ := h
 exact ⟨h1, v, (hb.block B (blk_lt h2)).trans h2, Kd.R_below h3 hb⟩
theorem below_then {w w1 w2 : World} (h4 : Below w.heap.size w w1) (hb : Below w1.heap.size w1 w2) : Below w.heap.size w w2 :=
 ⟨hb.os.trans h4.os, hb.tape.trans h4.tape, hb.output.trans h4.output, Nat.le_trans h4.size hb.size, fun k hk => (hb.block k (Nat.lt_of_lt_of_le hk h4.size)).trans (h4.block k hk)⟩
def BegunI (w : World) (l : List (List Row)) (i : Nat) (cs : List Cur) (w' : World) : Prop := HS w' w.heap.size (fun _ => True) (w.heap.size + 1) cs ∧ cs.Perm (begunC 0 (l.take i)) ∧ HeapP cs cs.length ∧ Below w.heap.size w w' ∧ (l.take i).all sortedR = true
theorem begun_more {w w1 w2 : World} {l : List (List Row)} {i : Nat} {cs cs' : List Cur} (h : BegunI w l i cs w1) (hi : i < l.length) (hs : sortedR (rd_L6 l i) = true) (hc : (rd_L6 l i) = [] ∧ cs' = cs ∧ Below w1.heap.size w1 w2 ∨ (rd_L6 l i) ≠ [] ∧ cs'.Perm (⟨rd_L6 l i, (i : Int)⟩ :: cs) ∧ HS w2 w.heap.size (fun _ => True) (w.heap.size + 1) cs' ∧ HeapP cs' cs'.length ∧ Below w.heap.size w w2) : BegunI w l (i + 1) cs' w2 := by
 obtain ⟨h1, h2, h3, h4, h5⟩ := h
 have er : rd_L6 l i = l[i] := by simp [rd_L6, List.getElem?_eq_getElem hi]
 rw [er] at hs hc
 have e : l.take (i + 1) = l.take i ++ [l[i]] := by rw [List.take_append_getElem]
 have hln : (l.take i).length = i := by rw [List.length_take]; omega
 rcases hc with ⟨hx, rfl, hb⟩ | ⟨hx, hp, hS, hH, hb⟩
 ·refine ⟨HS_below h1 hb, ?_, h3, ?_, ?_⟩
  ·rw [e, begunC_snoc, if_pos hx, List.append_nil]; exact h2
  ·exact ⟨hb.os.trans h4.os, hb.tape.trans h4.tape, hb.output.trans h4.output, Nat.le_trans h4.size hb.size, fun k hk => (hb.block k (Nat.lt_of_lt_of_le hk h4.size)).trans (h4.block k hk)⟩
  ·rw [e, List.all_append, h5]; simp [hs]
 ·refine ⟨hS, ?_, hH, hb, ?_⟩
  ·rw [e, begunC_snoc, if_neg hx, hln, Nat.zero_add]
   exact hp.trans ((List.Perm.cons _ h2).trans (List.perm_append_comm (l₁ := [_])))
  ·rw [e, List.all_append, h5]; simp [hs]
def BegunPost (w : World) (l : List (List Row)) (e : Ending) (w' : World) : Prop := Below w.heap.size w w' ∧
 (l.all sortedR = true → ∃ B cs, e = .returned (.tuple #[.pointer (some ⟨B, 0, none⟩), .bool true]) ∧ HS w' w.heap.size (fun _ => True) B cs ∧ cs.Perm (begunC 0 l) ∧ HeapP cs cs.length) ∧
 (¬ l.all sortedR = true → e = .returned (.tuple #[.pointer none, .bool false]))
set_option maxHeartbeats 8000000 in
set_option maxRecDepth 100000 in
theorem begun_calls (w : World) (A : Option Addr) (c : Nat) (l : List (List Row)) (hC : Kd.C (Kd.slice 39 k39) w A l.length l) (hc : l.length ≤ c) (hok : ListsOk l) :
  Calls Try.prog 16 #[.slice A l.length c] w fun e w' => BegunPost w l e w' := by
 have HC := Z0.mk hC
 have HOK := Z0.mk hok
 have hlen : l.length < 1099511627776 := hok.1
 clear hC hok
 go_enter Try.func16, Try.ntmps16
 go_wp2
 have H0 : Z0 (BegunI w l 0 [] ((w.alloc (Obj.cells #[] 64)).alloc (Obj.cells #[Value.slice (some { block := w.heap.size, off := 0 }) 0 0] 61))) := ⟨⟨Nat.le_succ _, _, (by rw [show w.heap.size + 1 = (w.alloc (Obj.cells #[] 64)).heap.size by simp]; exact blk_new _ _), kq_empty (bAl (blk_new _ _) _) (Nat.le_refl _)⟩, List.Perm.refl _, fun k h0 h1 => by simp at h1, beA (beA (Below.refl _ _) _) _, rfl⟩
 go_loopg [11] (l.length + 1) (fun kq1 v11 w' => ∃ (i : Nat) (cs : List Cur), v11 = .int .i64 (i : Int) ∧ l.length < kq1 + i ∧ i ≤ l.length ∧ Z0 (BegunI w l i cs w'))
 case atStart => exact ⟨0, [], rfl, by omega, Nat.zero_le _, H0⟩
 case round =>
  clear H0
  obtain ⟨i, cs, rfl, hik, hil, HI⟩ := hrel
  cases gk with
  | zero => exact absurd hik (by omega)
  | succ k1 =>
   by_cases hlt : i < l.length
   ·obtain ⟨ad, A0, c0, rfl, hcell, hle, hx⟩ := at_L6 (Kd.C_below HC.out HI.out.2.2.2.1) (i : Int) (by omega) (by omega)
    have hb1 : decide ((i : Int) < (l.length : Int)) = true := decide_eq_true (by omega)
    obtain ⟨x, ex⟩ : ∃ x, rd_L6 l (i : Int) = x := ⟨_, rfl⟩
    have hmem : x ∈ l := by rw [← ex]; simp [rd_L6, List.getElem?_eq_getElem hlt]
    rw [Int.toNat_natCast] at hcell
    rw [ex] at hcell hle hx
    have hcop := HOK.out.2 x hmem
    obtain ⟨ro, rl⟩ := copyOk_rows hcop
    obtain ⟨k, hk⟩ := (sorted_ev x ro rl).rounds
    have HX := Z0.mk hx
    have HK := Z0.mk hk
    have HCP := Z0.mk hcop
    have HE := Z0.mk ex
    have HM := Z0.mk hmem
    clear hx hk hcop ro ex hmem
    have hnall : sortedR x = false → ¬ (l.all sortedR = true) := fun h h2 => by
     rw [List.all_eq_true] at h2
     rw [h2 x HM.out] at h
     cases h
    have HNA := Z0.mk hnall
    clear hnall
    have hlen1 : (x.length : Int) ≤ 9223372036854775807 := by omega
    cases hsx : sortedR x with
    | false =>
     go_wp2_with (go_at_call 25; refine (rows_Sorted.calls k A0 c0 x _ _ HX.out hle HK.out).mono ?_; rw [hsx]; rintro e w1 ⟨rfl, hbs⟩)
     go_ret2
     exact ⟨below_then HI.out.2.2.2.1 hbs, fun h => absurd h (HNA.out hsx), fun _ => rfl⟩
    | true =>
     by_cases hxe : x = []
     ·subst hxe
      go_wp2_with (go_at_call 25; refine (rows_Sorted.calls k A0 c0 [] _ _ HX.out hle HK.out).mono ?_; rw [hsx]; rintro e w1 ⟨rfl, hbs⟩)
      go_roundg k1
      case measure => exact Nat.lt_succ_self _
      case rel => exact ⟨i + 1, cs, rfl, by omega, by omega, ⟨begun_more HI.out hlt (by rw [HE.out]; exact hsx) (.inl ⟨HE.out, rfl, hbs⟩)⟩⟩
     ·have hx0 : decide ((0 : Int) < (x.length : Int)) = true := decide_eq_true (by have := List.length_pos_iff.2 hxe; omega)
      have hx0' : decide (0 < x.length) = true := decide_eq_true (List.length_pos_iff.2 hxe)
      have HXE := Z0.mk hxe
      clear hxe
      have HPRE : Z0 (cs.length < 1099511627776 ∧ (∀ a ∈ cs, CurOk a) ∧ CurOk ⟨x, (i : Int)⟩) := ⟨by
       refine ⟨?_, begunC_ok (fun y hy => (copyOk_rows (HOK.out.2 y (List.mem_of_mem_take hy))).1) HI.out.2.1, HXE.out, (copyOk_rows HCP.out).1⟩
       rw [HI.out.2.1.length_eq]
       have h1 := begunC_length (l.take i) 0
       rw [List.length_take] at h1
       omega⟩
      go_wp2_with (first
       | (go_at_call 25; refine (rows_Sorted.calls k A0 c0 x _ _ HX.out hle HK.out).mono ?_; rw [hsx]; rintro e w1 ⟨rfl, hbs⟩)
       | (go_at_call 37; refine (rows_Copy.calls A0 c0 x x _ (Kd.C_below HX.out hbs) hle (by rw [rows_Copy.f, if_pos HCP.out])).mono ?_; rintro e w2 ⟨v0, rfl, hR2, hb2⟩; obtain ⟨A2, c2, e2⟩ := Kd.R_slice hR2; subst e2; have HR2 := Z0.mk hR2; have HB2 := Z0.mk hb2; clear hR2 hb2)
       | (go_at_call 36; refine (heapPush_calls _ w.heap.size (fun _ => True) (w.heap.size + 1) cs ⟨x, (i : Int)⟩ A2 x.length c2 (i : Int) rfl (Kd.Q_lower (Kd.Q_of_R HR2.out) (Nat.le_trans HI.out.2.2.2.1.size hbs.size)) (HS_below (HS_below HI.out.1 hbs) HB2.out) (fun _ _ => trivial) HPRE.out.1 HPRE.out.2.1 HPRE.out.2.2 HI.out.2.2.1).mono ?_; rintro e w3 ⟨rfl, cs', hS3, hP3, hH3, hE3⟩))
      go_roundg k1
      case measure => exact Nat.lt_succ_self _
      case rel => exact ⟨i + 1, cs', rfl, by omega, by omega, ⟨begun_more HI.out hlt (by rw [HE.out]; exact hsx) (.inr ⟨by rw [HE.out]; exact HXE.out, by rw [HE.out]; exact hP3, hS3, hH3, hE3.below (below_then (below_then HI.out.2.2.2.1 hbs) HB2.out) (Nat.le_trans HI.out.2.2.2.1.size (Nat.le_trans hbs.size HB2.out.size))⟩)⟩⟩
   ·obtain rfl : i = l.length := by omega
    have hb1 : decide (((l.length : Nat) : Int) < (l.length : Int)) = false := decide_eq_false (by omega)
    have ht : l.take l.length = l := List.take_length
    go_wp2
    go_ret2
    have hI := HI.out
    rw [BegunI, List.take_length] at hI
    exact ⟨hI.2.2.2.1, fun _ => ⟨_, cs, rfl, hI.1, hI.2.1, hI.2.2.1⟩, fun h => absurd hI.2.2.2.2 h⟩
end Go.Proofs.Ytdeeffahfkndkaa.P
namespace Go.Proofs.Ytdeeffahfkndkaa.P
open Go.RowKit Go.Proofs.YtdeeffahfkndkaaW.PrintWords Go.Proofs.YtdeeffahfkndkaaW.PrintLast Go.Proofs.YtdeeffahfkndkaaW.PrintMore
set_option linter.unusedVariables false
set_option linter.unusedSimpArgs false
abbrev TR := Row × Int
def leT (a b : TR) : Prop := cmpRow a.1 b.1 < 0 ∨ cmpRow a.1 b.1 = 0 ∧ a.2 ≤ b.2
def leTb (a b : TR) : Bool := decide (cmpRow a.1 b.1 < 0) || (decide (cmpRow a.1 b.1 = 0) && decide (a.2 ≤ b.2))
theorem leTb_iff (a b : TR) : leTb a b = true ↔ leT a b := by simp [leTb, leT]
theorem leT_trans {a b c : TR} (h1 : leT a b) (h2 : leT b c) : leT a c := by
 rcases h1 with h1 | ⟨h1, h1'⟩
 ·rcases h2 with h2 | ⟨h2, h2'⟩
  ·exact .inl (cmpRow_trans h1 h2)
  ·have := (cmpRow_key h2 (c := a.1)).2
   exact .inl (by omega)
 ·have e := (cmpRow_key h1 (c := c.1)).1
  rcases h2 with h2 | ⟨h2, h2'⟩
  ·exact .inl (by omega)
  ·exact .inr ⟨by omega, by omega⟩
theorem leT_total (a b : TR) : leT a b ∨ leT b a := by
 unfold leT
 rw [cmpRow_swap a.1 b.1]
 have := cmpRow_vals a.1 b.1
 omega
theorem leC_leT (a b : Cur) : leC a b ↔ leT (hd a, a.f1) (hd b, b.f1) := leC_iff a b
def sortT (l : List TR) : List TR := l.mergeSort leTb
theorem sortT_perm (l : List TR) : (sortT l).Perm l := List.mergeSort_perm _ _
theorem sortT_sorted (l : List TR) : (sortT l).Pairwise leT := by
 have h := List.pairwise_mergeSort (le := leTb) (fun a b c h1 h2 => (leTb_iff _ _).2 (leT_trans ((leTb_iff _ _).1 h1) ((leTb_iff _ _).1 h2))) (fun a b => by
  rcases leT_total a b with h | h
  ·rw [(leTb_iff _ _).2 h, Bool.true_or]
  ·rw [(leTb_iff _ _).2 h, Bool.or_true]) l
 exact h.imp (fun h => (leTb_iff _ _).1 h)
theorem sortedR_pairwise : ∀ {l : List Row}, sortedR l = true → l.Pairwise (fun a b => cmpRow a b < 0)
 | [], _ => List.Pairwise.nil
 | [a], _ => by simp
 | a :: b :: t, h => by
  simp only [sortedR, Bool.and_eq_true, decide_eq_true_eq] at h
  have ih := sortedR_pairwise h.2
  refine List.Pairwise.cons ?_ ih
  intro y hy
  rcases List.mem_cons.1 hy with rfl | hy
  ·exact h.1
  ·exact cmpRow_trans h.1 (List.rel_of_pairwise_cons ih hy)
theorem sortedR_of : ∀ {l : List Row}, l.Pairwise (fun a b => cmpRow a b < 0) → sortedR l = true
 | [], _ => rfl
 | [a], _ => rfl
 | a :: b :: t, h => by
  rw [List.pairwise_cons] at h
  simp only [sortedR, Bool.and_eq_true, decide_eq_true_eq]
  exact ⟨h.1 b (List.mem_cons_self ..), sortedR_of h.2⟩
theorem strict_eq {l : List Row} (h : l.Pairwise (fun a b => cmpRow a b < 0)) : ∀ r r' : Row, r ∈ l → r' ∈ l → cmpRow r r' = 0 → r = r' := by
 induction h with
 | nil => intro r r' hr; simp at hr
 | @cons a l ha _ ih =>
  intro r r' hr hr' h
  rcases List.mem_cons.1 hr with e1 | h1
  ·rcases List.mem_cons.1 hr' with e | h2
   ·exact e1.trans e.symm
   ·have := ha _ h2; rw [e1] at h; omega
  ·rcases List.mem_cons.1 hr' with e | h2
   ·have := ha _ h1; rw [e, cmpRow_swap] at h; omega
   ·exact ih r r' h1 h2 h
def tagC (a : Cur) : List TR := a.f0.map fun r => (r, a.f1)
def tags (cs : List Cur) : List TR := cs.flatMap tagC
theorem tags_perm {cs cs' : List Cur} (h : cs.Perm cs') : (tags cs).Perm (tags cs') := h.flatMap_right _
theorem tags_mem {cs : List Cur} {t : TR} : t ∈ tags cs ↔ ∃ a ∈ cs, t.1 ∈ a.f0 ∧ t.2 = a.f1 := by
 unfold tags tagC
 simp only [List.mem_flatMap, List.mem_map]
 constructor
 ·rintro ⟨a, ha, r, hr, rfl⟩; exact ⟨a, ha, hr, rfl⟩
 ·rintro ⟨a, ha, hr, e⟩; exact ⟨a, ha, t.1, hr, by rw [← e]⟩
def Good (cs : List Cur) : Prop := (∀ a ∈ cs, sortedR a.f0 = true) ∧ (cs.map (·.f1)).Nodup
theorem Good.perm {cs cs' : List Cur} (h : Good cs) (p : cs.Perm cs') : Good cs' := ⟨fun a ha => h.1 a (p.mem_iff.2 ha), (p.map _).nodup_iff.1 h.2⟩
theorem nodup_inj : ∀ {cs : List Cur}, (cs.map (·.f1)).Nodup → ∀ a a' : Cur, a ∈ cs → a' ∈ cs → a.f1 = a'.f1 → a = a'
 | [], _, a, a', ha, _, _ => by simp at ha
 | c :: cs, h, a, a', ha, ha', e => by
  simp only [List.map_cons, List.nodup_cons, List.mem_map, not_exists, not_and] at h
  rcases List.mem_cons.1 ha with e1 | h1
  ·rcases List.mem_cons.1 ha' with e2 | h2
   ·exact e1.trans e2.symm
   ·rw [e1] at e; exact absurd e.symm (h.1 a' h2)
  ·rcases List.mem_cons.1 ha' with e2 | h2
   ·rw [e2] at e; exact absurd e (h.1 a h1)
   ·exact nodup_inj h.2 a a' h1 h2 e
theorem tags_anti {cs : List Cur} (h : Good cs) {t t' : TR} (h1 : t ∈ tags cs) (h2 : t' ∈ tags cs) (h3 : leT t t') (h4 : leT t' t) : t = t' := by
 obtain ⟨a, ha, hr, e⟩ := tags_mem.1 h1
 obtain ⟨a', ha', hr', e'⟩ := tags_mem.1 h2
 have hs := cmpRow_swap t.1 t'.1
 unfold leT at h3 h4
 have hz : cmpRow t.1 t'.1 = 0 := by omega
 have hp : t.2 = t'.2 := by omega
 have := nodup_inj h.2 a a' ha ha' (by omega)
 subst this
 exact Prod.ext (strict_eq (sortedR_pairwise (h.1 a ha)) _ _ hr hr' hz) hp
theorem sortT_unique {cs : List Cur} (h : Good cs) {l : List TR} (hp : l.Perm (tags cs)) (hs : l.Pairwise leT) : sortT (tags cs) = l :=
 List.Perm.eq_of_pairwise (le := leT) (fun a b ha hb h1 h2 => tags_anti h ((sortT_perm _).mem_iff.1 ha) (hp.mem_iff.1 hb) h1 h2) (sortT_sorted _) hs ((sortT_perm _).trans hp.symm)
theorem good_tail {x : Cur} {rest : List Cur} (h : Good (x :: rest)) : Good (tailC x rest) := by
 unfold tailC
 split
 ·refine ⟨fun a ha => ?_, by simpa using h.2⟩
  rcases List.mem_cons.1 ha with rfl | ha
  ·exact sortedR_of ((sortedR_pairwise (h.1 x (List.mem_cons_self ..))).drop)
  ·exact h.1 a (List.mem_cons_of_mem _ ha)
 ·exact ⟨fun a ha => h.1 a (List.mem_cons_of_mem _ ha), by have := h.2; simp only [List.map_cons, List.nodup_cons] at this; exact this.2⟩
theorem tags_tail {x : Cur} (rest : List Cur) (hx : x.f0 ≠ []) : tags (x :: rest) = (hd x, x.f1) :: tags (tailC x rest) := by
 unfold tailC hd
 match hf : x.f0 with
 | [] => exact absurd hf hx
 | [r] => simp [tags, tagC, hf]
 | r :: r' :: t => simp [tags, tagC, hf]
theorem sortT_step {cs : List Cur} (h : Good cs) {x : Cur} {rest cs' : List Cur} (hp : (x :: rest).Perm cs) (hx : ∀ a ∈ cs, a.f0 ≠ []) (hl : ∀ a ∈ cs, leC x a) (hp' : cs'.Perm (tailC x rest)) :
  sortT (tags cs) = (hd x, x.f1) :: sortT (tags cs') := by
 have hxm : x ∈ cs := hp.mem_iff.1 (List.mem_cons_self ..)
 have g := h.perm hp.symm
 have e := tags_tail rest (hx x hxm)
 have hpm : ((hd x, x.f1) :: sortT (tags cs')).Perm (tags cs) := by
  refine List.Perm.trans ?_ (tags_perm hp)
  rw [e]
  exact List.Perm.cons _ ((sortT_perm _).trans (tags_perm hp'))
 refine sortT_unique h hpm (List.Pairwise.cons (fun t ht => ?_) (sortT_sorted _))
 have ht2 : t ∈ tags cs := hpm.mem_iff.1 (List.mem_cons_of_mem _ ht)
 obtain ⟨a, ha, hr, e2⟩ := tags_mem.1 ht2
 have h1 := (leC_leT x a).1 (hl a ha)
 refine leT_trans h1 ?_
 have hs := sortedR_pairwise (h.1 a ha)
 unfold hd
 match hf : a.f0 with
 | [] => rw [hf] at hr; simp at hr
 | r :: l =>
  rw [hf] at hr hs
  rcases List.mem_cons.1 hr with e3 | hr
  ·exact .inr ⟨by show cmpRow r t.1 = 0; rw [e3]; exact cmpRow_self _, by show a.f1 ≤ t.2; omega⟩
  ·exact .inl (List.rel_of_pairwise_cons hs hr)
def foldE : List Row → List TR → List Row × Int
 | out, [] => (out, 0)
 | out, t :: rest =>
  if out = [] ∨ ¬ cmpRow (out.getD (out.length - 1) z39) t.1 = 0 then foldE (out ++ [t.1]) rest
  else if (joinE (out.getD (out.length - 1) z39) t.1).2 = 0 then foldE (out.set (out.length - 1) (joinE (out.getD (out.length - 1) z39) t.1).1) rest
  else ([], (joinE (out.getD (out.length - 1) z39) t.1).2)
def RowFit (r : Row) : Prop := r.f1.length < 8796093022208 ∧ r.f3.length < 5864062014805
theorem joinE_fit {a b : Row} (h : RowFit a) (h0 : (joinE a b).2 = 0) : RowFit (joinE a b).1 := by
 unfold joinE at h0 ⊢
 split at h0
 ·rename_i hc
  rw [if_pos hc]
  split at h0
  ·simp at h0
  ·rename_i hs
   rw [if_neg hs]
   cases hj : joinAs a.f3 b.f3 with
   | none => rw [hj] at h0; simp at h0
   | some l =>
    refine ⟨h.1, ?_⟩
    show l.length < _
    rw [joinAs_length hc.2 hj]
    exact h.2
 ·simp at h0
theorem begun_nodup : ∀ (l : List (List Row)) (i : Nat), ((begunC i l).map (·.f1)).Nodup ∧ ∀ p ∈ (begunC i l).map (·.f1), (i : Int) ≤ p
 | [], i => by simp [begunC]
 | x :: t, i => by
  obtain ⟨h1, h2⟩ := begun_nodup t (i + 1)
  unfold begunC
  split
  ·exact ⟨by simpa using h1, fun p hp => by have := h2 p (by simpa using hp); omega⟩
  ·constructor
   ·simp only [List.cons_append, List.nil_append, List.map_cons, List.nodup_cons]
    exact ⟨fun h => by have := h2 _ h; omega, h1⟩
   ·intro p hp
    simp only [List.cons_append, List.nil_append, List.map_cons, List.mem_cons] at hp
    rcases hp with rfl | hp
    ·exact Int.le_refl _
    ·have := h2 p hp; omega
theorem begun_good {l : List (List Row)} (h : l.all sortedR = true) {cs : List Cur} (hp : cs.Perm (begunC 0 l)) : Good cs := by
 refine Good.perm ⟨fun a ha => ?_, (begun_nodup l 0).1⟩ hp.symm
 rw [List.all_eq_true] at h
 exact h _ (begunC_mem l 0 a ha).2
def listsE (l : List (List Row)) : List Row × Int := if l.all sortedR = true then foldE [] (sortT (tags (begunC 0 l))) else ([], 131)
theorem sortT_begun {l : List (List Row)} (h : l.all sortedR = true) {cs : List Cur} (hp : cs.Perm (begunC 0 l)) : sortT (tags cs) = sortT (tags (begunC 0 l)) :=
 (sortT_unique (begun_good h hp) ((sortT_perm _).trans (tags_perm hp.symm)) (sortT_sorted _))
end Go.Proofs.Ytdeeffahfkndkaa.P
namespace Go.Proofs.Ytdeeffahfkndkaa.P
open Go.RowKit Go.Proofs.YtdeeffahfkndkaaW.PrintWords Go.Proofs.YtdeeffahfkndkaaW.PrintLast Go.Proofs.YtdeeffahfkndkaaW.PrintMore
set_option linter.unusedVariables false
set_option linter.unusedSimpArgs false
def joinO (a b : Row) : Option Row := if (joinE a b).2 = 0 then some (joinE a b).1 else none
def ins : List Row → Row → Option (List Row)
 | [], r => some [r]
 | x :: t, r => if cmpRow x r < 0 then (ins t r).map (x :: ·) else if cmpRow x r = 0 then (joinO x r).map (· :: t) else some (r :: x :: t)
def foldI : List Row → List Row → Option (List Row)
 | out, [] => some out
 | out, r :: t => (ins out r).bind fun o => foldI o t
theorem joinO_key {a b x : Row} (h : joinO a b = some x) : ∀ c, cmpRow x c = cmpRow a c ∧ cmpRow c x = cmpRow c a := by
 unfold joinO at h
 split at h
 ·rename_i h0
  obtain rfl := Option.some.inj h
  have hz : cmpRow a (joinE a b).1 = 0 := by
   unfold joinE at h0 ⊢
   split at h0
   ·rename_i hc
    rw [if_pos hc]
    split at h0
    ·simp at h0
    ·rename_i hs
     rw [if_neg hs]
     cases hj : joinAs a.f3 b.f3 with
     | none => rw [hj] at h0; simp at h0
     | some l => exact (cmpRow_zero _ _).2 ⟨rfl, rfl⟩
   ·simp at h0
  exact fun c => ⟨((cmpRow_key hz (c := c)).1).symm, ((cmpRow_key hz (c := c)).2).symm⟩
 ·cases h
theorem ins_lt {x : Row} {t : List Row} {r : Row} (h : cmpRow x r < 0) : ins (x :: t) r = (ins t r).map (x :: ·) := by rw [ins, if_pos h]
theorem ins_eq {x : Row} {t : List Row} {r : Row} (h : cmpRow x r = 0) : ins (x :: t) r = (joinO x r).map (· :: t) := by rw [ins, if_neg (by omega), if_pos h]
theorem ins_gt {x : Row} {t : List Row} {r : Row} (h : 0 < cmpRow x r) : ins (x :: t) r = some (r :: x :: t) := by rw [ins, if_neg (by omega), if_neg (by omega)]
theorem ins_sorted : ∀ {l o : List Row} {r : Row}, l.Pairwise (fun a b => cmpRow a b < 0) → ins l r = some o → o.Pairwise (fun a b => cmpRow a b < 0) ∧ ∀ y ∈ o, cmpRow y r = 0 ∨ ∃ x ∈ l, cmpRow y x = 0
 | [], o, r, _, h => by
  obtain rfl := Option.some.inj h
  exact ⟨by simp, fun y hy => .inl (by rw [List.mem_singleton.1 hy]; exact cmpRow_self _)⟩
 | x :: t, o, r, hp, h => by
  rw [List.pairwise_cons] at hp
  have hv := cmpRow_vals x r
  rcases hv with hv | hv | hv
  ·rw [ins_lt (by omega), Option.map_eq_some_iff] at h
   obtain ⟨o', ho, rfl⟩ := h
   obtain ⟨h1, h2⟩ := ins_sorted hp.2 ho
   refine ⟨List.Pairwise.cons (fun y hy => ?_) h1, fun y hy => ?_⟩
   ·rcases h2 y hy with e | ⟨z, hz, e⟩
    ·have := (cmpRow_key e (c := x)).2; omega
    ·have := (cmpRow_key e (c := x)).2
     have h3 := hp.1 z hz
     omega
   ·rcases List.mem_cons.1 hy with rfl | hy
    ·exact .inr ⟨y, List.mem_cons_self .., cmpRow_self _⟩
    ·rcases h2 y hy with e | ⟨z, hz, e⟩
     ·exact .inl e
     ·exact .inr ⟨z, List.mem_cons_of_mem _ hz, e⟩
  ·rw [ins_eq hv, Option.map_eq_some_iff] at h
   obtain ⟨j, hj, rfl⟩ := h
   have hk := joinO_key hj
   refine ⟨List.Pairwise.cons (fun y hy => by rw [(hk y).1]; exact hp.1 y hy) hp.2, fun y hy => ?_⟩
   rcases List.mem_cons.1 hy with rfl | hy
   ·exact .inl (by rw [(hk r).1]; exact hv)
   ·exact .inr ⟨y, List.mem_cons_of_mem _ hy, cmpRow_self _⟩
  ·rw [ins_gt (by omega)] at h
   obtain rfl := Option.some.inj h
   have hr : cmpRow r x < 0 := by rw [cmpRow_swap]; omega
   refine ⟨List.Pairwise.cons (fun y hy => ?_) (List.Pairwise.cons hp.1 hp.2), fun y hy => ?_⟩
   ·rcases List.mem_cons.1 hy with rfl | hy
    ·exact hr
    ·exact cmpRow_trans hr (hp.1 y hy)
   ·rcases List.mem_cons.1 hy with rfl | hy
    ·exact .inl (cmpRow_self _)
    ·exact .inr ⟨y, hy, cmpRow_self _⟩
theorem gt_lt {x b : Row} (h : 0 < cmpRow x b) : cmpRow b x < 0 := by rw [cmpRow_swap]; omega
theorem lt_gt {x b : Row} (h : cmpRow x b < 0) : 0 < cmpRow b x := by rw [cmpRow_swap]; omega
theorem ins_comm1 {x a b : Row} {t : List Row} (h1 : cmpRow x a < 0) (h2 : cmpRow x b = 0) : (ins (x :: t) a).bind (ins · b) = (ins (x :: t) b).bind (ins · a) := by
 rw [ins_lt h1, ins_eq h2]
 cases ha : ins t a with
 | none =>
  cases hj : joinO x b with
  | none => rfl
  | some j => simp only [Option.map_some, Option.map_none, Option.bind_none, Option.bind_some]; rw [ins_lt (by rw [(joinO_key hj a).1]; exact h1), ha]; rfl
 | some o =>
  cases hj : joinO x b with
  | none => simp only [Option.map_some, Option.map_none, Option.bind_none, Option.bind_some]; rw [ins_eq h2, hj]; rfl
  | some j => simp only [Option.map_some, Option.bind_some]; rw [ins_eq h2, hj, ins_lt (by rw [(joinO_key hj a).1]; exact h1), ha]; rfl
theorem ins_comm2 {x a b : Row} {t : List Row} (h1 : cmpRow x a < 0) (h2 : 0 < cmpRow x b) : (ins (x :: t) a).bind (ins · b) = (ins (x :: t) b).bind (ins · a) := by
 rw [ins_gt h2, Option.bind_some, ins_lt (cmpRow_trans (gt_lt h2) h1), ins_lt h1]
 cases ha : ins t a with
 | none => rfl
 | some o => simp only [Option.map_some, Option.bind_some]; rw [ins_gt h2]
theorem ins_comm3 {x a b : Row} {t : List Row} (h1 : cmpRow x a = 0) (h2 : 0 < cmpRow x b) : (ins (x :: t) a).bind (ins · b) = (ins (x :: t) b).bind (ins · a) := by
 have hba : cmpRow b a < 0 := by have := (cmpRow_key h1 (c := b)).2; have := gt_lt h2; omega
 rw [ins_gt h2, Option.bind_some, ins_lt hba, ins_eq h1]
 cases hj : joinO x a with
 | none => rfl
 | some j => simp only [Option.map_some, Option.bind_some]; rw [ins_gt (by rw [(joinO_key hj b).1]; exact h2)]
theorem ins_comm : ∀ (l : List Row) {a b : Row}, cmpRow a b ≠ 0 → (ins l a).bind (ins · b) = (ins l b).bind (ins · a)
 | [], a, b, h => by
  have hv := cmpRow_vals a b
  have hs := cmpRow_swap a b
  show ins [a] b = ins [b] a
  rcases hv with hv | hv | hv
  ·rw [ins_lt (by omega), ins_gt (by omega)]; rfl
  ·exact absurd hv h
  ·rw [ins_gt (by omega), ins_lt (by omega)]; rfl
 | x :: t, a, b, h => by
  rcases Int.lt_trichotomy (cmpRow x a) 0 with h1 | h1 | h1
  ·rcases Int.lt_trichotomy (cmpRow x b) 0 with h2 | h2 | h2
   ·have ih := ins_comm t h
    rw [ins_lt h1, ins_lt h2]
    have e : ∀ (u : Option (List Row)) (c : Row), cmpRow x c < 0 → (u.map (x :: ·)).bind (ins · c) = (u.bind (ins · c)).map (x :: ·) := fun u c hc => by
     cases u with
     | none => rfl
     | some o => exact ins_lt hc
    rw [e _ _ h2, e _ _ h1, ih]
   ·exact ins_comm1 h1 h2
   ·exact ins_comm2 h1 h2
  ·rcases Int.lt_trichotomy (cmpRow x b) 0 with h2 | h2 | h2
   ·exact (ins_comm1 h2 h1).symm
   ·exact absurd (by have := (cmpRow_key h1 (c := b)).1; omega) h
   ·exact ins_comm3 h1 h2
  ·rcases Int.lt_trichotomy (cmpRow x b) 0 with h2 | h2 | h2
   ·exact (ins_comm2 h2 h1).symm
   ·exact (ins_comm3 h2 h1).symm
   ·rw [ins_gt h1, ins_gt h2, Option.bind_some, Option.bind_some]
    have hv := cmpRow_vals a b
    have hs := cmpRow_swap a b
    rcases hv with hv | hv | hv
    ·rw [ins_lt (by omega), ins_gt h2, ins_gt (by omega)]; rfl
    ·exact absurd hv h
    ·rw [ins_gt (by omega), ins_lt (by omega), ins_gt h1]; rfl
inductive Stab : List Row → List Row → Prop
 | refl (l : List Row) : Stab l l
 | cons {l m : List Row} (a : Row) (h : Stab l m) : Stab (a :: l) (a :: m)
 | swap {a b : Row} (l : List Row) (h : cmpRow a b ≠ 0) : Stab (a :: b :: l) (b :: a :: l)
 | trans {l m n : List Row} (h : Stab l m) (k : Stab m n) : Stab l n
theorem foldI_stab {l m : List Row} (h : Stab l m) : ∀ out, foldI out l = foldI out m := by
 induction h with
 | refl l => intro out; rfl
 | cons a h ih => intro out; simp only [foldI]; congr 1; funext o; exact ih o
 | @swap a b l h =>
  intro out
  simp only [foldI]
  have e := ins_comm out h
  have e2 := congrArg (fun u => u.bind fun o => foldI o l) e
  simpa only [Option.bind_assoc] using e2
 | trans h k i1 i2 => intro out; exact (i1 out).trans (i2 out)
theorem Stab.front {s : Row} : ∀ {l1 l2 : List Row}, (∀ t ∈ l1, cmpRow t s ≠ 0) → Stab (l1 ++ s :: l2) (s :: (l1 ++ l2))
 | [], l2, _ => Stab.refl _
 | t :: l1, l2, h => Stab.trans (Stab.cons t (Stab.front (fun u hu => h u (List.mem_cons_of_mem _ hu)))) (Stab.swap _ (h t (List.mem_cons_self ..)))
theorem first_mem : ∀ {T : List TR} {s : TR}, s ∈ T → ∃ T1 T2, T = T1 ++ s :: T2 ∧ s ∉ T1
 | t :: T, s, h => by
  by_cases e : t = s
  ·exact ⟨[], T, by rw [e]; rfl, by simp⟩
  ·rcases List.mem_cons.1 h with h | h
   ·exact absurd h.symm e
   ·obtain ⟨T1, T2, rfl, hn⟩ := first_mem h
    exact ⟨t :: T1, T2, rfl, fun h2 => by rcases List.mem_cons.1 h2 with h2 | h2; exact e h2.symm; exact hn h2⟩
theorem stab_sort : ∀ (S T : List TR), S.Perm T → S.Pairwise leT → T.Pairwise (fun a b => cmpRow a.1 b.1 = 0 → a.2 ≤ b.2) → (∀ a ∈ T, ∀ b ∈ T, cmpRow a.1 b.1 = 0 → a.2 = b.2 → a = b) → Stab (T.map (·.1)) (S.map (·.1))
 | [], T, hp, _, _, _ => by
  have := hp.symm.eq_nil
  subst this
  exact Stab.refl _
 | s :: S, T, hp, hs, ho, hu => by
  have hsT : s ∈ T := hp.mem_iff.1 (List.mem_cons_self ..)
  obtain ⟨T1, T2, rfl, hn⟩ := first_mem hsT
  have hp2 : S.Perm (T1 ++ T2) := by
   have : (s :: S).Perm (s :: (T1 ++ T2)) := hp.trans List.perm_middle
   exact this.cons_inv
  rw [List.pairwise_cons] at hs
  have ho' := List.pairwise_append.1 ho
  have hd : ∀ t ∈ T1, cmpRow t.1 s.1 ≠ 0 := fun t ht hz => by
   have h1 := ho'.2.2 t ht s (List.mem_cons_self ..) hz
   have h2 : leT s t := hs.1 t (hp2.mem_iff.2 (List.mem_append_left _ ht))
   have h3 : s.2 ≤ t.2 := by
    have := cmpRow_swap t.1 s.1
    rcases h2 with h2 | h2
    ·omega
    ·exact h2.2
   exact hn ((hu t (List.mem_append_left _ ht) s hsT hz (by omega)) ▸ ht)
  have ih := stab_sort S (T1 ++ T2) hp2 hs.2
   (List.pairwise_append.2 ⟨ho'.1, (List.pairwise_cons.1 ho'.2.1).2, fun a ha b hb => ho'.2.2 a ha b (List.mem_cons_of_mem _ hb)⟩)
   (fun a ha b hb => hu a (by rcases List.mem_append.1 ha with h | h; exact List.mem_append_left _ h; exact List.mem_append_right _ (List.mem_cons_of_mem _ h)) b (by rcases List.mem_append.1 hb with h | h; exact List.mem_append_left _ h; exact List.mem_append_right _ (List.mem_cons_of_mem _ h)))
  rw [List.map_append, List.map_cons, List.map_cons]
  refine Stab.trans (Stab.front (fun u hu2 => ?_)) (Stab.cons _ (by rw [← List.map_append]; exact ih))
  obtain ⟨t, ht, rfl⟩ := List.mem_map.1 hu2
  exact hd t ht
theorem ins_last : ∀ {o : List Row} {x r : Row}, (∀ y ∈ o, cmpRow y r < 0) → ins (o ++ [x]) r = (ins [x] r).map (o ++ ·)
 | [], x, r, _ => by rw [List.nil_append]; cases ins [x] r <;> rfl
 | y :: o, x, r, h => by
  rw [List.cons_append, ins_lt (h y (List.mem_cons_self ..)), ins_last (fun z hz => h z (List.mem_cons_of_mem _ hz))]
  cases ins [x] r <;> rfl
theorem joinE_len {a b : Row} (h : cmpRow a b = 0) (hl : a.f3.length = b.f3.length) : (joinE a b).2 = 0 ∧ (joinE a b).1.f3.length = a.f3.length ∨ (joinE a b).2 = 121 := by
 unfold joinE
 rw [if_pos ⟨h, hl⟩]
 split
 ·exact .inr rfl
 ·cases hj : joinAs a.f3 b.f3 with
  | none => exact .inr rfl
  | some l => exact .inl ⟨rfl, joinAs_length hl hj⟩
theorem foldE_foldI (m : Nat) : ∀ (ts : List TR) (out : List Row), ts.Pairwise leT → out.Pairwise (fun a b => cmpRow a b < 0) → (∀ o ∈ out, ∀ t ∈ ts, cmpRow o t.1 ≤ 0) → (∀ o ∈ out, o.f3.length = m) → (∀ t ∈ ts, t.1.f3.length = m) →
  foldE out ts = match foldI out (ts.map (·.1)) with | some o => (o, 0) | none => ([], 121)
 | [], out, _, _, _, _, _ => rfl
 | t :: ts, out, hs, hp, hle, hm, hmt => by
  rw [List.pairwise_cons] at hs
  have hnext : ∀ u ∈ ts, cmpRow t.1 u.1 ≤ 0 := fun u hu => by
   rcases hs.1 u hu with h | h <;> omega
  rcases List.eq_nil_or_concat out with rfl | ⟨o, x, rfl⟩
  ·rw [foldE, if_pos (.inl rfl), List.map_cons, foldI]
   exact foldE_foldI m ts [t.1] hs.2 (by simp) (fun y hy u hu => by rw [List.mem_singleton.1 hy]; exact hnext u hu) (fun y hy => by rw [List.mem_singleton.1 hy]; exact hmt t (List.mem_cons_self ..)) (fun u hu => hmt u (List.mem_cons_of_mem _ hu))
  ·rw [List.concat_eq_append] at hp hle hm ⊢
   have hp' := List.pairwise_append.1 hp
   have hxo : ∀ y ∈ o, cmpRow y x < 0 := fun y hy => hp'.2.2 y hy x (by simp)
   have hx := hle x (by simp) t (List.mem_cons_self ..)
   have hlast : (o ++ [x]).getD ((o ++ [x]).length - 1) z39 = x := by simp
   have hy : ∀ y ∈ o, cmpRow y t.1 < 0 := fun y h => by
    have h1 := hxo y h
    rcases Int.lt_or_le (cmpRow x t.1) 0 with h2 | h2
    ·exact cmpRow_trans h1 h2
    ·have := (cmpRow_key (show cmpRow x t.1 = 0 by omega) (c := y)).2; omega
   rw [foldE, hlast, List.map_cons, foldI, ins_last hy]
   by_cases hz : cmpRow x t.1 = 0
   ·rw [if_neg (by simp [hz]), ins_eq hz]
    have hl := joinE_len hz ((hm x (by simp)).trans (hmt t (List.mem_cons_self ..)).symm)
    rcases hl with ⟨h0, h1⟩ | h0
    ·have hj : joinO x t.1 = some (joinE x t.1).1 := by unfold joinO; rw [if_pos h0]
     rw [if_pos h0, hj]
     have hset : (o ++ [x]).set ((o ++ [x]).length - 1) (joinE x t.1).1 = o ++ [(joinE x t.1).1] := by simp
     rw [hset]
     have hk := joinO_key hj
     have ih := foldE_foldI m ts (o ++ [(joinE x t.1).1]) hs.2 (List.pairwise_append.2 ⟨hp'.1, by simp, fun y h z hz2 => by rw [List.mem_singleton.1 hz2, (hk y).2]; exact hxo y h⟩)
      (fun y h u hu => by
       rcases List.mem_append.1 h with h | h
       ·exact hle y (List.mem_append_left _ h) u (List.mem_cons_of_mem _ hu)
       ·rw [List.mem_singleton.1 h, (hk u.1).1]; exact hle x (by simp) u (List.mem_cons_of_mem _ hu))
      (fun y h => by
       rcases List.mem_append.1 h with h | h
       ·exact hm y (List.mem_append_left _ h)
       ·rw [List.mem_singleton.1 h, h1]; exact hm x (by simp)) (fun u hu => hmt u (List.mem_cons_of_mem _ hu))
     exact ih
    ·rw [if_neg (by omega), h0]
     have hj : joinO x t.1 = none := by unfold joinO; rw [if_neg (by omega)]
     rw [hj]; rfl
   ·have hlt : cmpRow x t.1 < 0 := by omega
    rw [if_pos (.inr hz), ins_lt hlt]
    have ih := foldE_foldI m ts (o ++ [x] ++ [t.1]) hs.2 (List.pairwise_append.2 ⟨hp, by simp, fun y h z hz2 => by
       rw [List.mem_singleton.1 hz2]
       rcases List.mem_append.1 h with h | h
       ·exact hy y h
       ·rw [List.mem_singleton.1 h]; exact hlt⟩)
      (fun y h u hu => by
       rcases List.mem_append.1 h with h | h
       ·exact hle y h u (List.mem_cons_of_mem _ hu)
       ·rw [List.mem_singleton.1 h]; exact hnext u hu)
      (fun y h => by
       rcases List.mem_append.1 h with h | h
       ·exact hm y h
       ·rw [List.mem_singleton.1 h]; exact hmt t (List.mem_cons_self ..)) (fun u hu => hmt u (List.mem_cons_of_mem _ hu))
    rw [ih]
    simp [ins]
end Go.Proofs.Ytdeeffahfkndkaa.P
namespace Go.Proofs.Ytdeeffahfkndkaa.P
open Go.RowKit Go.Proofs.YtdeeffahfkndkaaW.PrintWords Go.Proofs.YtdeeffahfkndkaaW.PrintLast Go.Proofs.YtdeeffahfkndkaaW.PrintMore
set_option linter.unusedVariables false
set_option linter.unusedSimpArgs false
theorem tags_begun : ∀ (l : List (List Row)) (i : Nat), (tags (begunC i l)).map (·.1) = l.flatten
 | [], i => rfl
 | x :: t, i => by
  have ih := tags_begun t (i + 1)
  unfold begunC
  split
  ·rename_i h; subst h; simpa [tags] using ih
  ·simp only [tags, List.flatMap_append, List.flatMap_cons, List.flatMap_nil, List.append_nil, List.map_append, List.flatten_cons] at ih ⊢
   rw [ih]
   have e : ∀ y : List Row, (y.map fun r => (r, (i : Int))).map (·.1) = y := fun y => by induction y with
    | nil => rfl
    | cons a y ih => rw [List.map_cons, List.map_cons, ih]
   rw [show tagC ⟨x, (i : Int)⟩ = x.map fun r => (r, (i : Int)) from rfl, e]
theorem tags_order : ∀ (l : List (List Row)) (i : Nat), l.all sortedR = true → (tags (begunC i l)).Pairwise (fun a b => cmpRow a.1 b.1 = 0 → a.2 ≤ b.2) ∧ ∀ t ∈ tags (begunC i l), (i : Int) ≤ t.2
 | [], i, _ => by simp [tags, begunC]
 | x :: t, i, h => by
  have h' : t.all sortedR = true := by simp only [List.all_cons, Bool.and_eq_true] at h; exact h.2
  obtain ⟨h1, h2⟩ := tags_order t (i + 1) h'
  unfold begunC
  split
  ·exact ⟨by simpa [tags] using h1, fun u hu => by have := h2 u (by simpa [tags] using hu); omega⟩
  ·have e : tags ([⟨x, (i : Int)⟩] ++ begunC (i + 1) t) = x.map (fun r => (r, (i : Int))) ++ tags (begunC (i + 1) t) := by simp [tags, tagC]
   rw [e]
   refine ⟨List.pairwise_append.2 ⟨?_, h1, fun a ha b hb _ => ?_⟩, fun u hu => ?_⟩
   ·rw [List.pairwise_map]
    exact List.Pairwise.imp (fun _ => fun _ => Int.le_refl _) (sortedR_pairwise (by simp only [List.all_cons, Bool.and_eq_true] at h; exact h.1))
   ·obtain ⟨r, hr, rfl⟩ := List.mem_map.1 ha
    have := h2 b hb
    show (i : Int) ≤ b.2
    omega
   ·rcases List.mem_append.1 hu with hu | hu
    ·obtain ⟨r, hr, rfl⟩ := List.mem_map.1 hu
     exact Int.le_refl _
    ·have := h2 u hu; omega
theorem listsE_fold {l : List (List Row)} (h : l.all sortedR = true) (m : Nat) (hm : ∀ r ∈ l.flatten, r.f3.length = m) : listsE l = match foldI [] l.flatten with | some o => (o, 0) | none => ([], 121) := by
 unfold listsE
 rw [if_pos h]
 have hg := begun_good h (List.Perm.refl (begunC 0 l))
 have hst := stab_sort (sortT (tags (begunC 0 l))) (tags (begunC 0 l)) (sortT_perm _) (sortT_sorted _) (tags_order l 0 h).1 (fun a ha b hb hz he => tags_anti hg ha hb (.inr ⟨hz, by omega⟩) (.inr ⟨by rw [cmpRow_swap]; omega, by omega⟩))
 rw [foldE_foldI m _ [] (sortT_sorted _) List.Pairwise.nil (fun o ho => by simp at ho) (fun o ho => by simp at ho) (fun t ht => hm _ (by rw [← tags_begun l 0]; exact List.mem_map.2 ⟨t, (sortT_perm _).mem_iff.1 ht, rfl⟩)), ← foldI_stab hst, tags_begun]
 try (cases foldI [] l.flatten <;> rfl)
end Go.Proofs.Ytdeeffahfkndkaa.P
namespace Go.Proofs.Ytdeeffahfkndkaa.P
open Go.RowKit Go.Proofs.YtdeeffahfkndkaaW.PrintWords Go.Proofs.YtdeeffahfkndkaaW.PrintLast Go.Proofs.YtdeeffahfkndkaaW.PrintMore
set_option linter.unusedVariables false
set_option linter.unusedSimpArgs false
def hasKey (r : Row) (l : List Row) : Bool := l.any fun s => cmpRow r s == 0
def keysN : List Row → Nat
 | [] => 0
 | r :: t => (if hasKey r t = true then 0 else 1) + keysN t
def runsN : List Row → Nat
 | a :: b :: t => (if cmpRow a b = 0 then 0 else 1) + runsN (b :: t)
 | [_] => 1
 | [] => 0
theorem cmp_zero_swap {a b : Row} : cmpRow a b = 0 ↔ cmpRow b a = 0 := by rw [cmpRow_swap a b]; omega
theorem hasKey_iff {r : Row} {l : List Row} : hasKey r l = true ↔ ∃ s ∈ l, cmpRow r s = 0 := by simp [hasKey]
theorem hasKey_perm {r : Row} {l l' : List Row} (h : l.Perm l') : hasKey r l = hasKey r l' := by
 rw [Bool.eq_iff_iff, hasKey_iff, hasKey_iff]
 constructor
 ·rintro ⟨s, hs, e⟩; exact ⟨s, h.mem_iff.1 hs, e⟩
 ·rintro ⟨s, hs, e⟩; exact ⟨s, h.mem_iff.2 hs, e⟩
theorem hasKey_key {r r' : Row} {l : List Row} (h : cmpRow r r' = 0) : hasKey r l = hasKey r' l := by
 unfold hasKey
 congr 1
 funext s
 rw [(cmpRow_key h (c := s)).1]
theorem keysN_perm {l l' : List Row} (h : l.Perm l') : keysN l = keysN l' := by
 induction h with
 | nil => rfl
 | cons x h ih => rw [keysN, keysN, hasKey_perm h, ih]
 | swap x y l =>
  simp only [keysN]
  have e1 : hasKey y (x :: l) = (cmpRow y x == 0 || hasKey y l) := rfl
  have e2 : hasKey x (y :: l) = (cmpRow x y == 0 || hasKey x l) := rfl
  rw [e1, e2]
  by_cases hz : cmpRow y x = 0
  ·have hz' := cmp_zero_swap.1 hz
   rw [hasKey_key hz, show (cmpRow y x == 0) = true by simp [hz], show (cmpRow x y == 0) = true by simp [hz'], Bool.true_or]
  ·have hz' : ¬ cmpRow x y = 0 := fun h => hz (cmp_zero_swap.1 h)
   rw [show (cmpRow y x == 0) = false by simp [hz], show (cmpRow x y == 0) = false by simp [hz'], Bool.false_or, Bool.false_or]
   omega
 | trans _ _ i1 i2 => exact i1.trans i2
theorem runs_keys : ∀ {l : List Row}, l.Pairwise (fun a b => ¬ cmpRow b a < 0) → runsN l = keysN l
 | [], _ => rfl
 | [a], _ => rfl
 | a :: b :: t, h => by
  rw [runsN, runs_keys (List.Pairwise.of_cons h), keysN]
  congr 1
  by_cases hz : cmpRow a b = 0
  ·rw [if_pos hz, if_pos (hasKey_iff.2 ⟨b, List.mem_cons_self .., hz⟩)]
  ·rw [if_neg hz, if_neg]
   rw [hasKey_iff]
   rintro ⟨s, hs, e⟩
   have hab : cmpRow a b < 0 := by
    have h1 := List.rel_of_pairwise_cons h (List.mem_cons_self ..)
    have h2 := cmpRow_swap a b
    omega
   rcases List.mem_cons.1 hs with rfl | hs
   ·exact hz e
   ·have h1 := List.rel_of_pairwise_cons (List.Pairwise.of_cons h) hs
    have h3 := (cmpRow_key e (c := b)).1
    omega
end Go.Proofs.Ytdeeffahfkndkaa.P
namespace Go.Proofs.Ytdeeffahfkndkaa.P
open Go.RowKit Go.Proofs.YtdeeffahfkndkaaW.PrintWords Go.Proofs.YtdeeffahfkndkaaW.PrintLast Go.Proofs.YtdeeffahfkndkaaW.PrintMore
set_option linter.unusedVariables false
set_option linter.unusedSimpArgs false
set_option maxHeartbeats 8000000 in
set_option maxRecDepth 100000 in
theorem unsorted_calls (w : World) (A : Option Addr) (c : Nat) (x : List Row) (hC : Kd.C k39 w A x.length x) (hc : x.length ≤ c) (hok : rows_Copy.ok x = true) :
  Calls Try.prog 24 #[.slice A x.length c] w fun e w' => e = .returned (.bool (!sortedR x)) ∧ Below w.heap.size w w' := by
 obtain ⟨ro, rl⟩ := copyOk_rows hok
 obtain ⟨k, hk⟩ := (sorted_ev x ro rl).rounds
 have HC := Z0.mk hC
 have HK := Z0.mk hk
 clear hC hk ro
 generalize sortedR x = b at HK ⊢
 go_enter Try.func24, Try.ntmps24
 go_wp2_with (go_at_call 25; refine (rows_Sorted.calls k A c x b _ HC.out hc HK.out).mono ?_; rintro e w1 ⟨rfl, hbs⟩)
 go_ret
 exact ⟨by simp, hbs⟩
set_option maxHeartbeats 8000000 in
set_option maxRecDepth 100000 in
theorem index_calls (w : World) (A : Option Addr) (c : Nat) (l : List (List Row)) (hC : Kd.C (Kd.slice 39 k39) w A l.length l) (hc : l.length ≤ c) (hok : ListsOk l) :
  Calls Try.prog 46 #[.slice A l.length c, .func (.func 24) #[] #[]] w fun e w' => ∃ j : Int, e = .returned (.int .i64 j) ∧ (l.all sortedR = true → j = -1) ∧ (¬ l.all sortedR = true → 0 ≤ j) ∧ Below w.heap.size w w' := by
 have HC := Z0.mk hC
 have HOK := Z0.mk hok
 have hlen : l.length < 1099511627776 := hok.1
 clear hC hok
 go_enter Try.func46, Try.ntmps46
 go_wp2
 go_loopg [8] (l.length + 1) (fun kq1 v8 w' => ∃ i : Nat, v8 = .int .i64 (i : Int) ∧ l.length < kq1 + i ∧ i ≤ l.length ∧ Z0 ((l.take i).all sortedR = true ∧ Below w.heap.size w w'))
 case atStart => exact ⟨0, rfl, by omega, Nat.zero_le _, ⟨by simp, Below.refl _ _⟩⟩
 case round =>
  obtain ⟨i, rfl, hik, hil, HI⟩ := hrel
  cases gk with
  | zero => exact absurd hik (by omega)
  | succ k1 =>
   by_cases hlt : i < l.length
   ·obtain ⟨ad, A0, c0, rfl, hcell, hle, hx⟩ := at_L6 (Kd.C_below HC.out HI.out.2) (i : Int) (by omega) (by omega)
    have hb1 : decide ((i : Int) < (l.length : Int)) = true := decide_eq_true (by omega)
    have er : rd_L6 l (i : Int) = l[i] := by simp [rd_L6, List.getElem?_eq_getElem hlt]
    rw [er] at hcell hle hx
    rw [Int.toNat_natCast] at hcell
    have hmem : l[i] ∈ l := List.getElem_mem _
    have htk : l.take (i + 1) = l.take i ++ [l[i]] := by rw [List.take_append_getElem]
    generalize l[i] = x at hcell hle hx hmem htk
    have HX := Z0.mk hx
    have HM := Z0.mk hmem
    have HT := Z0.mk htk
    clear hx er hmem htk
    cases hsx : sortedR x with
    | false =>
     go_wp2_with (go_at_call 24; refine (unsorted_calls _ A0 c0 x HX.out hle (HOK.out.2 x HM.out)).mono ?_; rw [hsx]; rintro e w1 ⟨rfl, hbs⟩)
     go_ret
     refine ⟨(i : Int), rfl, fun h => ?_, fun _ => Int.natCast_nonneg i, below_then HI.out.2 hbs⟩
     rw [List.all_eq_true] at h
     rw [h x HM.out] at hsx
     cases hsx
    | true =>
     go_wp2_with (go_at_call 24; refine (unsorted_calls _ A0 c0 x HX.out hle (HOK.out.2 x HM.out)).mono ?_; rw [hsx]; rintro e w1 ⟨rfl, hbs⟩)
     go_roundg k1
     case measure => exact Nat.lt_succ_self _
     case rel => exact ⟨i + 1, rfl, by omega, by omega, ⟨by rw [HT.out, List.all_append, HI.out.1]; simp [hsx], below_then HI.out.2 hbs⟩⟩
   ·obtain rfl : i = l.length := by omega
    have hb1 : decide (((l.length : Nat) : Int) < (l.length : Int)) = false := decide_eq_false (by omega)
    go_wp2
    go_ret
    have hI := HI.out
    rw [List.take_length] at hI
    exact ⟨-1, rfl, fun _ => rfl, fun h => absurd hI.1 h, hI.2⟩
set_option maxHeartbeats 8000000 in
set_option maxRecDepth 100000 in
theorem contains_calls (w : World) (A : Option Addr) (c : Nat) (l : List (List Row)) (hC : Kd.C (Kd.slice 39 k39) w A l.length l) (hc : l.length ≤ c) (hok : ListsOk l) :
  Calls Try.prog 23 #[.slice A l.length c, .func (.func 24) #[] #[]] w fun e w' => e = .returned (.bool (!l.all sortedR)) ∧ Below w.heap.size w w' := by
 have HI := Z0.mk (index_calls w A c l hC hc hok)
 generalize hb : l.all sortedR = b at HI ⊢
 clear hb hC hc hok
 go_enter Try.func23, Try.ntmps23
 go_wp2_with (go_at_call 46; refine HI.out.mono ?_; rintro e w1 ⟨j, rfl, h1, h2, hb⟩)
 go_ret
 refine ⟨?_, hb⟩
 cases b with
 | true => rw [h1 rfl]; rfl
 | false =>
  have := h2 (by decide)
  simp [this]
end Go.Proofs.Ytdeeffahfkndkaa.P
namespace Go.Proofs.Ytdeeffahfkndkaa.P
open Go.RowKit Go.Proofs.YtdeeffahfkndkaaW.PrintWords Go.Proofs.YtdeeffahfkndkaaW.PrintLast Go.Proofs.YtdeeffahfkndkaaW.PrintMore
set_option linter.unusedVariables false
set_option linter.unusedSimpArgs false
def ListsB (l : List (List Row)) : Bool := decide (l.length < 1099511627776) && decide ((l.map (·.length)).sum < 1099511627776) && l.all fun x => rows_Copy.ok x
def merge_Lists.f (l : List (List Row)) : Option (List Row × Int) := if ListsB l = true then some (listsE l) else none
theorem listsB_ok {l : List (List Row)} (h : ListsB l = true) : ListsOk l ∧ (l.map (·.length)).sum < 1099511627776 := by
 simp only [ListsB, Bool.and_eq_true, decide_eq_true_eq, List.all_eq_true] at h
 exact ⟨⟨h.1.1, h.2⟩, h.1.2⟩
structure LI (w : World) (r1 : List Row) (r2 : Int) (B : Nat) (cs : List Cur) (out : List Row) (A : Option Addr) (c : Nat) (w' : World) : Prop where
 hs : HS w' w.heap.size (fun k => True ∧ some k ≠ (Value.slice A out.length c).ownBlock) B cs
 row : k39.R 39 w' w.heap.size (fun _ => True) (.slice A out.length c) out
 hp : HeapP cs cs.length
 good : Good cs
 fit : ∀ a ∈ cs, a.f0 ≠ [] ∧ ∀ r ∈ a.f0, RowFit r
 fito : ∀ r ∈ out, RowFit r
 ans : foldE out (sortT (tags cs)) = (r1, r2)
 few : (tags cs).length + out.length < 1099511627776
 below : Below w.heap.size w w'
theorem tags_length : ∀ {cs : List Cur}, (∀ a ∈ cs, a.f0 ≠ []) → cs.length ≤ (tags cs).length
 | [], _ => Nat.zero_le _
 | a :: t, h => by
  have h1 := tags_length (cs := t) (fun b hb => h b (List.mem_cons_of_mem _ hb))
  have h2 := List.length_pos_iff.2 (h a (List.mem_cons_self ..))
  simp only [tags, List.flatMap_cons, List.length_append, List.length_cons] at h1 ⊢
  have h3 : (tagC a).length = a.f0.length := by simp [tagC]
  omega
theorem LI.cur {w : World} {r1 : List Row} {r2 : Int} {B : Nat} {cs : List Cur} {out : List Row} {A : Option Addr} {c : Nat} {w' : World} (h : LI w r1 r2 B cs out A c w') : (∀ a ∈ cs, CurOk a) ∧ cs.length < 1099511627776 :=
 ⟨fun a ha => ⟨(h.fit a ha).1, fun r hr => by have := ((h.fit a ha).2 r hr).1; omega⟩, by have := tags_length (fun a ha => (h.fit a ha).1); have := h.few; omega⟩
theorem begun_sum : ∀ (l : List (List Row)) (i : Nat), (tags (begunC i l)).length = (l.map (·.length)).sum
 | [], i => rfl
 | x :: t, i => by
  have ih := begun_sum t (i + 1)
  unfold begunC
  split
  ·rename_i h; subst h; simpa [tags] using ih
  ·simp only [tags, List.flatMap_append, List.flatMap_cons, List.flatMap_nil, List.append_nil, List.length_append, List.map_cons, List.sum_cons] at ih ⊢
   rw [ih]
   simp [tagC]
theorem LI_start {w w1 : World} {l0 : List (List Row)} {r1 : List Row} {r2 : Int} {B : Nat} {cs : List Cur} (hok : ListsOk l0) (hsum : (l0.map (·.length)).sum < 1099511627776) (ha : listsE l0 = (r1, r2)) (hs : l0.all sortedR = true) (hb : Below w.heap.size w w1) (hS : HS w1 w.heap.size (fun _ => True) B cs) (hP : cs.Perm (begunC 0 l0)) (hH : HeapP cs cs.length) :
  LI w r1 r2 B cs [] none 0 w1 where
 hs := HS_mono hS (fun k hk => ⟨trivial, by simp [Value.ownBlock]⟩)
 row := Kd.R_nil _ _ _ _ _
 hp := hH
 good := begun_good hs hP
 fit := fun a h => by
  obtain ⟨h1, h2⟩ := begunC_mem l0 0 a (hP.mem_iff.1 h)
  refine ⟨h1, fun r hr => ?_⟩
  have := hok.2 _ h2
  simp only [rows_Copy.ok, Bool.and_eq_true, decide_eq_true_eq, List.all_eq_true] at this
  exact this.2 r hr
 fito := fun r h => by simp at h
 ans := by rw [sortT_begun hs hP]; unfold listsE at ha; rw [if_pos hs] at ha; exact ha
 few := by rw [(tags_perm hP).length_eq, begun_sum]; simpa using hsum
 below := hb
structure Mid (w : World) (B : Nat) (cs : List Cur) (out : List Row) (A : Option Addr) (c : Nat) (r : Row) (A1 : Option Addr) (c1 : Nat) (A3 : Option Addr) (c3 : Nat) (R : Nat) (W : World) : Prop where
 hs : HS W w.heap.size (fun k => True ∧ some k ≠ (Value.slice A out.length c).ownBlock) B cs
 row : k39.R 39 W w.heap.size (fun _ => True) (.slice A out.length c) out
 m : k39.M W w.heap.size (fun k => True ∧ some k ≠ (Value.slice A out.length c).ownBlock) r [.int .i64 r.f0, .slice A1 r.f1.length c1, .int .i64 r.f2, .slice A3 r.f3.length c3]
 below : Below w.heap.size w W
 blk : W.heap[R]? = some (.cells #[.int .i64 r.f0, .slice A1 r.f1.length c1, .int .i64 r.f2, .slice A3 r.f3.length c3] 39 (0, 0))
 base : w.heap.size ≤ R
 ne : some R ≠ (Value.slice A out.length c).ownBlock
theorem Mid.to {w : World} {B : Nat} {cs : List Cur} {out : List Row} {A : Option Addr} {c : Nat} {r : Row} {A1 : Option Addr} {c1 : Nat} {A3 : Option Addr} {c3 R : Nat} {W W' : World} (h : Mid w B cs out A c r A1 c1 A3 c3 R W) (hb : Below W.heap.size W W') : Mid w B cs out A c r A1 c1 A3 c3 R W' :=
 ⟨HS_below h.hs hb, Kd.R_below h.row hb, Kd.M_below h.m hb, below_then h.below hb, (hb.block R (blk_lt h.blk)).trans h.blk, h.base, h.ne⟩
def Held (g mo R : Nat) (la : Row) (B1 : Option Addr) (d1 : Nat) (B3 : Option Addr) (d3 : Nat) (r : Row) (A1 : Option Addr) (c1 : Nat) (A3 : Option Addr) (c3 : Nat) (w' : World) : Prop :=
 w'.cell? ⟨g, mo * 4, none⟩ = some (.int .i64 la.f0) ∧ w'.cell? ⟨g, mo * 4 + 1, none⟩ = some (.slice B1 la.f1.length d1) ∧ w'.cell? ⟨g, mo * 4 + 2, none⟩ = some (.int .i64 la.f2) ∧ w'.cell? ⟨g, mo * 4 + 3, none⟩ = some (.slice B3 la.f3.length d3) ∧ w'.cell? ⟨R, 0, none⟩ = some (.int .i64 r.f0) ∧ w'.cell? ⟨R, 1, none⟩ = some (.slice A1 r.f1.length c1) ∧ w'.cell? ⟨R, 2, none⟩ = some (.int .i64 r.f2) ∧ w'.cell? ⟨R, 3, none⟩ = some (.slice A3 r.f3.length c3)
theorem Mid.cells {w : World} {B : Nat} {cs : List Cur} {out : List Row} {A : Option Addr} {c : Nat} {r : Row} {A1 : Option Addr} {c1 : Nat} {A3 : Option Addr} {c3 R : Nat} {W : World} (h : Mid w B cs out A c r A1 c1 A3 c3 R W) {mo : Nat} (hm : out.length = mo + 1) :
  ∃ g B1 d1 B3 d3, A = some ⟨g, 0, none⟩ ∧ g < W.heap.size ∧ (∀ W', Below W.heap.size W W' → Held g mo R (out.getD mo z39) B1 d1 B3 d3 r A1 c1 A3 c3 W') ∧
   (out.getD mo z39).f1.length ≤ d1 ∧ Kd.string.C W B1 (out.getD mo z39).f1.length (out.getD mo z39).f1 ∧ (out.getD mo z39).f3.length ≤ d3 ∧ k71.C W B3 (out.getD mo z39).f3.length (out.getD mo z39).f3 ∧
   r.f1.length ≤ c1 ∧ Kd.string.C W A1 r.f1.length r.f1 ∧ r.f3.length ≤ c3 ∧ k71.C W A3 r.f3.length r.f3 := by
 obtain ⟨g, rfl⟩ : ∃ g, A = some ⟨g, 0, none⟩ := by
  obtain ⟨inner, hown⟩ := Kd.R_own h.row
  obtain ⟨g, cap, e, _, _⟩ := hown.form (by omega)
  injection e with e _ _
  exact ⟨g, e⟩
 obtain ⟨cl, hcl, hM, hcc, hff⟩ := Kd.R_elem h.row z39 (mo : Int) (by omega) (by omega)
 rw [Int.toNat_natCast] at hM hcc
 obtain ⟨v1, v3, rfl, g1, g3⟩ := k39_openM hM
 obtain ⟨B1, d1, rfl⟩ := Kd.R_slice g1
 obtain ⟨B3, d3, rfl⟩ := Kd.R_slice g3
 obtain ⟨u1, u3, eu, f1, f3⟩ := k39_openM h.m
 injection eu with _ eu
 injection eu with e1 eu
 injection eu with _ eu
 injection eu with e3 _
 subst e1
 subst e3
 obtain ⟨_, n1, C1⟩ := Kd.R_reads' g1
 obtain ⟨_, n3, C3⟩ := Kd.R_reads' g3
 obtain ⟨_, m1, D1⟩ := Kd.R_reads' f1
 obtain ⟨_, m3, D3⟩ := Kd.R_reads' f3
 have q0 := hcc 0 _ rfl
 have q1 := hcc 1 _ rfl
 have q2 := hcc 2 _ rfl
 have q3 := hcc 3 _ rfl
 have hg : g < W.heap.size := World.block_lt_of_cell? _ _ q0
 refine ⟨g, B1, d1, B3, d3, rfl, hg, fun W' hb => ?_, n1, C1, n3, C3, m1, D1, m3, D3⟩
 have hR := (hb.block R (blk_lt h.blk)).trans h.blk
 exact ⟨(hb.cell (p := ⟨g, mo * 4, none⟩) hg).trans q0, (hb.cell (p := ⟨g, mo * 4 + 1, none⟩) hg).trans q1, (hb.cell (p := ⟨g, mo * 4 + 2, none⟩) hg).trans q2, (hb.cell (p := ⟨g, mo * 4 + 3, none⟩) hg).trans q3, (bCe hR 0).trans rfl, (bCe hR 1).trans rfl, (bCe hR 2).trans rfl, (bCe hR 3).trans rfl⟩
theorem Mid_start {w : World} {r1 : List Row} {r2 : Int} {B : Nat} {cs cs2 : List Cur} {out : List Row} {A : Option Addr} {c : Nat} {w1 w2 : World} {r : Row} {A1 : Option Addr} {c1 : Nat} {A3 : Option Addr} {c3 : Nat} (hI : LI w r1 r2 B cs out A c w1)
  (hS : HS w2 w.heap.size (fun k => True ∧ some k ≠ (Value.slice A out.length c).ownBlock) B cs2) (hE : Eff w.heap.size (fun k => True ∧ some k ≠ (Value.slice A out.length c).ownBlock) B w1 w2)
  (hM : k39.M w2 w.heap.size (fun k => True ∧ some k ≠ (Value.slice A out.length c).ownBlock) r [.int .i64 r.f0, .slice A1 r.f1.length c1, .int .i64 r.f2, .slice A3 r.f3.length c3]) :
  Mid w B cs2 out A c r A1 c1 A3 c3 w2.heap.size (w2.alloc (.cells #[.int .i64 r.f0, .slice A1 r.f1.length c1, .int .i64 r.f2, .slice A3 r.f3.length c3] 39)) where
 hs := HS_alloc hS _
 row := Kd.R_alloc (hE.R hI.row (by decide)) _
 m := Kd.M_alloc hM _
 below := beA (hE.below hI.below hI.below.size) _
 blk := blk_new _ _
 base := Nat.le_trans hI.below.size hE.size
 ne := fun e => absurd (Kd.R_lt (hE.R hI.row (d := k39) (by decide)) _ e.symm) (Nat.lt_irrefl _)
theorem tail_fit {x : Cur} {rest cs cs2 : List Cur} (hf : ∀ a ∈ cs, a.f0 ≠ [] ∧ ∀ r ∈ a.f0, RowFit r) (hP : (x :: rest).Perm cs) (hP2 : cs2.Perm (tailC x rest)) : ∀ a ∈ cs2, a.f0 ≠ [] ∧ ∀ r ∈ a.f0, RowFit r := fun a ha => by
 have h1 := hP2.mem_iff.1 ha
 unfold tailC at h1
 split at h1
 ·rename_i h2
  rcases List.mem_cons.1 h1 with rfl | h1
  ·have h3 := hf x (hP.mem_iff.1 (List.mem_cons_self ..))
   refine ⟨fun h4 => ?_, fun r hr => h3.2 r (List.mem_of_mem_drop hr)⟩
   have h5 := congrArg List.length h4
   simp only [List.length_drop, List.length_nil] at h5
   omega
  ·exact hf a (hP.mem_iff.1 (List.mem_cons_of_mem _ h1))
 ·exact hf a (hP.mem_iff.1 (List.mem_cons_of_mem _ h1))
theorem LI.step {w : World} {r1 : List Row} {r2 : Int} {B : Nat} {cs cs2 : List Cur} {out : List Row} {A : Option Addr} {c : Nat} {w1 : World} {x : Cur} {rest : List Cur} (hI : LI w r1 r2 B cs out A c w1) (hP : (x :: rest).Perm cs) (hle : ∀ a ∈ cs, leC x a) (hP2 : cs2.Perm (tailC x rest)) :
  foldE out ((hd x, x.f1) :: sortT (tags cs2)) = (r1, r2) ∧ Good cs2 ∧ (∀ a ∈ cs2, a.f0 ≠ [] ∧ ∀ r ∈ a.f0, RowFit r) ∧ (tags cs).length = (tags cs2).length + 1 ∧ RowFit (hd x) := by
 have e := sortT_step hI.good hP (fun a ha => (hI.fit a ha).1) hle hP2
 have h1 := hI.ans
 rw [e] at h1
 refine ⟨h1, (good_tail (hI.good.perm hP.symm)).perm hP2.symm, tail_fit hI.fit hP hP2, ?_, ?_⟩
 ·have h2 := (sortT_perm (tags cs)).length_eq
  rw [e, List.length_cons, (sortT_perm (tags cs2)).length_eq] at h2
  omega
 ·have h3 := hI.fit x (hP.mem_iff.1 (List.mem_cons_self ..))
  exact h3.2 _ (hd_mem ⟨h3.1, fun r hr => by have := (h3.2 r hr).1; omega⟩)
theorem HS_after {w W w1 : World} {B : Nat} {cs : List Cur} {v v1 : Value} {out : List Row} (h : HS W w.heap.size (fun k => True ∧ some k ≠ v.ownBlock) B cs) (hR : k39.R 39 W w.heap.size (fun _ => True) v out) (hg : W.grownBy w1 v.ownBlock) (hat : v1.ownBlock = v.ownBlock ∨ ∃ b, v1.ownBlock = some b ∧ W.heap.size ≤ b) : HS w1 w.heap.size (fun k => True ∧ some k ≠ v1.ownBlock) B cs := by
 obtain ⟨h1, vh, h2, h3⟩ := h
 exact ⟨h1, vh, blk_grown h2 hg (Kd.R_ne hR h2 (by decide)), Kd.R_after h3 hg hat⟩
structure Mid2 (w : World) (B : Nat) (cs : List Cur) (out : List Row) (A : Option Addr) (c : Nat) (l1 : List ByteArray) (l3 : List S71) (v1 v3 : Value) (s : Nat) (W : World) : Prop where
 hs : HS W w.heap.size (fun k => (True ∧ some k ≠ (Value.slice A out.length c).ownBlock) ∧ k ≠ s) B cs
 row : k39.R 39 W w.heap.size (fun k => True ∧ k ≠ s) (.slice A out.length c) out
 x1 : Kd.string.R 9 W w.heap.size (fun k => (True ∧ some k ≠ (Value.slice A out.length c).ownBlock) ∧ k ≠ s) v1 l1
 x3 : k71.R 71 W w.heap.size (fun k => (True ∧ some k ≠ (Value.slice A out.length c).ownBlock) ∧ k ≠ s) v3 l3
 below : Below w.heap.size w W
 xb : W.heap[s]? = some (.cells #[.int .i64 0, .slice none 0 0, .int .i64 0, .slice none 0 0] 39 (0, 0))
 base : w.heap.size ≤ s
section
variable {w : World} {B : Nat} {cs : List Cur} {out : List Row} {A : Option Addr} {c : Nat} {r : Row} {A1 : Option Addr} {c1 : Nat} {A3 : Option Addr} {c3 R : Nat} {W0 w4 w5 : World} {l1 : List ByteArray} {l3 : List S71} {v1 v3 : Value} {s : Nat}
theorem R_new {α : Type} {d : Kd α} {e b0 b : Nat} {W : World} {v u : Value} {xs : List α} {ok : Nat → Prop} (h : d.R e W b0 ok v xs) (hb : b ≤ b0) (hu : ∀ k, u.ownBlock = some k → k < b0) (hs : ∀ k, b0 ≤ k → k < W.heap.size → k ≠ s) : d.R e W b (fun k => (True ∧ some k ≠ u.ownBlock) ∧ k ≠ s) v xs :=
 Kd.R_lower (Kd.R_mono (Kd.R_bound h) (fun k hk => ⟨⟨trivial, fun e => absurd (hu k e.symm) (by have := hk.2.1; omega)⟩, hs k hk.2.1 hk.2.2.1⟩)) hb
theorem Mid2_A (hM : Mid w B cs out A c r A1 c1 A3 c3 R W0) (hb : Below W0.heap.size W0 w4) (x1 : Kd.string.R 9 w4 W0.heap.size (fun _ => True) v1 l1) (x3 : k71.R 71 w4 W0.heap.size (fun _ => True) v3 l3) (hs : s = w4.heap.size)
  (hbox : w5.heap[s]? = some (.cells #[.int .i64 0, .slice none 0 0, .int .i64 0, .slice none 0 0] 39 (0, 0))) (hb5 : Below w4.heap.size w4 w5) : Mid2 w B cs out A c l1 l3 v1 v3 s w5 where
 hs := HS_below (HS_mono (HS_bound (HS_below hM.hs hb)) (fun k hk => ⟨hk.1, by have := hk.2; omega⟩)) hb5
 row := Kd.R_below (Kd.R_mono (Kd.R_bound (Kd.R_below hM.row hb)) (fun k hk => ⟨trivial, by have := hk.2.2.1; omega⟩)) hb5
 x1 := Kd.R_below (R_new x1 hM.below.size (fun k hk => Kd.R_lt hM.row k hk) (fun k h1 h2 => by omega)) hb5
 x3 := Kd.R_below (R_new x3 hM.below.size (fun k hk => Kd.R_lt hM.row k hk) (fun k h1 h2 => by omega)) hb5
 below := below_then (below_then hM.below hb) hb5
 xb := hbox
 base := by rw [hs]; exact Nat.le_trans hM.below.size hb.size
theorem Mid2_B (hM : Mid w B cs out A c r A1 c1 A3 c3 R W0) (hs : s = W0.heap.size) (hbox : w4.heap[s]? = some (.cells #[.int .i64 0, .slice none 0 0, .int .i64 0, .slice none 0 0] 39 (0, 0))) (hb : Below W0.heap.size W0 w4)
  (x1 : Kd.string.R 9 w5 w4.heap.size (fun _ => True) v1 l1) (x3 : k71.R 71 w5 w4.heap.size (fun _ => True) v3 l3) (hb5 : Below w4.heap.size w4 w5) : Mid2 w B cs out A c l1 l3 v1 v3 s w5 where
 hs := HS_below (HS_below (HS_mono (HS_bound hM.hs) (fun k hk => ⟨hk.1, by have := hk.2; omega⟩)) hb) hb5
 row := Kd.R_below (Kd.R_below (Kd.R_mono (Kd.R_bound hM.row) (fun k hk => ⟨trivial, by have := hk.2.2.1; omega⟩)) hb) hb5
 x1 := R_new x1 (Nat.le_trans hM.below.size hb.size) (fun k hk => Nat.lt_of_lt_of_le (Kd.R_lt hM.row k hk) hb.size) (fun k h1 h2 => by have := blk_lt hbox; omega)
 x3 := R_new x3 (Nat.le_trans hM.below.size hb.size) (fun k hk => Nat.lt_of_lt_of_le (Kd.R_lt hM.row k hk) hb.size) (fun k h1 h2 => by have := blk_lt hbox; omega)
 below := below_then (below_then hM.below hb) hb5
 xb := (hb5.block s (blk_lt hbox)).trans hbox
 base := by rw [hs]; exact hM.below.size
end
theorem R_but {α : Type} {d : Kd α} {e b g : Nat} {W W' : World} {v : Value} {xs : List α} {ok : Nat → Prop} (h : d.R e W b ok v xs) (hg : But g W W') (hk : ¬ ok g) : d.R e W' b ok v xs :=
 Kd.R_step h (fun k ho hl => hg.block k hl (fun e => hk (e ▸ ho)))
structure Mid3 (w : World) (B : Nat) (cs : List Cur) (out : List Row) (g c : Nat) (x : Row) (X1 : Option Addr) (e1 : Nat) (X3 : Option Addr) (e3 s : Nat) (W : World) : Prop where
 hs : HS W w.heap.size (fun k => True ∧ some k ≠ (Value.slice (some ⟨g, 0, none⟩) out.length c).ownBlock) B cs
 row : k39.R 39 W w.heap.size (fun _ => True) (.slice (some ⟨g, 0, none⟩) out.length c) out
 m : k39.M W w.heap.size (fun k => True ∧ k ≠ g) x [.int .i64 x.f0, .slice X1 x.f1.length e1, .int .i64 x.f2, .slice X3 x.f3.length e3]
 below : Below w.heap.size w W
 xb : W.heap[s]? = some (.cells #[.int .i64 x.f0, .slice X1 x.f1.length e1, .int .i64 x.f2, .slice X3 x.f3.length e3] 39 (0, 0))
theorem Mid2.to3 {w : World} {B : Nat} {cs : List Cur} {out : List Row} {g c : Nat} {x : Row} {X1 : Option Addr} {e1 : Nat} {X3 : Option Addr} {e3 s : Nat} {W : World} (h : Mid2 w B cs out (some ⟨g, 0, none⟩) c x.f1 x.f3 (.slice X1 x.f1.length e1) (.slice X3 x.f3.length e3) s W) :
  ∃ W2, W2 = ((((W.setCell ⟨s, 0, none⟩ (.int .i64 x.f0)).setCell ⟨s, 1, none⟩ (.slice X1 x.f1.length e1)).setCell ⟨s, 2, none⟩ (.int .i64 x.f2)).setCell ⟨s, 3, none⟩ (.slice X3 x.f3.length e3)) ∧ But s W W2 ∧ Mid3 w B cs out g c x X1 e1 X3 e3 s W2 := by
 have hb : But s W ((((W.setCell ⟨s, 0, none⟩ (.int .i64 x.f0)).setCell ⟨s, 1, none⟩ (.slice X1 x.f1.length e1)).setCell ⟨s, 2, none⟩ (.int .i64 x.f2)).setCell ⟨s, 3, none⟩ (.slice X3 x.f3.length e3)) := ((((But.refl s W).set 0 _).set 1 _).set 2 _).set 3 _
 have hg : ∀ k, (True ∧ some k ≠ (Value.slice (some ⟨g, 0, none⟩) out.length c).ownBlock) ∧ k ≠ s → True ∧ k ≠ g := fun k hk => ⟨trivial, fun e => hk.1.2 (by rw [e]; simp [Value.ownBlock])⟩
 have hBs : B ≠ s := by
  obtain ⟨_, v, h2, _⟩ := h.hs
  intro e
  subst e
  have := h2.symm.trans h.xb
  injection this with this
  injection this with _ this
  exact absurd this (by decide)
 refine ⟨_, rfl, hb, ⟨HS_mono (HS_but h.hs hb hBs (fun hk => hk.2 rfl)) (fun k hk => hk.1), Kd.R_mono (R_but h.row hb (fun hk => hk.2 rfl)) (fun k hk => trivial), ?_, ?_, ?_⟩⟩
 ·exact k39_mkM _ _ _ _ (Kd.R_mono (R_but h.x1 hb (fun hk => hk.2 rfl)) hg) (Kd.R_mono (R_but h.x3 hb (fun hk => hk.2 rfl)) hg)
 ·exact ⟨hb.os.trans h.below.os, hb.tape.trans h.below.tape, hb.output.trans h.below.output, Nat.le_trans h.below.size hb.size, fun k hk => (hb.block k (Nat.lt_of_lt_of_le hk h.below.size) (by have := h.base; omega)).trans (h.below.block k hk)⟩
 ·exact blk_put (blk_put (blk_put (blk_put h.xb 0 _ rfl) 1 _ rfl) 2 _ rfl) 3 _ rfl
theorem Mid3.done {w : World} {B : Nat} {cs : List Cur} {out : List Row} {g c mo : Nat} {x : Row} {X1 : Option Addr} {e1 : Nat} {X3 : Option Addr} {e3 s : Nat} {W : World} (h : Mid3 w B cs out g c x X1 e1 X3 e3 s W) (hm : out.length = mo + 1) :
  ∃ W2, W2 = ((((W.setCell ⟨g, mo * 4, none⟩ (.int .i64 x.f0)).setCell ⟨g, mo * 4 + 1, none⟩ (.slice X1 x.f1.length e1)).setCell ⟨g, mo * 4 + 2, none⟩ (.int .i64 x.f2)).setCell ⟨g, mo * 4 + 3, none⟩ (.slice X3 x.f3.length e3)) ∧
   HS W2 w.heap.size (fun k => True ∧ some k ≠ (Value.slice (some ⟨g, 0, none⟩) (out.set mo x).length c).ownBlock) B cs ∧ k39.R 39 W2 w.heap.size (fun _ => True) (.slice (some ⟨g, 0, none⟩) (out.set mo x).length c) (out.set mo x) ∧ Below w.heap.size w W2 := by
 obtain ⟨cl, hcl, hM, hcc, hff⟩ := Kd.R_elem h.row z39 (mo : Int) (by omega) (by omega)
 have s1 := Kd.R_seg (okp := fun k => True ∧ k ≠ g) h.row (mo : Int) (by omega) (by omega) (c := cl) (seg := [.int .i64 x.f0, .slice X1 x.f1.length e1, .int .i64 x.f2, .slice X3 x.f3.length e3]) (j := 0) hcl hcc (by show 0 + 4 ≤ 4; omega) (x' := x)
  (by
   have e0 : cl.take 0 ++ [Value.int .i64 x.f0, .slice X1 x.f1.length e1, .int .i64 x.f2, .slice X3 x.f3.length e3] ++ cl.drop (0 + 4) = [.int .i64 x.f0, .slice X1 x.f1.length e1, .int .i64 x.f2, .slice X3 x.f3.length e3] := by
    have hcl4 : cl.length = 4 := hcl
    rw [List.drop_eq_nil_of_le (by omega)]; simp
   show k39.M W w.heap.size _ x (cl.take 0 ++ [Value.int .i64 x.f0, .slice X1 x.f1.length e1, .int .i64 x.f2, .slice X3 x.f3.length e3] ++ cl.drop (0 + 4))
   rw [e0]; exact h.m) (fun k hk => hk)
 rw [Int.toNat_natCast] at s1
 obtain ⟨s1, g1⟩ := s1
 have hgb : w.heap.size ≤ g := by
  obtain ⟨inner, hown⟩ := Kd.R_own h.row
  exact own_base hown g (by simp [Value.ownBlock])
 refine ⟨_, rfl, ?_, by rw [List.length_set]; exact s1, ⟨g1.os.trans h.below.os, g1.tape.trans h.below.tape, g1.output.trans h.below.output, Nat.le_trans h.below.size g1.size, fun k hk => (g1.block k (Nat.lt_of_lt_of_le hk h.below.size) (by intro e; injection e; omega)).trans (h.below.block k hk)⟩⟩
 exact HS_after (v1 := .slice (some ⟨g, 0, none⟩) (out.set mo x).length c) h.hs h.row g1 (.inl (by simp [Value.ownBlock]))
theorem LI_join {w : World} {r1 : List Row} {r2 : Int} {B : Nat} {cs cs2 : List Cur} {out : List Row} {A : Option Addr} {c mo : Nat} {w1 : World} {x : Cur} {rest : List Cur} (hI : LI w r1 r2 B cs out A c w1) (hP : (x :: rest).Perm cs) (hle : ∀ a ∈ cs, leC x a) (hP2 : cs2.Perm (tailC x rest)) (hH2 : HeapP cs2 cs2.length) (hm : out.length = mo + 1)
  (hz : cmpRow (out.getD mo z39) (hd x) = 0) : ((joinE (out.getD mo z39) (hd x)).2 ≠ 0 → ([], (joinE (out.getD mo z39) (hd x)).2) = (r1, r2)) ∧ ((joinE (out.getD mo z39) (hd x)).2 = 0 → ∀ {w9 : World}, HS w9 w.heap.size (fun k => True ∧ some k ≠ (Value.slice A (out.set mo (joinE (out.getD mo z39) (hd x)).1).length c).ownBlock) B cs2 → k39.R 39 w9 w.heap.size (fun _ => True) (.slice A (out.set mo (joinE (out.getD mo z39) (hd x)).1).length c) (out.set mo (joinE (out.getD mo z39) (hd x)).1) → Below w.heap.size w w9 →
   LI w r1 r2 B cs2 (out.set mo (joinE (out.getD mo z39) (hd x)).1) A c w9 ∧ (tags cs).length = (tags cs2).length + 1) := by
 obtain ⟨h1, h2, h3, h4, h5⟩ := hI.step hP hle hP2
 have hne : ¬ (out = [] ∨ ¬ cmpRow (out.getD (out.length - 1) z39) (hd x) = 0) := by
  rw [show out.length - 1 = mo by omega]
  rintro (h | h)
  ·rw [h] at hm; simp at hm
  ·exact h hz
 rw [foldE, if_neg hne, show out.length - 1 = mo by omega] at h1
 refine ⟨fun h0 => ?_, fun h0 w9 hS hR hB => ⟨⟨hS, hR, hH2, h2, h3, fun r hr => ?_, ?_, ?_, hB⟩, h4⟩⟩
 ·rw [if_neg h0] at h1; exact h1
 ·rcases List.mem_or_eq_of_mem_set hr with hr | rfl
  ·exact hI.fito r hr
  ·refine joinE_fit (hI.fito _ ?_) h0
   rw [List.getD_eq_getElem?_getD, List.getElem?_eq_getElem (by omega)]
   exact List.getElem_mem _
 ·rw [if_pos h0] at h1; exact h1
 ·have := hI.few
  rw [List.length_set]
  omega
theorem Held_but {g mo R s : Nat} {la : Row} {B1 : Option Addr} {d1 : Nat} {B3 : Option Addr} {d3 : Nat} {r : Row} {A1 : Option Addr} {c1 : Nat} {A3 : Option Addr} {c3 : Nat} {W W' : World} (h : Held g mo R la B1 d1 B3 d3 r A1 c1 A3 c3 W) (hb : But s W W') (hg : g < s) (hR : R < s) : Held g mo R la B1 d1 B3 d3 r A1 c1 A3 c3 W' := by
 obtain ⟨h0, h1, h2, h3, h4, h5, h6, h7⟩ := h
 have eg := hb.block g (World.block_lt_of_cell? _ _ h0) (Nat.ne_of_lt hg)
 have eR := hb.block R (World.block_lt_of_cell? _ _ h4) (Nat.ne_of_lt hR)
 exact ⟨(World.cell?_of_block (a := ⟨g, _, none⟩) eg).trans h0, (World.cell?_of_block (a := ⟨g, _, none⟩) eg).trans h1, (World.cell?_of_block (a := ⟨g, _, none⟩) eg).trans h2, (World.cell?_of_block (a := ⟨g, _, none⟩) eg).trans h3,
  (World.cell?_of_block (a := ⟨R, _, none⟩) eR).trans h4, (World.cell?_of_block (a := ⟨R, _, none⟩) eR).trans h5, (World.cell?_of_block (a := ⟨R, _, none⟩) eR).trans h6, (World.cell?_of_block (a := ⟨R, _, none⟩) eR).trans h7⟩
theorem LI_append {w : World} {r1 : List Row} {r2 : Int} {B : Nat} {cs cs2 : List Cur} {out : List Row} {A : Option Addr} {c : Nat} {w1 : World} {x : Cur} {rest : List Cur} (hI : LI w r1 r2 B cs out A c w1) (hP : (x :: rest).Perm cs) (hle : ∀ a ∈ cs, leC x a) (hP2 : cs2.Perm (tailC x rest)) (hH2 : HeapP cs2 cs2.length)
  {A1 : Option Addr} {c1 : Nat} {A3 : Option Addr} {c3 R : Nat} {W : World} (hM : Mid w B cs2 out A c (hd x) A1 c1 A3 c3 R W) (hc : out = [] ∨ ¬ cmpRow (out.getD (out.length - 1) z39) (hd x) = 0) {A9 : Option Addr} {c9 : Nat} {w9 : World}
  (hR : k39.R 39 w9 w.heap.size (fun _ => True) (.slice A9 (out ++ [hd x]).length c9) (out ++ [hd x])) (hB : Below w.heap.size w w9) (hg : W.grownBy w9 (Value.slice A out.length c).ownBlock) (hat : (Value.slice A9 (out ++ [hd x]).length c9).ownBlock = (Value.slice A out.length c).ownBlock ∨ ∃ b, (Value.slice A9 (out ++ [hd x]).length c9).ownBlock = some b ∧ W.heap.size ≤ b) :
  LI w r1 r2 B cs2 (out ++ [hd x]) A9 c9 w9 ∧ (tags cs).length = (tags cs2).length + 1 := by
 obtain ⟨h1, h2, h3, h4, h5⟩ := hI.step hP hle hP2
 rw [foldE, if_pos hc] at h1
 refine ⟨⟨HS_after hM.hs hM.row hg hat, hR, hH2, h2, h3, fun r hr => ?_, h1, ?_, hB⟩, h4⟩
 ·rcases List.mem_append.1 hr with hr | hr
  ·exact hI.fito r hr
  ·rw [List.mem_singleton.1 hr]; exact h5
 ·have := hI.few
  simp only [List.length_append, List.length_singleton]
  omega
set_option maxHeartbeats 8000000 in
set_option maxRecDepth 100000 in
theorem merge_Lists.calls (A0 : Option Addr) (c0 : Nat) (l0 : List (List Row)) (r1 : List Row) (r2 : Int) (w : World) (hr0 : Kd.C (Kd.slice 39 k39) w A0 l0.length l0) (hc0 : l0.length ≤ c0) (h : merge_Lists.f l0 = some (r1, r2)) :
  Calls Try.prog 9 #[.slice A0 l0.length c0] w fun e w' => ∃ v0_ : Value, e = .returned (.tuple #[v0_, .int .i64 r2]) ∧ Kd.R k39 39 w' w.heap.size (fun _ => True) v0_ r1 ∧ Below w.heap.size w w' := by
 unfold merge_Lists.f at h
 by_cases hb : ListsB l0 = true
 ·rw [if_pos hb] at h
  obtain ⟨hok, hsum⟩ := listsB_ok hb
  have HOK := Z0.mk hok
  have HSUM := Z0.mk hsum
  have HA := Z0.mk (Option.some.inj h)
  have HC := Z0.mk hr0
  clear hok hsum h hr0 hb
  have hta : ∀ (B : Nat) (W : World) (v : Value), W.cell? ⟨B, 0, none⟩ = some v → W.cell? ⟨B, 0, none⟩ = some v := fun _ _ _ h => h
  go_enter Try.func9, Try.ntmps9
  cases hs : l0.all sortedR with
  | false =>
   go_wp2_with (go_at_call 16; refine (begun_calls w A0 c0 l0 HC.out hc0 HOK.out).mono ?_; rintro e w1 ⟨hb1, _, h2⟩; obtain rfl := h2 (by rw [hs]; decide))
   have hA := HA.out
   unfold listsE at hA
   rw [if_neg (by rw [hs]; decide)] at hA
   obtain ⟨rfl, rfl⟩ := Prod.mk.inj hA
   go_ret2
   exact ⟨_, rfl, Kd.R_nil _ _ _ _ _, hb1⟩
  | true =>
   go_wp2_with (go_at_call 16; refine (begun_calls w A0 c0 l0 HC.out hc0 HOK.out).mono ?_; rintro e w1 ⟨hb1, h1, _⟩; obtain ⟨B, cs, rfl, hS1, hP1, hH1⟩ := h1 hs; have H0 := Z0.mk (LI_start HOK.out HSUM.out HA.out hs hb1 hS1 hP1 hH1); clear hb1 h1 hS1 hP1 hH1)
   go_loopg [6] ((tags cs).length + 1) (fun kq1 v6 w' => ∃ (cs1 : List Cur) (out : List Row) (A : Option Addr) (c : Nat), v6 = .slice A out.length c ∧ (tags cs1).length < kq1 ∧ Z0 (LI w r1 r2 B cs1 out A c w'))
   case atStart => exact ⟨cs, [], none, 0, rfl, Nat.lt_succ_self _, H0⟩
   case round =>
    clear H0 HC HOK HSUM HA hs hc0
    obtain ⟨cs1, out, A, c, rfl, hkq, HI⟩ := hrel
    cases gk with
    | zero => exact absurd hkq (Nat.not_lt_zero _)
    | succ k1 =>
     obtain ⟨hbB, vh, hB, hR⟩ := HI.out.hs
     obtain ⟨Ah, ch, eh⟩ := Kd.R_slice hR
     subst eh
     have hcell := (bCe hB 0).trans (rfl : _ = some (Value.slice Ah cs1.length ch))
     clear hR hbB hB
     rcases Nat.eq_zero_or_pos cs1.length with h0 | h0
     ·have hn : decide ((0 : Int) < (cs1.length : Int)) = false := decide_eq_false (by omega)
      have hn' : decide (0 < cs1.length) = false := decide_eq_false (by omega)
      have hn2 : ¬ 0 < cs1.length := by omega
      go_wp2_with (go_at_call 17; refine (Len_calls _ _ _ _).mono ?_; rintro e w1 ⟨rfl, rfl⟩)
      go_ret2
      obtain rfl := List.length_eq_zero_iff.1 h0
      have ha := HI.out.ans
      rw [show sortT (tags []) = [] by simp [sortT, tags], foldE] at ha
      obtain ⟨rfl, rfl⟩ := Prod.mk.inj ha
      exact ⟨_, rfl, HI.out.row, HI.out.below⟩
     ·have hn : decide ((0 : Int) < (cs1.length : Int)) = true := decide_eq_true (by omega)
      have hn' : decide (0 < cs1.length) = true := decide_eq_true (by omega)
      have hn2 : 0 < cs1.length := by omega
      obtain ⟨m, hm⟩ : ∃ m, cs1.length = m + 1 := ⟨cs1.length - 1, by omega⟩
      have HM := Z0.mk hm
      clear hm h0
      have HNX : Z0 _ := ⟨next_calls _ w.heap.size _ B m cs1 HI.out.hs HM.out HI.out.cur.2 HI.out.cur.1 HI.out.hp (fun k hk => ⟨trivial, fun e => absurd (Kd.R_lt HI.out.row k e.symm) (by omega)⟩)⟩
      go_wp2_with (first
       | (go_at_call 17; refine (Len_calls _ _ _ _).mono ?_; rintro e w1 ⟨rfl, rfl⟩)
       | (go_at_call 18; refine HNX.out.mono ?_; clear HNX; rintro e w2 ⟨x, rest, v1, v3, cs2, rfl, hM, hP, hle, hS2, hP2, hH2, hE⟩; obtain ⟨u1, u3, eu, g1, g3⟩ := k39_openM hM; obtain ⟨rfl, rfl⟩ : v1 = u1 ∧ v3 = u3 := (by injection eu with _ eu; injection eu with e1 eu; injection eu with _ eu; injection eu with e3 _; exact ⟨e1, e3⟩); obtain ⟨A1, c1, e1⟩ := Kd.R_slice g1; subst e1; obtain ⟨A3, c3, e3⟩ := Kd.R_slice g3; subst e3; clear eu g1 g3; obtain ⟨r, er⟩ : ∃ r, r = hd x := ⟨_, rfl⟩; rw [← er] at hM ⊢; have HER := Z0.mk er; have HM2 := Z0.mk hM; have HP := Z0.mk hP; have HLE := Z0.mk hle; have HS2 := Z0.mk hS2; have HP2 := Z0.mk hP2; have HH2 := Z0.mk hH2; have HE := Z0.mk hE; clear er hM hP hle hS2 hP2 hH2 hE))
      have hMid := Mid_start HI.out HS2.out HE.out HM2.out
      generalize hW : w2.alloc (.cells #[.int .i64 r.f0, .slice A1 r.f1.length c1, .int .i64 r.f2, .slice A3 r.f3.length c3] 39) = W at hMid ⊢
      obtain ⟨R, hR⟩ : ∃ R, w2.heap.size = R := ⟨_, rfl⟩
      rw [hR] at hMid ⊢
      have HMD := Z0.mk hMid
      clear hW hn hn' hn2 hcell hMid hR HM2 HS2 HE
      rcases Nat.eq_zero_or_pos out.length with ho | ho
      ·obtain rfl := List.length_eq_zero_iff.1 ho
       refine start_ (n := 12) (S := fun w' => w'.cell? ⟨R, 0, none⟩ = some (.int .i64 r.f0)) (ds := []) #[false, false, false, false, false, false, false, false, false, false, false, false] (by kernel_rfl) rfl rfl ((bCe (bDr HMD.out.blk) 0).trans rfl) (fun hHeld => ?_)
       refine pure_ (i := 0) (N := some 27) (v := .int .i64 0) (a' := ?aa1) #[true, false, false, false, false, false, false, false, false, false, false, false] rfl rfl (by kernel_rfl) (fun _ _ _ h => h) (Or.inl ⟨by rfl, ?hy1⟩) ?ha1 ?h1
       case hy1 => (intro w'; clear hHeld; go_simp)
       case ha1 => (show Act.put _ _ _ = _; simp only [Act.put, qA, qB, qC]; rfl)
       refine pure_ (i := 1) (N := some 28) (v := .bool true) (a' := ?aa2) #[true, true, false, false, false, false, false, false, false, false, false, false] rfl rfl (by kernel_rfl) (fun _ _ _ h => h) (Or.inl ⟨by rfl, ?hy2⟩) ?ha2 ?h2
       case hy2 => (intro w'; clear hHeld; go_simp)
       case ha2 => (show Act.put _ _ _ = _; simp only [Act.put, qA, qB, qC]; rfl)
       refine pure_ (i := 2) (N := some 29) (v := .bool true) (a' := ?aa3) #[true, true, true, false, false, false, false, false, false, false, false, false] rfl rfl (by kernel_rfl) (fun _ _ _ h => h) (Or.inl ⟨by rfl, ?hy3⟩) ?ha3 ?h3
       case hy3 => (intro w'; clear hHeld; go_simp)
       case ha3 => (show Act.put _ _ _ = _; simp only [Act.put, qA, qB, qC]; rfl)
       refine pure_ (i := 3) (N := some 30) (v := undef) (a' := ?aa4) #[true, true, true, true, false, false, false, false, false, false, false, false] rfl rfl (by kernel_rfl) (fun _ _ _ h => h) (Or.inr ⟨by rfl, rfl⟩) ?ha4 ?h4
       case ha4 => (show Act.put _ _ _ = _; simp only [Act.put, qA, qB, qC]; rfl)
       refine pure_ (i := 4) (N := some 31) (v := undef) (a' := ?aa5) #[true, true, true, true, true, false, false, false, false, false, false, false] rfl rfl (by kernel_rfl) (fun _ _ _ h => h) (Or.inr ⟨by rfl, rfl⟩) ?ha5 ?h5
       case ha5 => (show Act.put _ _ _ = _; simp only [Act.put, qA, qB, qC]; rfl)
       refine pure_ (i := 5) (N := some 32) (v := undef) (a' := ?aa6) #[true, true, true, true, true, true, false, false, false, false, false, false] rfl rfl (by kernel_rfl) (fun _ _ _ h => h) (Or.inr ⟨by rfl, rfl⟩) ?ha6 ?h6
       case ha6 => (show Act.put _ _ _ = _; simp only [Act.put, qA, qB, qC]; rfl)
       refine pure_ (i := 6) (N := some 33) (v := undef) (a' := ?aa7) #[true, true, true, true, true, true, true, false, false, false, false, false] rfl rfl (by kernel_rfl) (fun _ _ _ h => h) (Or.inr ⟨by rfl, rfl⟩) ?ha7 ?h7
       case ha7 => (show Act.put _ _ _ = _; simp only [Act.put, qA, qB, qC]; rfl)
       refine pure_ (i := 7) (N := some 34) (v := undef) (a' := ?aa8) #[true, true, true, true, true, true, true, true, false, false, false, false] rfl rfl (by kernel_rfl) (fun _ _ _ h => h) (Or.inr ⟨by rfl, rfl⟩) ?ha8 ?h8
       case ha8 => (show Act.put _ _ _ = _; simp only [Act.put, qA, qB, qC]; rfl)
       refine pure_ (i := 8) (N := some 35) (v := undef) (a' := ?aa9) #[true, true, true, true, true, true, true, true, true, false, false, false] rfl rfl (by kernel_rfl) (fun _ _ _ h => h) (Or.inr ⟨by rfl, rfl⟩) ?ha9 ?h9
       case ha9 => (show Act.put _ _ _ = _; simp only [Act.put, qA, qB, qC]; rfl)
       refine pure_ (i := 9) (N := some 36) (v := undef) (a' := ?aa10) #[true, true, true, true, true, true, true, true, true, true, false, false] rfl rfl (by kernel_rfl) (fun _ _ _ h => h) (Or.inr ⟨by rfl, rfl⟩) ?ha10 ?h10
       case ha10 => (show Act.put _ _ _ = _; simp only [Act.put, qA, qB, qC]; rfl)
       refine pure_ (i := 10) (N := some 37) (v := undef) (a' := ?aa11) #[true, true, true, true, true, true, true, true, true, true, true, false] rfl rfl (by kernel_rfl) (fun _ _ _ h => h) (Or.inr ⟨by rfl, rfl⟩) ?ha11 ?h11
       case ha11 => (show Act.put _ _ _ = _; simp only [Act.put, qA, qB, qC]; rfl)
       refine pure_ (i := 11) (N := some 38) (v := .bool true) (a' := ?aa12) #[true, true, true, true, true, true, true, true, true, true, true, true] rfl rfl (by kernel_rfl) (fun _ _ _ h => h) (Or.inl ⟨by rfl, ?hy12⟩) ?ha12 ?h12
       case hy12 => (intro w'; clear hHeld; go_simp)
       case ha12 => (show Act.put _ _ _ = _; simp only [Act.put, qA, qB, qC]; rfl)
       refine done_ (by kernel_rfl) ?_
       clear hHeld
       have hMd := HMD.out.to (below_drew (Below.refl _ _))
       generalize W.drew = Wd at hMd ⊢
       have hr0 := (bCe hMd.blk 0).trans (rfl : _ = some (Value.int .i64 r.f0))
       have hr1 := (bCe hMd.blk 1).trans (rfl : _ = some (Value.slice A1 r.f1.length c1))
       have hr2 := (bCe hMd.blk 2).trans (rfl : _ = some (Value.int .i64 r.f2))
       have hr3 := (bCe hMd.blk 3).trans (rfl : _ = some (Value.slice A3 r.f3.length c3))
       have HMd := Z0.mk hMd
       clear hMd
       go_wp2_with (first | ((with_reducible refine gate_builtin (b := .append) (xs := #[.tmp 39, .tmp 41]) rfl ?_); (try (refine gate_guard (by rfl) ?_; dsimp only)); at_builtin; refine Kd.R_append k39 (w0 := w) w.heap.size rfl (.tmp 39) (.tmp 41) 28 39 (.agg #[.int .i64 0, .slice none 0 0, .int .i64 0, .slice none 0 0]) 64 rfl Try.underlying28 info39 rfl (by decide) (by decide) (.slice A 0 c) [] r [.int .i64 r.f0, .slice A1 r.f1.length c1, .int .i64 r.f2, .slice A3 r.f3.length c3] (fun _ => True) (fun k => True ∧ some k ≠ (Value.slice A 0 c).ownBlock) rfl rfl HMd.out.m (fun k hk => hk) (fun k hk => trivial) HMd.out.row HMd.out.below HMd.out.below.size (by decide) ?_; rintro v9 w9 hR9 hB9 hg9 hat9; obtain ⟨A9, c9, e9⟩ := Kd.R_slice hR9; subst e9; have HR9 := Z0.mk hR9; have HB9 := Z0.mk hB9; have HG9 := Z0.mk hg9; have HAT9 := Z0.mk hat9; clear hR9 hB9 hg9 hat9))
       go_roundg k1
       case measure => exact Nat.lt_succ_self _
       case rel =>
        have er := HER.out
        subst er
        obtain ⟨hL, hn⟩ := LI_append HI.out HP.out HLE.out HP2.out HH2.out HMd.out (.inl rfl) HR9.out HB9.out HG9.out HAT9.out
        exact ⟨cs2, [hd x], A9, c9, rfl, by omega, ⟨hL⟩⟩
      ·obtain ⟨mo, hmo⟩ : ∃ mo, out.length = mo + 1 := ⟨out.length - 1, by omega⟩
       have hMd := HMD.out.to (below_drew (Below.refl _ _))
       obtain ⟨g, B1, d1, B3, d3, rfl, hgl, hHeldAll, n1, C1, n3, C3, m1, D1, m3, D3⟩ := hMd.cells hmo
       obtain ⟨la, hla⟩ : ∃ la, la = out.getD mo z39 := ⟨_, rfl⟩
       rw [← hla] at hHeldAll n1 C1 n3 C3
       obtain ⟨n, hn⟩ : ∃ n, n = out.length := ⟨_, rfl⟩
       rw [← hn] at hmo ⊢
       have hfl : RowFit la := by rw [hla]; rw [hn] at hmo; rw [List.getD_eq_getElem?_getD, List.getElem?_eq_getElem (by omega)]; exact HI.out.fito _ (List.getElem_mem _)
       have hn40 : (n : Int) ≤ 1099511627776 := by have := HI.out.few; omega
       obtain ⟨kc, hkc⟩ := (cmpRow_ev la r (by have := hfl.1; omega)).rounds
       obtain ⟨kj, hkj⟩ := (join_ev la r hfl.1 hfl.2).rounds
       have HLA := Z0.mk hla
       have HN := Z0.mk hn
       have HFL := Z0.mk hfl
       have HKC := Z0.mk hkc
       have HKJ := Z0.mk hkj
       have HHA := Z0.mk hHeldAll
       have HC1 := Z0.mk C1
       have HC3 := Z0.mk C3
       have HD1 := Z0.mk D1
       have HD3 := Z0.mk D3
       have HMd := Z0.mk hMd
       have n0 : ((n : Int) == 0) = false := by simp; omega
       have n0' : ¬ n = 0 := by omega
       have n0'' : (n == 0) = false := by simp; omega
       have hw : IntKind.i64.wrap ((n : Int) - 1) = (mo : Int) := by rw [i64_w]; exact (IntWalk.wrap64_in _ ⟨by omega, by omega⟩).trans (by omega)
       have hmn : mo < n := by omega
       have HMO := Z0.mk hmo
       clear hla hn hfl hkc hkj hHeldAll C1 C3 D1 D3 hMd ho hmo
       refine start_ (n := 12) (S := fun w' => w'.cell? ⟨g, mo * 4, none⟩ = some (.int .i64 la.f0) ∧ w'.cell? ⟨g, mo * 4 + 1, none⟩ = some (.slice B1 la.f1.length d1) ∧ w'.cell? ⟨g, mo * 4 + 2, none⟩ = some (.int .i64 la.f2) ∧ w'.cell? ⟨g, mo * 4 + 3, none⟩ = some (.slice B3 la.f3.length d3) ∧ w'.cell? ⟨R, 0, none⟩ = some (.int .i64 r.f0) ∧ w'.cell? ⟨R, 1, none⟩ = some (.slice A1 r.f1.length c1) ∧ w'.cell? ⟨R, 2, none⟩ = some (.int .i64 r.f2) ∧ w'.cell? ⟨R, 3, none⟩ = some (.slice A3 r.f3.length c3)) (ds := []) #[false, false, false, false, false, false, false, false, false, false, false, false] (by kernel_rfl) rfl rfl (HHA.out _ (Below.refl _ _)) (fun hHeld => ?_)
       refine pure_ (i := 0) (N := some 27) (v := .int .i64 n) (a' := ?aa21) #[true, false, false, false, false, false, false, false, false, false, false, false] rfl rfl (by kernel_rfl) (fun _ _ _ h => h) (Or.inl ⟨by rfl, ?hy21⟩) ?ha21 ?h21
       case hy21 => (intro w'; clear hHeld; go_simp)
       case ha21 => (show Act.put _ _ _ = _; simp only [Act.put, qA, qB, qC]; rfl)
       refine pure_ (i := 1) (N := some 28) (v := .bool false) (a' := ?aa22) #[true, true, false, false, false, false, false, false, false, false, false, false] rfl rfl (by kernel_rfl) (fun _ _ _ h => h) (Or.inl ⟨by rfl, ?hy22⟩) ?ha22 ?h22
       case hy22 => (intro w'; clear hHeld; go_simp)
       case ha22 => (show Act.put _ _ _ = _; simp only [Act.put, qA, qB, qC]; rfl)
       refine pure_ (i := 2) (N := some 29) (v := .bool false) (a' := ?aa23) #[true, true, true, false, false, false, false, false, false, false, false, false] rfl rfl (by kernel_rfl) (fun _ _ _ h => h) (Or.inl ⟨by rfl, ?hy23⟩) ?ha23 ?h23
       case hy23 => (intro w'; clear hHeld; go_simp)
       case ha23 => (show Act.put _ _ _ = _; simp only [Act.put, qA, qB, qC]; rfl)
       refine pure_ (i := 3) (N := some 30) (v := .slice (some ⟨g, 0, none⟩) n c) (a' := ?aa24) #[true, true, true, true, false, false, false, false, false, false, false, false] rfl rfl (by kernel_rfl) (fun _ _ _ h => h) (Or.inl ⟨by rfl, ?hy24⟩) ?ha24 ?h24
       case hy24 => (intro w'; clear hHeld; go_simp)
       case ha24 => (show Act.put _ _ _ = _; simp only [Act.put, qA, qB, qC]; rfl)
       refine pure_ (i := 4) (N := some 31) (v := .int .i64 n) (a' := ?aa25) #[true, true, true, true, true, false, false, false, false, false, false, false] rfl rfl (by kernel_rfl) (fun _ _ _ h => h) (Or.inl ⟨by rfl, ?hy25⟩) ?ha25 ?h25
       case hy25 => (intro w'; clear hHeld; go_simp)
       case ha25 => (show Act.put _ _ _ = _; simp only [Act.put, qA, qB, qC]; rfl)
       refine pure_ (i := 5) (N := some 32) (v := .int .i64 mo) (a' := ?aa26) #[true, true, true, true, true, true, false, false, false, false, false, false] rfl rfl (by kernel_rfl) (fun _ _ _ h => h) (Or.inl ⟨by rfl, ?hy26⟩) ?ha26 ?h26
       case hy26 => (intro w'; clear hHeld; go_simp)
       case ha26 => (show Act.put _ _ _ = _; simp only [Act.put, qA, qB, qC]; rfl)
       refine pure_ (i := 6) (N := some 33) (v := .pointer (some ⟨g, mo * 4, none⟩)) (a' := ?aa27) #[true, true, true, true, true, true, true, false, false, false, false, false] rfl rfl (by kernel_rfl) (fun _ _ _ h => h) (Or.inl ⟨by rfl, ?hy27⟩) ?ha27 ?h27
       case hy27 => (intro w'; clear hHeld; go_simp)
       case ha27 => (show Act.put _ _ _ = _; simp only [Act.put, qA, qB, qC]; rfl)
       refine take_ (i := 7) (N := some 34) (v := .agg #[.int .i64 la.f0, .slice B1 la.f1.length d1, .int .i64 la.f2, .slice B3 la.f3.length d3]) (a' := ?aa28) #[true, true, true, true, true, true, true, true, false, false, false, false] rfl rfl (by kernel_rfl) (fun _ _ _ h => h) (Or.inl ⟨by rfl, ?hy28⟩) hHeld ?ha28 ?h28
       case hy28 => (rintro w' ⟨s0, s1, s2, s3, s4, s5, s6, s7⟩; clear hHeld; go_simp)
       case ha28 => (show Act.put _ _ _ = _; simp only [Act.put, qA, qB, qC]; rfl)
       refine take_ (i := 8) (N := some 35) (v := .agg #[.int .i64 r.f0, .slice A1 r.f1.length c1, .int .i64 r.f2, .slice A3 r.f3.length c3]) (a' := ?aa29) #[true, true, true, true, true, true, true, true, true, false, false, false] rfl rfl (by kernel_rfl) (fun _ _ _ h => h) (Or.inl ⟨by rfl, ?hy29⟩) hHeld ?ha29 ?h29
       case hy29 => (rintro w' ⟨s0, s1, s2, s3, s4, s5, s6, s7⟩; clear hHeld; go_simp)
       case ha29 => (show Act.put _ _ _ = _; simp only [Act.put, qA, qB, qC]; rfl)
       refine one_ (i := 9) (N := some 36) #[true, true, true, true, true, true, true, true, true, true, false, false] rfl rfl (by kernel_rfl) (by decide) (fun K hK => ?_)
       refine goes_ Try.func19 (by kernel_rfl) rfl #[.agg #[.int .i64 la.f0, .slice B1 la.f1.length d1, .int .i64 la.f2, .slice B3 la.f3.length d3], .agg #[.int .i64 r.f0, .slice A1 r.f1.length c1, .int .i64 r.f2, .slice A3 r.f3.length c3]] (by rfl) rfl rfl (by (try simp only [List.map_toArray, List.map_cons, List.map_nil]); first | done | rfl) ?_
       refine (rows_Compare.calls kc la.f0 _ _ la.f1 la.f2 _ _ la.f3 r.f0 _ _ r.f1 r.f2 _ _ r.f3 (cmpRow la r) _ HC1.out n1 HC3.out n3 HD1.out m1 HD3.out m3 HKC.out).mono ?_
       rintro e w3 ⟨rfl, hb3⟩
       refine ⟨_, rfl, ?_⟩
       refine hK.out _ _ (HHA.out _ hb3) (fun hHeld => ?_)
       clear hK K
       refine norm_ (a' := ?aa50) ?ha50 ?h50
       case ha50 => (show Act.put _ _ _ = _; simp only [Act.put, qA, qB, qC]; rfl)
       obtain ⟨t, ht⟩ : ∃ t, t = cmpRow la r := ⟨_, rfl⟩
       rw [← ht]
       have HT := Z0.mk ht
       clear ht
       by_cases hz : t = 0
       ·have hz1 : (t != 0) = false := by simp [hz]
        have hz2 : (t == 0) = true := by simp [hz]
        have hz3 : decide (t = 0) = true := decide_eq_true hz
        refine pure_ (i := 10) (N := some 37) (v := .bool false) (a' := ?aa61) #[true, true, true, true, true, true, true, true, true, true, true, false] rfl rfl (by kernel_rfl) (fun _ _ _ h => h) (Or.inl ⟨by rfl, ?hy61⟩) ?ha61 ?h61
        case hy61 => (intro w'; clear hHeld; go_simp)
        case ha61 => (show Act.put _ _ _ = _; simp only [Act.put, qA, qB, qC]; rfl)
        refine pure_ (i := 11) (N := some 38) (v := .bool false) (a' := ?aa62) #[true, true, true, true, true, true, true, true, true, true, true, true] rfl rfl (by kernel_rfl) (fun _ _ _ h => h) (Or.inl ⟨by rfl, ?hy62⟩) ?ha62 ?h62
        case hy62 => (intro w'; clear hHeld; go_simp)
        case ha62 => (show Act.put _ _ _ = _; simp only [Act.put, qA, qB, qC]; rfl)
        refine done_ (by kernel_rfl) ?_
        have hMd3 := HMd.out.to hb3
        have hH3 := fun W' hb => HHA.out W' (below_then hb3 hb)
        have HC1' := Z0.mk (Kd.C_below HC1.out hb3)
        have HC3' := Z0.mk (Kd.C_below HC3.out hb3)
        have HD1' := Z0.mk (Kd.C_below HD1.out hb3)
        have HD3' := Z0.mk (Kd.C_below HD3.out hb3)
        have HHA3 := Z0.mk hH3
        have HMd3 := Z0.mk hMd3
        clear hHeld hb3 hMd3 hH3 HMd HMD HHA HC1 HC3 HD1 HD3
        go_wp2
        obtain ⟨J, hJ⟩ : ∃ J, J = joinE la r := ⟨_, rfl⟩
        have HJ := Z0.mk hJ
        have hkj := HKJ.out
        rw [← hJ] at hkj
        have HKJ' := Z0.mk hkj
        have hMd := HMd3.out.to (below_drew (Below.refl _ _))
        have HMD2 := Z0.mk hMd
        clear hMd hJ hkj HKJ hz1 hz2 hz3
        refine start_ (n := 13) (S := fun w' => w'.cell? ⟨g, mo * 4, none⟩ = some (.int .i64 la.f0) ∧ w'.cell? ⟨g, mo * 4 + 1, none⟩ = some (.slice B1 la.f1.length d1) ∧ w'.cell? ⟨g, mo * 4 + 2, none⟩ = some (.int .i64 la.f2) ∧ w'.cell? ⟨g, mo * 4 + 3, none⟩ = some (.slice B3 la.f3.length d3) ∧ w'.cell? ⟨R, 0, none⟩ = some (.int .i64 r.f0) ∧ w'.cell? ⟨R, 1, none⟩ = some (.slice A1 r.f1.length c1) ∧ w'.cell? ⟨R, 2, none⟩ = some (.int .i64 r.f2) ∧ w'.cell? ⟨R, 3, none⟩ = some (.slice A3 r.f3.length c3)) (ds := []) #[false, false, false, false, false, false, false, false, false, false, false, false, false] (by kernel_rfl) rfl rfl (HHA3.out _ (below_drew (Below.refl _ _))) (fun hHeld => ?_)
        generalize hWd : w3.drew = Wd at HMD2 hHeld ⊢
        have hbd : Below w3.heap.size w3 Wd := by rw [← hWd]; exact below_drew (Below.refl _ _)
        have hH4 := fun W' hb => HHA3.out W' (below_then hbd hb)
        have HHA4 := Z0.mk hH4
        have hgw : g < Wd.heap.size := World.block_lt_of_cell? _ _ hHeld.1
        have hRw : R < Wd.heap.size := blk_lt HMD2.out.blk
        have HC1 := Z0.mk (Kd.C_below HC1'.out hbd)
        have HC3 := Z0.mk (Kd.C_below HC3'.out hbd)
        have HD1 := Z0.mk (Kd.C_below HD1'.out hbd)
        have HD3 := Z0.mk (Kd.C_below HD3'.out hbd)
        clear hH4 HHA3 hWd hbd HMd3 HC1' HC3' HD1' HD3'
        refine pure_ (i := 0) (N := some 44) (v := .slice (some ⟨g, 0, none⟩) n c) (a' := ?aa81) #[true, false, false, false, false, false, false, false, false, false, false, false, false] rfl rfl (by kernel_rfl) (fun _ _ _ h => h) (Or.inl ⟨by rfl, ?hy81⟩) ?ha81 ?h81
        case hy81 => (intro w'; clear hHeld; go_simp)
        case ha81 => (show Act.put _ _ _ = _; simp only [Act.put, qA, qB, qC]; rfl)
        refine pure_ (i := 1) (N := some 45) (v := .int .i64 n) (a' := ?aa82) #[true, true, false, false, false, false, false, false, false, false, false, false, false] rfl rfl (by kernel_rfl) (fun _ _ _ h => h) (Or.inl ⟨by rfl, ?hy82⟩) ?ha82 ?h82
        case hy82 => (intro w'; clear hHeld; go_simp)
        case ha82 => (show Act.put _ _ _ = _; simp only [Act.put, qA, qB, qC]; rfl)
        refine pure_ (i := 2) (N := some 46) (v := .int .i64 mo) (a' := ?aa83) #[true, true, true, false, false, false, false, false, false, false, false, false, false] rfl rfl (by kernel_rfl) (fun _ _ _ h => h) (Or.inl ⟨by rfl, ?hy83⟩) ?ha83 ?h83
        case hy83 => (intro w'; clear hHeld; go_simp)
        case ha83 => (show Act.put _ _ _ = _; simp only [Act.put, qA, qB, qC]; rfl)
        refine pure_ (i := 3) (N := some 47) (v := .pointer (some ⟨g, mo * 4, none⟩)) (a' := ?aa84) #[true, true, true, true, false, false, false, false, false, false, false, false, false] rfl rfl (by kernel_rfl) (fun _ _ _ h => h) (Or.inl ⟨by rfl, ?hy84⟩) ?ha84 ?h84
        case hy84 => (intro w'; clear hHeld; go_simp)
        case ha84 => (show Act.put _ _ _ = _; simp only [Act.put, qA, qB, qC]; rfl)
        refine take_ (i := 4) (N := some 48) (v := .agg #[.int .i64 la.f0, .slice B1 la.f1.length d1, .int .i64 la.f2, .slice B3 la.f3.length d3]) (a' := ?aa85) #[true, true, true, true, true, false, false, false, false, false, false, false, false] rfl rfl (by kernel_rfl) (fun _ _ _ h => h) (Or.inl ⟨by rfl, ?hy85⟩) hHeld ?ha85 ?h85
        case hy85 => (rintro w' ⟨s0, s1, s2, s3, s4, s5, s6, s7⟩; clear hHeld; go_simp)
        case ha85 => (show Act.put _ _ _ = _; simp only [Act.put, qA, qB, qC]; rfl)
        refine take_ (i := 5) (N := some 49) (v := .agg #[.int .i64 r.f0, .slice A1 r.f1.length c1, .int .i64 r.f2, .slice A3 r.f3.length c3]) (a' := ?aa86) #[true, true, true, true, true, true, false, false, false, false, false, false, false] rfl rfl (by kernel_rfl) (fun _ _ _ h => h) (Or.inl ⟨by rfl, ?hy86⟩) hHeld ?ha86 ?h86
        case hy86 => (rintro w' ⟨s0, s1, s2, s3, s4, s5, s6, s7⟩; clear hHeld; go_simp)
        case ha86 => (show Act.put _ _ _ = _; simp only [Act.put, qA, qB, qC]; rfl)
        refine join_ (σ := Value × Value × Nat) 2 #[true, true, true, true, true, true, true, true, true, true, true, false, false] (fun s_ => [(50, .tuple #[.agg #[.int .i64 J.1.f0, s_.1, .int .i64 J.1.f2, s_.2.1], .int .i64 J.2]), (9, .pointer (some ⟨s_.2.2, 0, none⟩)), (43, .tuple #[.agg #[.int .i64 J.1.f0, s_.1, .int .i64 J.1.f2, s_.2.1], .int .i64 J.2]), (51, .agg #[.int .i64 J.1.f0, s_.1, .int .i64 J.1.f2, s_.2.1]), (52, .int .i64 J.2)]) (fun s_ w' => Held g mo R la B1 d1 B3 d3 r A1 c1 A3 c3 w' ∧ Mid2 w B cs2 out (some ⟨g, 0, none⟩) c J.1.f1 J.1.f3 s_.1 s_.2.1 s_.2.2 w' ∧ g < s_.2.2 ∧ R < s_.2.2) ?hjoin ?hboth
        case hboth =>
         intro hCont
         refine two_ (i := 6) (j := 10) (Ni := some 50) (Nj := some 9) #[true, true, true, true, true, true, true, false, false, false, false, false, false] #[true, true, true, true, true, true, false, false, false, false, true, false, false] rfl rfl rfl rfl (by kernel_rfl) (by decide) (by decide) (fun K hK => ?_) (fun K hK => ?_)
         ·refine goes_ Try.func20 (by kernel_rfl) rfl #[.agg #[.int .i64 la.f0, .slice B1 la.f1.length d1, .int .i64 la.f2, .slice B3 la.f3.length d3], .agg #[.int .i64 r.f0, .slice A1 r.f1.length c1, .int .i64 r.f2, .slice A3 r.f3.length c3]] (by rfl) rfl rfl (by (try simp only [List.map_toArray, List.map_cons, List.map_nil]); first | done | rfl) ?_
          refine (rows_Join.calls kj la.f0 _ _ la.f1 la.f2 _ _ la.f3 r.f0 _ _ r.f1 r.f2 _ _ r.f3 J.1.f0 J.1.f1 J.1.f2 J.1.f3 J.2 _ HC1.out n1 HC3.out n3 HD1.out m1 HD3.out m3 HKJ'.out).mono ?_
          rintro e w4 ⟨v1, v3, rfl, hx1, hx3, hb4⟩
          refine ⟨_, rfl, ?_⟩
          refine hK.out _ _ (HHA4.out _ hb4) (fun hHeld => ?_)
          clear hK K
          refine norm_ (a' := ?aa100) ?ha100 ?h100
          case ha100 => (show Act.put _ _ _ = _; simp only [Act.put, qA, qB, qC]; rfl)
          refine pure_ (i := 7) (N := some 43) (v := .tuple #[.agg #[.int .i64 J.1.f0, v1, .int .i64 J.1.f2, v3], .int .i64 J.2]) (a' := ?aa101) #[true, true, true, true, true, true, true, true, false, false, false, false, false] rfl rfl (by kernel_rfl) (fun _ _ _ h => h) (Or.inl ⟨by rfl, ?hy101⟩) ?ha101 ?h101
          case hy101 => (intro w'; clear hHeld; go_simp)
          case ha101 => (show Act.put _ _ _ = _; simp only [Act.put, qA, qB, qC]; rfl)
          refine pure_ (i := 8) (N := some 51) (v := .agg #[.int .i64 J.1.f0, v1, .int .i64 J.1.f2, v3]) (a' := ?aa102) #[true, true, true, true, true, true, true, true, true, false, false, false, false] rfl rfl (by kernel_rfl) (fun _ _ _ h => h) (Or.inl ⟨by rfl, ?hy102⟩) ?ha102 ?h102
          case hy102 => (intro w'; clear hHeld; go_simp)
          case ha102 => (show Act.put _ _ _ = _; simp only [Act.put, qA, qB, qC]; rfl)
          refine pure_ (i := 9) (N := some 52) (v := .int .i64 J.2) (a' := ?aa103) #[true, true, true, true, true, true, true, true, true, true, false, false, false] rfl rfl (by kernel_rfl) (fun _ _ _ h => h) (Or.inl ⟨by rfl, ?hy103⟩) ?ha103 ?h103
          case hy103 => (intro w'; clear hHeld; go_simp)
          case ha103 => (show Act.put _ _ _ = _; simp only [Act.put, qA, qB, qC]; rfl)
          refine one_ (i := 10) (N := some 9) #[true, true, true, true, true, true, true, true, true, true, true, false, false] rfl rfl (by kernel_rfl) (by decide) (fun K hK => ?_)
          refine box_step ?hg (N := 9) ?hd (cs := #[.int .i64 0, .slice none 0 0, .int .i64 0, .slice none 0 0]) (t := 39) ?hr ?_; (case hd => rfl); (case hg => rfl); (case hr => first | (go_simp; done) | (go_simp; rfl))
          intro s hs w5 hbox hb5
          refine hK.out _ _ (HHA4.out _ (below_then hb4 hb5)) (fun hHeld => ?_)
          refine norm_ (a' := ?aa130) ?ha130 ?h130
          case ha130 => (show Act.put _ (some 9) _ = _; simp only [Act.put, qA, qB, qC]; rfl)
          exact norm_ (by simp only [putAll, Act.put, qA, qB, qC]) (hCont (v1, v3, s) _ ⟨hHeld, Mid2_A HMD2.out hb4 hx1 hx3 hs hbox hb5, by have := hb4.size; show g < s; omega, by have := hb4.size; show R < s; omega⟩)
         ·refine box_step ?hg (N := 9) ?hd (cs := #[.int .i64 0, .slice none 0 0, .int .i64 0, .slice none 0 0]) (t := 39) ?hr ?_; (case hd => rfl); (case hg => rfl); (case hr => first | (go_simp; done) | (go_simp; rfl))
          intro s hs w4 hbox hb4
          refine hK.out _ _ (HHA4.out _ hb4) (fun hHeld => ?_)
          clear hK K
          refine norm_ (a' := ?aa110) ?ha110 ?h110
          case ha110 => (show Act.put _ (some 9) _ = _; simp only [Act.put, qA, qB, qC]; rfl)
          refine one_ (i := 6) (N := some 50) #[true, true, true, true, true, true, true, false, false, false, true, false, false] rfl rfl (by kernel_rfl) (by decide) (fun K hK => ?_)
          refine goes_ Try.func20 (by kernel_rfl) rfl #[.agg #[.int .i64 la.f0, .slice B1 la.f1.length d1, .int .i64 la.f2, .slice B3 la.f3.length d3], .agg #[.int .i64 r.f0, .slice A1 r.f1.length c1, .int .i64 r.f2, .slice A3 r.f3.length c3]] (by rfl) rfl rfl (by (try simp only [List.map_toArray, List.map_cons, List.map_nil]); first | done | rfl) ?_
          refine (rows_Join.calls kj la.f0 _ _ la.f1 la.f2 _ _ la.f3 r.f0 _ _ r.f1 r.f2 _ _ r.f3 J.1.f0 J.1.f1 J.1.f2 J.1.f3 J.2 _ (Kd.C_below HC1.out hb4) n1 (Kd.C_below HC3.out hb4) n3 (Kd.C_below HD1.out hb4) m1 (Kd.C_below HD3.out hb4) m3 HKJ'.out).mono ?_
          rintro e w5 ⟨v1, v3, rfl, hx1, hx3, hb5⟩
          refine ⟨_, rfl, ?_⟩
          refine hK.out _ _ (HHA4.out _ (below_then hb4 hb5)) (fun hHeld => ?_)
          clear hK K
          refine norm_ (a' := ?aa111) ?ha111 ?h111
          case ha111 => (show Act.put _ _ _ = _; simp only [Act.put, qA, qB, qC]; rfl)
          refine pure_ (i := 7) (N := some 43) (v := .tuple #[.agg #[.int .i64 J.1.f0, v1, .int .i64 J.1.f2, v3], .int .i64 J.2]) (a' := ?aa121) #[true, true, true, true, true, true, true, true, false, false, true, false, false] rfl rfl (by kernel_rfl) (fun _ _ _ h => h) (Or.inl ⟨by rfl, ?hy121⟩) ?ha121 ?h121
          case hy121 => (intro w'; clear hHeld; go_simp)
          case ha121 => (show Act.put _ _ _ = _; simp only [Act.put, qA, qB, qC]; rfl)
          refine pure_ (i := 8) (N := some 51) (v := .agg #[.int .i64 J.1.f0, v1, .int .i64 J.1.f2, v3]) (a' := ?aa122) #[true, true, true, true, true, true, true, true, true, false, true, false, false] rfl rfl (by kernel_rfl) (fun _ _ _ h => h) (Or.inl ⟨by rfl, ?hy122⟩) ?ha122 ?h122
          case hy122 => (intro w'; clear hHeld; go_simp)
          case ha122 => (show Act.put _ _ _ = _; simp only [Act.put, qA, qB, qC]; rfl)
          refine pure_ (i := 9) (N := some 52) (v := .int .i64 J.2) (a' := ?aa123) #[true, true, true, true, true, true, true, true, true, true, true, false, false] rfl rfl (by kernel_rfl) (fun _ _ _ h => h) (Or.inl ⟨by rfl, ?hy123⟩) ?ha123 ?h123
          case hy123 => (intro w'; clear hHeld; go_simp)
          case ha123 => (show Act.put _ _ _ = _; simp only [Act.put, qA, qB, qC]; rfl)
          exact norm_ (by simp only [putAll, Act.put, qA, qB, qC]) (hCont (v1, v3, s) _ ⟨hHeld, Mid2_B HMD2.out hs hbox hb4 hx1 hx3 hb5, by show g < s; omega, by show R < s; omega⟩)
        case hjoin =>
         rintro ⟨v1, v3, s⟩ w6 ⟨hHeld, hM2, hgs, hRs⟩
         obtain ⟨X1, e1, rfl⟩ := Kd.R_slice hM2.x1
         obtain ⟨X3, e3, rfl⟩ := Kd.R_slice hM2.x3
         obtain ⟨W2, hW2, hbut, hM3⟩ := hM2.to3
         refine norm_ (a' := ?aa140) ?ha140 ?h140
         case ha140 => (simp only [putAll, Act.put, qA, qB, qC]; rfl)
         refine one_ (i := 11) (N := none) #[true, true, true, true, true, true, true, true, true, true, true, true, false] rfl rfl (by kernel_rfl) (by decide) (fun K hK => ?_)
         have hs0 := (bCe hM2.xb 0).trans (rfl : _ = some (Value.int .i64 0))
         have hs1 := (bCe hM2.xb 1).trans (rfl : _ = some (Value.slice none 0 0))
         have hs2 := (bCe hM2.xb 2).trans (rfl : _ = some (Value.int .i64 0))
         have hs3 := (bCe hM2.xb 3).trans (rfl : _ = some (Value.slice none 0 0))
         have hsf := fun i => bFz hM2.xb i
         refine skip_ (w1 := W2) (by rfl) rfl ?hrun ?hthen
         case hrun => (rw [hW2]; clear hW2 hHeld; go_simp)
         case hthen =>
          refine hK.out _ _ (Held_but hHeld hbut hgs hRs) (fun hHeld2 => ?_)
          clear hK K hs0 hs1 hs2 hs3 hsf hHeld
          have hHeld := hHeld2
          clear hHeld2
          refine pure_ (i := 12) (N := some 10) (v := .int .i64 J.2) (a' := ?aa151) #[true, true, true, true, true, true, true, true, true, true, true, true, true] rfl rfl (by kernel_rfl) (fun _ _ _ h => h) (Or.inl ⟨by rfl, ?hy151⟩) ?ha151 ?h151
          case hy151 => (intro w'; clear hHeld; go_simp)
          case ha151 => (show Act.put _ _ _ = _; simp only [Act.put, qA, qB, qC]; rfl)
          refine done_ (by kernel_rfl) ?_
          have HM3 := Z0.mk hM3
          have HHE := Z0.mk hHeld
          clear hM2 hbut hW2 hM3 hHeld
          have er := HER.out
          have hla := HLA.out
          have hJ := HJ.out
          have hn := HN.out
          have hmo : out.length = mo + 1 := by rw [← hn]; exact HMO.out
          obtain ⟨L1, L2⟩ := LI_join HI.out HP.out HLE.out HP2.out HH2.out hmo (by rw [← er, ← hla, ← HT.out]; exact hz)
          rw [← er, ← hla, ← hJ] at L1 L2
          have hL1 := Z0.mk L1
          have hL2 := Z0.mk @L2
          obtain ⟨j2, hj2⟩ : ∃ j2, j2 = J.2 := ⟨_, rfl⟩
          rw [← hj2] at hL1 hL2 ⊢
          clear L1 L2 er hla hJ hz hj2
          by_cases hj : j2 = 0
          ·have hj1 : (j2 != 0) = false := by simp [hj]
           have hj3 : decide (j2 = 0) = true := decide_eq_true hj
           have hx0 := (bCe HM3.out.xb 0).trans (rfl : _ = some (Value.int .i64 J.1.f0))
           have hx1 := (bCe HM3.out.xb 1).trans (rfl : _ = some (Value.slice X1 J.1.f1.length e1))
           have hx2 := (bCe HM3.out.xb 2).trans (rfl : _ = some (Value.int .i64 J.1.f2))
           have hx3 := (bCe HM3.out.xb 3).trans (rfl : _ = some (Value.slice X3 J.1.f3.length e3))
           have hg0 := HHE.out.1
           have hg1 := HHE.out.2.1
           have hg2 := HHE.out.2.2.1
           have hg3 := HHE.out.2.2.2.1
           have hgf : ∀ k, W2.frozen? ⟨g, k, none⟩ = false := by
            obtain ⟨inner, hown⟩ := Kd.R_own HM3.out.row
            obtain ⟨cells, hb⟩ := own_typed hown g (by simp [Value.ownBlock])
            exact fun k => bFz hb k
           have HDN := Z0.mk (HM3.out.done hmo)
           have HNN := Z0.mk hn
           have HHJ := Z0.mk hj
           clear hmo hn hj
           go_wp2
           go_roundg k1
           case measure => exact Nat.lt_succ_self _
           case rel =>
            obtain ⟨W3, hW3, hS3, hR3, hB3⟩ := HDN.out
            subst hW3
            obtain ⟨hL, hlen⟩ := hL2.out HHJ.out hS3 hR3 hB3
            exact ⟨cs2, out.set mo J.1, some ⟨g, 0, none⟩, c, by rw [List.length_set, HNN.out], by omega, ⟨hL⟩⟩
          ·have hj1 : (j2 != 0) = true := by simp [hj]
           have hj3 : decide (j2 = 0) = false := decide_eq_false hj
           have HHJ := Z0.mk hj
           clear hmo hn
           go_wp2
           go_ret2
           obtain ⟨rfl, rfl⟩ := Prod.mk.inj (hL1.out HHJ.out)
           exact ⟨_, rfl, Kd.R_nil _ _ _ _ _, HM3.out.below⟩
       ·have hz1 : (t != 0) = true := by simp [hz]
        have hz2 : (t == 0) = false := by simp [hz]
        have hz3 : decide (t = 0) = false := decide_eq_false hz
        refine pure_ (i := 10) (N := some 37) (v := .bool true) (a' := ?aa71) #[true, true, true, true, true, true, true, true, true, true, true, false] rfl rfl (by kernel_rfl) (fun _ _ _ h => h) (Or.inl ⟨by rfl, ?hy71⟩) ?ha71 ?h71
        case hy71 => (intro w'; clear hHeld; go_simp)
        case ha71 => (show Act.put _ _ _ = _; simp only [Act.put, qA, qB, qC]; rfl)
        refine pure_ (i := 11) (N := some 38) (v := .bool true) (a' := ?aa72) #[true, true, true, true, true, true, true, true, true, true, true, true] rfl rfl (by kernel_rfl) (fun _ _ _ h => h) (Or.inl ⟨by rfl, ?hy72⟩) ?ha72 ?h72
        case hy72 => (intro w'; clear hHeld; go_simp)
        case ha72 => (show Act.put _ _ _ = _; simp only [Act.put, qA, qB, qC]; rfl)
        refine done_ (by kernel_rfl) ?_
        clear hHeld
        have hMd3 := HMd.out.to hb3
        have hr0 := (bCe hMd3.blk 0).trans (rfl : _ = some (Value.int .i64 r.f0))
        have hr1 := (bCe hMd3.blk 1).trans (rfl : _ = some (Value.slice A1 r.f1.length c1))
        have hr2 := (bCe hMd3.blk 2).trans (rfl : _ = some (Value.int .i64 r.f2))
        have hr3 := (bCe hMd3.blk 3).trans (rfl : _ = some (Value.slice A3 r.f3.length c3))
        have HMd3 := Z0.mk hMd3
        have HZ := Z0.mk hz
        clear hMd3 hb3 HMd HMD hz hz1 hz2 hz3
        have hn := HN.out
        subst hn
        go_wp2_with (first | ((with_reducible refine gate_builtin (b := .append) (xs := #[.tmp 39, .tmp 41]) rfl ?_); (try (refine gate_guard (by rfl) ?_; dsimp only)); at_builtin; refine Kd.R_append k39 (w0 := w) w.heap.size rfl (.tmp 39) (.tmp 41) 28 39 (.agg #[.int .i64 0, .slice none 0 0, .int .i64 0, .slice none 0 0]) 64 rfl Try.underlying28 info39 rfl (by decide) (by decide) (.slice (some ⟨g, 0, none⟩) out.length c) out r [.int .i64 r.f0, .slice A1 r.f1.length c1, .int .i64 r.f2, .slice A3 r.f3.length c3] (fun _ => True) (fun k => True ∧ some k ≠ (Value.slice (some ⟨g, 0, none⟩) out.length c).ownBlock) rfl rfl HMd3.out.m (fun k hk => hk) (fun k hk => trivial) HMd3.out.row HMd3.out.below HMd3.out.below.size (by have := HI.out.few; omega) ?_; rintro v9 w9 hR9 hB9 hg9 hat9; obtain ⟨A9, c9, e9⟩ := Kd.R_slice hR9; subst e9; have HR9 := Z0.mk hR9; have HB9 := Z0.mk hB9; have HG9 := Z0.mk hg9; have HAT9 := Z0.mk hat9; clear hR9 hB9 hg9 hat9))
        go_roundg k1
        case measure => exact Nat.lt_succ_self _
        case rel =>
         have er := HER.out
         subst er
         have hmo := HMO.out
         obtain ⟨hL, hn⟩ := LI_append HI.out HP.out HLE.out HP2.out HH2.out HMd3.out (.inr (by rw [show out.length - 1 = mo by omega, ← HLA.out, ← HT.out]; exact HZ.out)) HR9.out HB9.out HG9.out HAT9.out
         exact ⟨cs2, out ++ [hd x], A9, c9, by simp, by omega, ⟨hL⟩⟩
 ·rw [if_neg hb] at h
  cases h
end Go.Proofs.Ytdeeffahfkndkaa.P
