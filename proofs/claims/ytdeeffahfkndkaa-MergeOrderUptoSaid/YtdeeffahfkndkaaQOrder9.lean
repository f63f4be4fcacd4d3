/- A part of the proof: lemmas and contracts of functions (printed or written by the session's program, and by hand), in dependency order. -/
import Derived.RangeFuncNested
import Derived.RangeFuncBound
import Derived.RangeFuncCalls
import Derived.RangeFuncLeaves
import Derived.OwnWalkIn
import Derived.OrdersIn
import Derived.Test.YtdeeffahfkndkaaQOrder3
namespace Go.Proofs.Ytdeeffahfkndkaa.P
open Go.RowKit Go.Proofs.YtdeeffahfkndkaaW.PrintWords Go.Proofs.YtdeeffahfkndkaaW.PrintLast Go.Proofs.YtdeeffahfkndkaaW.PrintMore
set_option linter.unusedVariables false
set_option linter.unusedSimpArgs false
section
variable {P : Program} {l n : Nat}
theorem rowsIn_round {row : String} {args : Array Value} {w : World} {R : Value → World → Prop} (h : Rows P row args w R) : RowsIn (Fence.wide.inRound l) n P row args w R :=
 fun c cs _ => let ⟨v, w', r, s⟩ := h c cs; ⟨v, w', r, stepsIn_wide.2 s⟩
theorem uponIn_round_of {o : Oper} {a : Act} {K : Act → World → Prop} {Q : Exit → Act → World → Prop} {r : Result Next} (h : o.upon P a K Q r) : o.uponIn (Fence.wide.inRound l) n P a K Q r := by
 cases r with
 | ok x w =>
  cases x with
  | value v => exact h
  | skip => exact h
  | defer d => exact h
  | enter f args => exact ⟨fun hd => by simp [Fence.wide] at hd, CallsIn.inRound l (callsIn_wide.2 h)⟩
  | row row args => exact ⟨fun hd => by simp [Fence.wide] at hd, rowsIn_round h⟩
  | _ => exact h.elim
 | halt x w =>
  cases x with
  | panic v => exact h
  | _ => exact h.elim
theorem operIn_round {o : Oper} {a : Act} {w : World} {K : Act → World → Prop} {Q : Exit → Act → World → Prop} (hd : ∀ c, o.op ≠ .defer c) (h : o.wp P a w K Q) : o.wpIn (Fence.wide.inRound l) n P a w K Q :=
 ⟨fun _ _ => trivial, by rw [Oper.semAt_eq _ _ _ hd]; exact uponIn_round_of h⟩
theorem wpOpIn_round {ops : Array Oper} {Q : Exit → Act → World → Prop} (hd : ∀ (i : Nat) (o : Oper), ops[i]? = some o → ∀ c, o.op ≠ .defer c) (hQ : ¬ LetsOut Q) {i : Nat} {K : Act → World → Prop} {a : Act} {w : World} (h : wpOp P ops Q i K a w) :
  wpOpIn (Fence.wide.inRound l) n P ops Q i K a w := by
 unfold wpOp at h
 unfold wpOpIn
 cases ho : ops[i]? with
 | none => rw [ho] at h; exact h
 | some o =>
  rw [ho] at h
  simp only at h ⊢
  by_cases hw : Region.wanted o (yielded ops a.tmps) = true
  ·rw [if_pos hw] at h ⊢
   rcases h with h | h
   ·exact operIn_round (hd i o ho) h
   ·exact absurd h.2 hQ
  ·rw [if_neg hw] at h ⊢
   exact ⟨fun _ _ => trivial, h⟩
theorem wpAnyIn_round {md : Region.Mode} {ops : Array Oper} {Q : Exit → Act → World → Prop} (hd : ∀ (i : Nat) (o : Oper), ops[i]? = some o → ∀ c, o.op ≠ .defer c) (hQ : ¬ LetsOut Q) : ∀ (fuel : Nat) (li : Array Bool) (a : Act) (w : World),
  wpAny P md ops Q fuel li a w → wpAnyIn (Fence.wide.inRound l) n P md ops Q fuel li a w
 | 0, _, _, _, h => h
 | fuel + 1, _, _, _, h => ⟨h.1, fun i hi => wpOpIn_round hd hQ (wpOp_mono (fun a w hk => wpAnyIn_round hd hQ fuel _ a w hk) (h.2 i hi))⟩
theorem startR_ {ops : Array Oper} {Q : Exit → Act → World → Prop} {S : World → Prop} {ds : List Nat} {id m : Nat} {a : Act} {w : World} (li : Array Bool) (hm : P.follows .mixedOrders = true) (hn : ops.size = m) (hl : Array.replicate m false = li)
  (hd : (ops.toList.all fun (o : Oper) => match o.op with | .defer _ => false | _ => true) = true) (hQ : ¬ LetsOut Q) (hS : S w.drew)
  (h : S w.drew → wpAnyLast P .any ops Q S ds m li a w.drew) : (Code.region id ops true).wpIn (Fence.wide.inRound l) n P Q a w := by
 subst hn
 subst hl
 refine wpIn_region_any hm (wpAnyIn_round ?_ hQ _ _ _ _ (wpAny_of_last _ _ _ _ (h hS)))
 intro i o ho c hc
 have h1 := List.all_eq_true.1 hd o (by rw [Array.getElem?_eq_some_iff] at ho; obtain ⟨h1, rfl⟩ := ho; simp)
 rw [hc] at h1
 cases h1
end
section
variable {P : Program} {ops : Array Oper} {Q : Exit → Act → World → Prop} {S : World → Prop} {ds : List Nat} {md : Region.Mode}
def chainB (md : Region.Mode) (ops : Array Oper) : List Nat → Array Bool → Bool
 | [], li => Region.ready md ops li == []
 | i :: r, li => (Region.ready md ops li == [i]) && decide (i < ops.size) && chainB md ops r (li.setIfInBounds i true)
theorem last_chain_ : ∀ (is : List Nat) (n : Nat) (li : Array Bool) (a : Act) (w : World), is.length ≤ n → (is.all fun i => ds.contains i) = true → chainB md ops is li = true → wpList P ops Q (is.filterMap fun i => ops[i]?) a w → wpAnyLast P md ops Q S ds n li a w
 | [], 0, li, a, w, _, _, hc, h => by simp only [chainB, beq_iff_eq] at hc; exact ⟨hc, h⟩
 | [], n + 1, li, a, w, _, _, hc, h => by simp only [chainB, beq_iff_eq] at hc; exact ⟨fun _ => h, fun i hi => absurd hi (by rw [hc]; simp)⟩
 | i :: r, n + 1, li, a, w, hn, hd, hc, h => by
  simp only [chainB, Bool.and_eq_true, beq_iff_eq, decide_eq_true_eq] at hc
  simp only [List.all_cons, Bool.and_eq_true] at hd
  obtain ⟨⟨h1, h2⟩, h3⟩ := hc
  refine And.intro (fun h0 => absurd (h0.symm.trans h1) (by simp)) (fun j hj => ?_)
  rw [h1] at hj
  obtain rfl := List.mem_singleton.1 hj
  have ho : ops[j]? = some ops[j] := Array.getElem?_eq_getElem h2
  rw [List.filterMap_cons, ho] at h
  unfold wpOp
  rw [ho]
  unfold wpList at h
  simp only at h ⊢
  have hmem : j ∈ ds := by simpa using hd.1
  by_cases hw : Region.wanted ops[j] (yielded ops a.tmps) = true
  ·rw [if_pos hw] at h ⊢
   refine h.imp (fun hk => ?_) id
   exact Oper.wp_mono (fun a w hk => ⟨fun hnm => absurd hmem hnm, last_chain_ r n _ a w (by simpa using hn) hd.2 h3 hk⟩) hk
  ·rw [if_neg hw] at h ⊢
   exact ⟨fun hnm => absurd hmem hnm, last_chain_ r n _ _ w (by simpa using hn) hd.2 h3 h⟩
theorem last_chain (is : List Nat) (n : Nat) {li : Array Bool} {a : Act} {w : World} (L : List Oper) (hn : is.length ≤ n) (hd : (is.all fun i => ds.contains i) = true) (hc : chainB md ops is li = true) (hL : (is.filterMap fun i => ops[i]?) = L)
  (h : wpList P ops Q L a w) : wpAnyLast P md ops Q S ds n li a w := last_chain_ is n li a w hn hd hc (hL ▸ h)
end
end Go.Proofs.Ytdeeffahfkndkaa.P
