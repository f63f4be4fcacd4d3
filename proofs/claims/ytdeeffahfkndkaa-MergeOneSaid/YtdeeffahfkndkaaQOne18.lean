/- The law MergeOne returns true for every schema, every list of lists of rows and every index, and leaves its arguments as they were. No condition. -/
import Derived.Test.YtdeeffahfkndkaaQOne12
import Derived.Test.YtdeeffahfkndkaaQOne14
import Derived.Test.YtdeeffahfkndkaaQOne17
import Derived.Laws.Bits128
import Derived.Deep.QuietTactic
import Derived.BigQuiet
import Derived.Test.YtdeeffahfkndkaaRows
import Derived.WalkKit
import Derived.ProofKit
import Derived.OpenShut
import Derived.ShutString
import Derived.ChangeOld
import Derived.Below
import Derived.SizedLaws
namespace Go.Proofs.Ytdeeffahfkndkaa.P
open Go.RowKit Go.Proofs.YtdeeffahfkndkaaW.PrintWords Go.Proofs.YtdeeffahfkndkaaW.PrintLast Go.Proofs.YtdeeffahfkndkaaW.PrintMore
set_option linter.unusedVariables false
set_option linter.unusedSimpArgs false
theorem copyOk_of {l : List Row} {nd na : Nat} (hl : l.length ≤ 1000) (hnd : nd ≤ 40) (hna : na ≤ 40) (h : ∀ r ∈ l, RowGood nd na r) : rows_Copy.ok l = true := by
 simp only [rows_Copy.ok, Bool.and_eq_true, decide_eq_true_eq, List.all_eq_true]
 exact ⟨by omega, fun r hr => ⟨by have := (h r hr).dims; omega, by have := (h r hr).aggs; omega⟩⟩
theorem listsB_of {l : List (List Row)} {nd na : Nat} (hl : l.length ≤ 1000) (hs : (l.map (·.length)).sum ≤ 1000) (hnd : nd ≤ 40) (hna : na ≤ 40) (h : ∀ x ∈ l, x.length ≤ 1000 ∧ ∀ r ∈ x, RowGood nd na r) : ListsB l = true := by
 simp only [ListsB, Bool.and_eq_true, decide_eq_true_eq, List.all_eq_true]
 exact ⟨⟨by omega, by omega⟩, fun x hx => copyOk_of (h x hx).1 hnd hna (h x hx).2⟩
theorem ins_end : ∀ {o : List Row} {r : Row}, (∀ y ∈ o, cmpRow y r < 0) → ins o r = some (o ++ [r])
 | [], r, _ => rfl
 | x :: t, r, h => by rw [ins_lt (h x (List.mem_cons_self ..)), ins_end (fun y hy => h y (List.mem_cons_of_mem _ hy))]; rfl
theorem foldI_end : ∀ (l o : List Row), (o ++ l).Pairwise (fun a b => cmpRow a b < 0) → foldI o l = some (o ++ l)
 | [], o, _ => by rw [foldI, List.append_nil]
 | r :: t, o, h => by
  have h1 := List.pairwise_append.1 h
  rw [foldI, ins_end (fun y hy => h1.2.2 y hy r (List.mem_cons_self ..)), Option.bind_some, foldI_end t (o ++ [r]) (by rw [List.append_assoc]; exact h), List.append_assoc]
  rfl
theorem foldI_self {l : List Row} (h : sortedR l = true) : foldI [] l = some l := by rw [foldI_end l [] (sortedR_pairwise h)]; rfl
theorem ins_at : ∀ {o : List Row} {r x : Row} {t : List Row}, (∀ y ∈ o, cmpRow y r < 0) → cmpRow x r = 0 → ins (o ++ x :: t) r = (joinO x r).map (fun z => o ++ z :: t)
 | [], r, x, t, _, h => by rw [List.nil_append, ins_eq h]; rfl
 | a :: o, r, x, t, ho, h => by
  rw [List.cons_append, ins_lt (ho a (List.mem_cons_self ..)), ins_at (fun y hy => ho y (List.mem_cons_of_mem _ hy)) h]
  cases joinO x r <;> rfl
theorem foldI_twice : ∀ (t d : List Row), (d ++ t).Pairwise (fun a b => cmpRow a b < 0) → foldI (d ++ t) t = none ∨ ∃ y, foldI (d ++ t) t = some (d ++ y) ∧ y.length = t.length ∧ ∀ (j : Nat) r z, t[j]? = some r → y[j]? = some z → joinO r r = some z
 | [], d, _ => .inr ⟨[], by rw [foldI], rfl, fun j r z h => by simp at h⟩
 | r :: t, d, h => by
  have h1 := List.pairwise_append.1 h
  rw [foldI, ins_at (fun y hy => h1.2.2 y hy r (List.mem_cons_self ..)) (cmpRow_self r)]
  cases hj : joinO r r with
  | none => exact .inl rfl
  | some z =>
   have hk := joinO_key hj
   rw [Option.map_some, Option.bind_some]
   have hp : ((d ++ [z]) ++ t).Pairwise (fun a b => cmpRow a b < 0) := by
    rw [List.append_assoc]
    refine List.pairwise_append.2 ⟨h1.1, List.Pairwise.cons (fun y hy => by rw [(hk y).1]; exact List.rel_of_pairwise_cons h1.2.1 hy) (List.Pairwise.of_cons h1.2.1), fun a ha b hb => ?_⟩
    rcases List.mem_cons.1 hb with rfl | hb
    ·rw [(hk a).2]; exact h1.2.2 a ha r (List.mem_cons_self ..)
    ·exact h1.2.2 a ha b (List.mem_cons_of_mem _ hb)
   have e : d ++ z :: t = (d ++ [z]) ++ t := by rw [List.append_assoc]; rfl
   rw [e]
   rcases foldI_twice t (d ++ [z]) hp with h2 | ⟨y, h2, h3, h4⟩
   ·exact .inl h2
   ·refine .inr ⟨z :: y, by rw [h2, List.append_assoc]; rfl, by simp [h3], fun j r' z' hr hz => ?_⟩
    cases j with
    | zero => simp at hr hz; subst hr; subst hz; exact hj
    | succ j => exact h4 j r' z' (by simpa using hr) (by simpa using hz)
theorem joinO_count {r z : Row} {nd na : Nat} (hr : RowGood nd na r) (h : joinO r r = some z) : z.f2 = 2 * r.f2 := by
 have hw : wrap64 (r.f2 + r.f2) = 2 * r.f2 := by have := hr.count; unfold wrap64; omega
 unfold joinO at h
 split at h
 ·rename_i h0
  obtain rfl := Option.some.inj h
  unfold joinE at h0 ⊢
  split at h0
  ·rename_i hc
   rw [if_pos hc]
   split at h0
   ·simp at h0
   ·rename_i hs
    rw [if_neg hs]
    cases hj : joinAs r.f3 r.f3 with
    | none => rw [hj] at h0; simp at h0
    | some l => exact hw
  ·simp at h0
 ·cases h
theorem keysN_sorted : ∀ {l : List Row}, l.Pairwise (fun a b => cmpRow a b < 0) → keysN l = l.length
 | [], _ => rfl
 | r :: t, h => by
  have e : hasKey r t = false := by
   rw [Bool.eq_false_iff]
   intro hk
   obtain ⟨s, hs, e⟩ := hasKey_iff.1 hk
   have := List.rel_of_pairwise_cons h hs
   omega
  rw [keysN, e, keysN_sorted (List.Pairwise.of_cons h), List.length_cons]
  simp; omega
theorem one_lists {x : List Row} {nd na : Nat} (hg : ∀ r ∈ x, RowGood nd na r) (hs : sortedR x = true) : listsE [[], x, []] = (x, 0) := by
 have hf : ([[], x, []] : List (List Row)).flatten = x := by simp
 rw [listsE_fold (by simp [hs, sortedR]) na (by rw [hf]; exact fun r hr => (hg r hr).aggs), hf, foldI_self hs]
theorem one_lists_no {x : List Row} (hs : sortedR x = false) : listsE [[], x, []] = ([], 131) := by
 unfold listsE
 rw [if_neg (by simp [hs, sortedR])]
theorem one_stats {x : List Row} (hs : sortedR x = true) : statsE [x] = ((x.length : Int), (x.length : Int)) := by
 have hf : ([x] : List (List Row)).flatten = x := by simp
 unfold statsE
 rw [if_pos (by simp [hs]), hf, keysN_sorted (sortedR_pairwise hs)]
 simp [sumL]
theorem one_stats_no {x : List Row} (hs : sortedR x = false) : statsE [x] = (0, 0) := by
 unfold statsE
 rw [if_neg (by simp [hs])]
theorem one_twice {x : List Row} {nd na : Nat} (hg : ∀ r ∈ x, RowGood nd na r) (hs : sortedR x = true) : listsE [x, x] = ([], 121) ∨ ∃ y, listsE [x, x] = (y, 0) ∧ y.length = x.length ∧ ∀ (j : Nat) r z, x[j]? = some r → y[j]? = some z → z.f2 = 2 * r.f2 := by
 have hf : ([x, x] : List (List Row)).flatten = x ++ x := by simp
 have hfa : ∀ (l m o : List Row), foldI o (l ++ m) = (foldI o l).bind fun o => foldI o m := by
  intro l
  induction l with
  | nil => intro m o; rw [List.nil_append, foldI, Option.bind_some]
  | cons a l ih => intro m o; rw [List.cons_append, foldI, foldI, Option.bind_assoc]; congr 1; funext o2; exact ih m o2
 rw [listsE_fold (by simp [hs]) na (by rw [hf]; exact fun r hr => (hg r ((List.mem_append.1 hr).elim id id)).aggs), hf, hfa, foldI_self hs, Option.bind_some]
 rcases foldI_twice x [] (sortedR_pairwise hs) with h | ⟨y, h, h1, h2⟩
 ·rw [List.nil_append] at h
  rw [h]; exact .inl rfl
 ·rw [List.nil_append, List.nil_append] at h
  rw [h]
  exact .inr ⟨y, rfl, h1, fun j r z hr hz => joinO_count (hg r (List.mem_of_getElem? hr)) (h2 j r z hr hz)⟩
end Go.Proofs.Ytdeeffahfkndkaa.P
namespace Go.Proofs.Ytdeeffahfkndkaa.P
open Go.RowKit Go.Proofs.YtdeeffahfkndkaaW.PrintWords Go.Proofs.YtdeeffahfkndkaaW.PrintLast Go.Proofs.YtdeeffahfkndkaaW.PrintMore
set_option linter.unusedVariables false
set_option linter.unusedSimpArgs false
theorem i64_and1023 (n : Int) : Go.bits .and .i64 n 1023 = n % 1024 := by
 have h127 : (BitVec.ofInt 64 1023).toNat = 2 ^ 10 - 1 := by decide
 have key : (BitVec.ofInt 64 n &&& BitVec.ofInt 64 1023).toNat = (n % ((2 ^ 64 : Nat) : Int)).toNat % 2 ^ 10 := by
  rw [BitVec.toNat_and, BitVec.toNat_ofInt, h127, Nat.and_two_pow_sub_one_eq_mod]
 show IntKind.i64.wrap ((BitVec.ofInt 64 n &&& BitVec.ofInt 64 1023).toNat : Nat) = n % 1024
 rw [key, IntKind.wrap_i64]
 omega
theorem lists_C {W : World} {g : Nat} {cells : Array Value} (h : W.heap[g]? = some (.cells cells 28 (0, 0))) (l : List (List Row)) (hm : l.length ≤ maxLen) (hc : ∀ (j : Nat) x, l[j]? = some x → ∃ A c, cells[j]? = some (.slice A x.length c) ∧ x.length ≤ c ∧ k39.C W A x.length x) : Kd.C (Kd.slice 39 k39) W (some ⟨g, 0, none⟩) l.length l :=
 C_blk (d := Kd.slice 39 k39) h l hm (fun j x hj => by
  obtain ⟨A, c, h1, h2, h3⟩ := hc j x hj
  refine ⟨[.slice A x.length c], rfl, ⟨A, c, rfl, h2, h3⟩, fun i u hu => ?_⟩
  match i, hu with
  | 0, hu => cases hu; show cells[j * 1 + 0]? = _; rw [Nat.mul_one, Nat.add_zero]; exact h1
  | i + 1, hu => simp at hu)
theorem one_C {W : World} {a : Addr} {x : List Row} {A : Option Addr} {c : Nat} (h : W.cell? a = some (.slice A x.length c)) (hl : x.length ≤ c) (hx : k39.C W A x.length x) : Kd.C (Kd.slice 39 k39) W (some a) 1 [x] := by
 refine ⟨rfl, by decide, fun _ => ⟨a, rfl, fun j p hj => ?_⟩⟩
 match j, hj with
 | 0, hj =>
  cases hj
  refine ⟨[.slice A x.length c], rfl, ⟨A, c, rfl, hl, hx⟩, fun i u hu => ?_⟩
  match i, hu with
  | 0, hu => cases hu; show W.cell? (a.add 0) = _; rw [show a.add 0 = a by simp [Addr.add]]; exact h
  | i + 1, hu => simp at hu
 | j + 1, hj => simp at hj
set_option maxHeartbeats 8000000 in
set_option maxRecDepth 100000 in
theorem one_walk_skip (w : World) (A0 : Option Addr) (c0 : Nat) (l0 : List ByteArray) (A1 : Option Addr) (c1 : Nat) (l1 : List ByteArray) (A : Option Addr) (c : Nat) (l : List (List Row)) (i : Int) (b : Bool) (hb : b = true → l.length = 0)
  (hf : ∀ W, Below w.heap.size w W → Calls Try.prog 7 #[.agg #[.slice A0 l0.length c0, .slice A1 l1.length c1], .slice A l.length c] W fun e w' => e = .returned (.bool b) ∧ Below W.heap.size W w') :
  Calls Try.prog 6 #[.agg #[.slice A0 l0.length c0, .slice A1 l1.length c1], .slice A l.length c, .int .i64 i] w fun e w' => e = .returned (.bool true) ∧ Below w.heap.size w w' := by
 have HF := Z0.mk hf
 have HL : Z0 (∀ W, Calls Try.prog 8 #[] W fun e w' => e = .returned (.bool true) ∧ Below W.heap.size W w') := ⟨fun W => columbarylaw15_alive.calls true W rfl⟩
 clear hf
 cases b with
 | false =>
  clear hb
  go_enter Try.func6, Try.ntmps6
  go_wp2_with (first
   | (go_at_call 7; refine (HF.out _ (beA (Below.refl _ _) _)).mono ?_; rintro e w1 ⟨rfl, hb1⟩; have HB1 := Z0.mk (below_then (beA (Below.refl _ _) _) hb1); clear hb1)
   | (go_at_call 8; refine (HL.out _).mono ?_; rintro e w2 ⟨rfl, hb2⟩; have HB2 := Z0.mk (below_then HB1.out hb2); clear hb2))
  go_ret
  exact ⟨rfl, HB2.out⟩
 | true =>
  have h0 := hb rfl
  rw [h0] at HF ⊢
  clear hb h0
  go_enter Try.func6, Try.ntmps6
  go_wp2_with (first
   | (go_at_call 7; refine (HF.out _ (beA (Below.refl _ _) _)).mono ?_; rintro e w1 ⟨rfl, hb1⟩; have HB1 := Z0.mk (below_then (beA (Below.refl _ _) _) hb1); clear hb1)
   | (go_at_call 8; refine (HL.out _).mono ?_; rintro e w2 ⟨rfl, hb2⟩; have HB2 := Z0.mk (below_then HB1.out hb2); clear hb2))
  go_ret
  exact ⟨rfl, HB2.out⟩
structure OneAt (w : World) (l : List (List Row)) (ad : Addr) (k : Nat) (x : List Row) (Ax : Option Addr) (cx : Nat) : Prop where
 cell : ∀ W, Below w.heap.size w W → W.cell? (ad.add k) = some (.slice Ax x.length cx)
 len : x.length ≤ cx
 C : ∀ W, Below w.heap.size w W → k39.C W Ax x.length x
theorem OneAt.lists {w : World} {l : List (List Row)} {ad : Addr} {k : Nat} {x : List Row} {Ax : Option Addr} {cx : Nat} (h : OneAt w l ad k x Ax cx) (hB : ListsB [[], x, []] = true) {W : World} (hb : Below w.heap.size w W) {n : Nat} (hn : W.heap.size = n) {r1 : List Row} {r2 : Int} (hr : listsE [[], x, []] = (r1, r2)) :
  Calls Try.prog 9 #[.slice (some ⟨n, 0, none⟩) 3 3] (W.alloc (.cells #[.slice none 0 0, .slice Ax x.length cx, .slice none 0 0] 28)) fun e w' => ∃ v, e = .returned (.tuple #[v, .int .i64 r2]) ∧ Kd.R k39 39 w' w.heap.size (fun _ => True) v r1 ∧ Below w.heap.size w w' := by
 have hb2 := beA hb (.cells #[.slice none 0 0, .slice Ax x.length cx, .slice none 0 0] 28)
 refine (merge_Lists.calls (some ⟨n, 0, none⟩) 3 [[], x, []] r1 r2 _ (lists_C (blk_at hn _ _) [[], x, []] (by simp [maxLen]) (fun j y hj => ?_)) (Nat.le_refl _) (by unfold merge_Lists.f; rw [if_pos hB, hr])).mono ?_
 ·match j, hj with
  | 0, hj => cases hj; exact ⟨none, 0, rfl, Nat.le_refl _, none_C _ _⟩
  | 1, hj => cases hj; exact ⟨Ax, cx, rfl, h.len, h.C _ hb2⟩
  | 2, hj => cases hj; exact ⟨none, 0, rfl, Nat.le_refl _, none_C _ _⟩
  | j + 3, hj => simp at hj
 ·rintro e w' ⟨v, rfl, hR, hb3⟩
  exact ⟨v, rfl, Kd.R_lower hR hb2.size, below_then hb2 hb3⟩
theorem OneAt.twice {w : World} {l : List (List Row)} {ad : Addr} {k : Nat} {x : List Row} {Ax : Option Addr} {cx : Nat} (h : OneAt w l ad k x Ax cx) (hB : ListsB [x, x] = true) {W : World} (hb : Below w.heap.size w W) {n : Nat} (hn : W.heap.size = n) {r1 : List Row} {r2 : Int} (hr : listsE [x, x] = (r1, r2)) :
  Calls Try.prog 9 #[.slice (some ⟨n, 0, none⟩) 2 2] (W.alloc (.cells #[.slice Ax x.length cx, .slice Ax x.length cx] 28)) fun e w' => ∃ v, e = .returned (.tuple #[v, .int .i64 r2]) ∧ Kd.R k39 39 w' w.heap.size (fun _ => True) v r1 ∧ Below w.heap.size w w' := by
 have hb2 := beA hb (.cells #[.slice Ax x.length cx, .slice Ax x.length cx] 28)
 refine (merge_Lists.calls (some ⟨n, 0, none⟩) 2 [x, x] r1 r2 _ (lists_C (blk_at hn _ _) [x, x] (by simp [maxLen]) (fun j y hj => ?_)) (Nat.le_refl _) (by unfold merge_Lists.f; rw [if_pos hB, hr])).mono ?_
 ·match j, hj with
  | 0, hj => cases hj; exact ⟨Ax, cx, rfl, h.len, h.C _ hb2⟩
  | 1, hj => cases hj; exact ⟨Ax, cx, rfl, h.len, h.C _ hb2⟩
  | j + 2, hj => simp at hj
 ·rintro e w' ⟨v, rfl, hR, hb3⟩
  exact ⟨v, rfl, Kd.R_lower hR hb2.size, below_then hb2 hb3⟩
theorem OneAt.stats {w : World} {l : List (List Row)} {ad : Addr} {k : Nat} {x : List Row} {Ax : Option Addr} {cx : Nat} (h : OneAt w l ad k x Ax cx) (hB : ListsB [x] = true) {W : World} (hb : Below w.heap.size w W) (c : Nat) (hc : 1 ≤ c) {r1 r2 : Int} (hr : statsE [x] = (r1, r2)) :
  Calls Try.prog 11 #[.slice (some (ad.add k)) 1 c] W fun e w' => e = .returned (.tuple #[.int .i64 r1, .int .i64 r2]) ∧ Below W.heap.size W w' := by
 refine (merge_Stats.calls (some (ad.add k)) c [x] r1 r2 _ (one_C (h.cell W hb) h.len (h.C W hb)) hc (by unfold merge_Stats.f; rw [if_pos hB, hr])).mono ?_
 rintro e w' ⟨rfl, hb3⟩
 exact ⟨rfl, hb3⟩
set_option maxHeartbeats 8000000 in
set_option maxRecDepth 100000 in
theorem one_walk_no (w : World) (A0 : Option Addr) (c0 : Nat) (l0 : List ByteArray) (A1 : Option Addr) (c1 : Nat) (l1 : List ByteArray) (ad : Addr) (c : Nat) (l : List (List Row)) (i : Int) (k : Nat) (hk : k < l.length) (hl8 : l.length ≤ 8) (hlc : l.length ≤ c) (hi : Int.tmod (i % 1024) (l.length : Int) = (k : Int))
  (hf : ∀ W, Below w.heap.size w W → Calls Try.prog 7 #[.agg #[.slice A0 l0.length c0, .slice A1 l1.length c1], .slice (some ad) l.length c] W fun e w' => e = .returned (.bool true) ∧ Below W.heap.size W w')
  (x : List Row) (Ax : Option Addr) (cx : Nat) (hO : OneAt w l ad k x Ax cx) (hB3 : ListsB [[], x, []] = true) (hB1 : ListsB [x] = true) (h3 : listsE [[], x, []] = ([], 131)) (h1 : statsE [x] = (0, 0))
  (hs : ∀ W, Below w.heap.size w W → Calls Try.prog 14 #[.slice Ax x.length cx] W fun e w' => e = .returned (.bool false) ∧ Below W.heap.size W w') :
  Calls Try.prog 6 #[.agg #[.slice A0 l0.length c0, .slice A1 l1.length c1], .slice (some ad) l.length c, .int .i64 i] w fun e w' => e = .returned (.bool true) ∧ Below w.heap.size w w' := by
 have HF := Z0.mk hf
 have HS := Z0.mk hs
 have HO := Z0.mk hO
 have HB3 := Z0.mk hB3
 have HB1' := Z0.mk hB1
 have H3 := Z0.mk h3
 have H1 := Z0.mk h1
 have HL : Z0 (∀ W, Calls Try.prog 8 #[] W fun e w' => e = .returned (.bool true) ∧ Below W.heap.size W w') := ⟨fun W => columbarylaw15_alive.calls true W rfl⟩
 clear hf hs hO hB3 hB1 h3 h1
 have hbit := i64_and1023 i
 have hn0 : ((l.length : Int) == 0) = false := beq_eq_false_iff_ne.2 (by omega)
 have hn0' : ¬ (l.length : Int) = 0 := by omega
 have hn0'' : decide ((l.length : Int) = 0) = false := decide_eq_false (by omega)
 have hn1 : ¬ l.length = 0 := by omega
 go_enter Try.func6, Try.ntmps6
 go_wp2_with (first
  | (go_at_call 7; refine (HF.out _ (beA (Below.refl _ _) _)).mono ?_; rintro e w1 ⟨rfl, hb1⟩; have HB1 := Z0.mk (below_then (beA (Below.refl _ _) _) hb1); clear hb1; have hc1 := HO.out.cell _ HB1.out)
  | (go_at_call 9; refine (HO.out.lists HB3.out HB1.out rfl H3.out).mono ?_; rintro e w2 ⟨v, rfl, hR, hb2⟩; have HB2 := Z0.mk hb2; obtain ⟨Av, cv, ev⟩ := Kd.R_slice hR; subst ev; clear hR hb2; have hc2 := HO.out.cell _ HB2.out)
  | (go_at_call 11; refine (HO.out.stats HB1'.out HB2.out (c - k) (by omega) H1.out).mono ?_; rintro e w3 ⟨rfl, hb3⟩; have HB4 := Z0.mk (below_then HB2.out hb3); clear hb3; have hc3 := HO.out.cell _ HB4.out)
  | (go_at_call 14; refine (HS.out _ HB4.out).mono ?_; rintro e w4 ⟨rfl, hb4⟩; have HB5 := Z0.mk (below_then HB4.out hb4); clear hb4)
  | (go_at_call 8; refine (HL.out _).mono ?_; rintro e w5 ⟨rfl, hb5⟩; have HB6 := Z0.mk (below_then HB5.out hb5); clear hb5))
 go_ret
 exact ⟨rfl, HB6.out⟩
set_option maxHeartbeats 8000000 in
set_option maxRecDepth 100000 in
theorem one_walk_yes (w : World) (A0 : Option Addr) (c0 : Nat) (l0 : List ByteArray) (A1 : Option Addr) (c1 : Nat) (l1 : List ByteArray) (ad : Addr) (c : Nat) (l : List (List Row)) (i : Int) (k : Nat) (hk : k < l.length) (hl8 : l.length ≤ 8) (hlc : l.length ≤ c) (hi : Int.tmod (i % 1024) (l.length : Int) = (k : Int))
  (hf : ∀ W, Below w.heap.size w W → Calls Try.prog 7 #[.agg #[.slice A0 l0.length c0, .slice A1 l1.length c1], .slice (some ad) l.length c] W fun e w' => e = .returned (.bool true) ∧ Below W.heap.size W w')
  (x : List Row) (Ax : Option Addr) (cx : Nat) (hO : OneAt w l ad k x Ax cx) (hB3 : ListsB [[], x, []] = true) (hB1 : ListsB [x] = true) (hB2 : ListsB [x, x] = true) (h3 : listsE [[], x, []] = (x, 0)) (h1 : statsE [x] = ((x.length : Int), (x.length : Int)))
  (y : List Row) (f : Int) (h2 : listsE [x, x] = (y, f)) (hy : f = 0 ∧ y.length = x.length ∧ (∀ (j : Nat) r z, x[j]? = some r → y[j]? = some z → z.f2 = 2 * r.f2 ∧ 1 ≤ r.f2 ∧ r.f2 ≤ 1048576) ∨ f = 121 ∧ y = []) (hxl : x.length ≤ 1000)
  (hs : ∀ W, Below w.heap.size w W → Calls Try.prog 14 #[.slice Ax x.length cx] W fun e w' => e = .returned (.bool true) ∧ Below W.heap.size W w')
  (hm : ∀ W A' c', Below w.heap.size w W → k39.C W A' x.length x → x.length ≤ c' → Calls Try.prog 13 #[.slice A' x.length c', .slice Ax x.length cx] W fun e w' => e = .returned (.bool true) ∧ Below W.heap.size W w') :
  Calls Try.prog 6 #[.agg #[.slice A0 l0.length c0, .slice A1 l1.length c1], .slice (some ad) l.length c, .int .i64 i] w fun e w' => e = .returned (.bool true) ∧ Below w.heap.size w w' := by
 have HF := Z0.mk hf
 have HS := Z0.mk hs
 have HSM := Z0.mk hm
 have HO := Z0.mk hO
 have HB3 := Z0.mk hB3
 have HB1' := Z0.mk hB1
 have HB2' := Z0.mk hB2
 have H3 := Z0.mk h3
 have H1 := Z0.mk h1
 have H2 := Z0.mk h2
 have HY := Z0.mk hy
 have HL : Z0 (∀ W, Calls Try.prog 8 #[] W fun e w' => e = .returned (.bool true) ∧ Below W.heap.size W w') := ⟨fun W => columbarylaw15_alive.calls true W rfl⟩
 clear hf hs hm hO hB3 hB1 hB2 h3 h1 h2 hy
 have hbit := i64_and1023 i
 have hn0 : ((l.length : Int) == 0) = false := beq_eq_false_iff_ne.2 (by omega)
 have hn0' : ¬ (l.length : Int) = 0 := by omega
 have hn0'' : decide ((l.length : Int) = 0) = false := decide_eq_false (by omega)
 have hn1 : ¬ l.length = 0 := by omega
 go_enter Try.func6, Try.ntmps6
 go_wp2_with (first
  | (go_at_call 7; refine (HF.out _ (beA (Below.refl _ _) _)).mono ?_; rintro e w1 ⟨rfl, hb1⟩; have HB1 := Z0.mk (below_then (beA (Below.refl _ _) _) hb1); clear hb1; have hc1 := HO.out.cell _ HB1.out)
  | (go_at_call 9; refine (HO.out.lists HB3.out HB1.out rfl H3.out).mono ?_; rintro e w2 ⟨v, rfl, hR, hb2⟩; have HB2 := Z0.mk hb2; obtain ⟨Av, cv, ev⟩ := Kd.R_slice hR; subst ev; have HR2 := Z0.mk hR; clear hR hb2; have hc2 := HO.out.cell _ HB2.out)
  | (go_at_call 11; refine (HO.out.stats HB1'.out HB2.out (c - k) (by omega) H1.out).mono ?_; rintro e w3 ⟨rfl, hb3⟩; have HB4 := Z0.mk (below_then HB2.out hb3); have HR3 := Z0.mk (Kd.R_below HR2.out hb3); clear hb3 HR2; have hc3 := HO.out.cell _ HB4.out)
  | (go_at_call 14; refine (HS.out _ HB4.out).mono ?_; rintro e w4 ⟨rfl, hb4⟩; have HB5 := Z0.mk (below_then HB4.out hb4); have HR4 := Z0.mk (Kd.R_below HR3.out hb4); clear hb4 HR3; have hc4 := HO.out.cell _ HB5.out)
  | (go_at_call 13; refine (HSM.out _ _ _ HB5.out (Kd.R_reads' HR4.out).2.2 (Kd.R_reads' HR4.out).2.1).mono ?_; rintro e w5 ⟨rfl, hb5⟩; have HB6 := Z0.mk (below_then HB5.out hb5); clear hb5 HR4; have hc5 := HO.out.cell _ HB6.out))
 refine start_ (n := 15) (S := fun w' => w'.cell? (ad.add k) = some (.slice Ax x.length cx)) (ds := []) #[false, false, false, false, false, false, false, false, false, false, false, false, false, false, false] (by kernel_rfl) rfl rfl (HO.out.cell _ (below_drew HB6.out)) (fun hHeld => ?_)
 refine pure_ (i := 0) (N := some 84) (v := .slice (some ad) l.length c) (a' := ?aa101) #[true, false, false, false, false, false, false, false, false, false, false, false, false, false, false] rfl rfl (by kernel_rfl) (fun _ _ _ h => h) (Or.inl ⟨by rfl, ?hy101⟩) ?ha101 ?h101
 case hy101 => (intro w'; clear hHeld; go_simp)
 case ha101 => (show Act.put _ _ _ = _; simp only [Act.put, qA, qB, qC]; rfl)
 refine pure_ (i := 1) (N := some 85) (v := .int .i64 k) (a' := ?aa102) #[true, true, false, false, false, false, false, false, false, false, false, false, false, false, false] rfl rfl (by kernel_rfl) (fun _ _ _ h => h) (Or.inl ⟨by rfl, ?hy102⟩) ?ha102 ?h102
 case hy102 => (intro w'; clear hHeld; go_simp)
 case ha102 => (show Act.put _ _ _ = _; simp only [Act.put, qA, qB, qC]; rfl)
 refine pure_ (i := 2) (N := some 86) (v := .pointer (some (ad.add k))) (a' := ?aa103) #[true, true, true, false, false, false, false, false, false, false, false, false, false, false, false] rfl rfl (by kernel_rfl) (fun _ _ _ h => h) (Or.inl ⟨by rfl, ?hy103⟩) ?ha103 ?h103
 case hy103 => (intro w'; clear hHeld; go_simp)
 case ha103 => (show Act.put _ _ _ = _; simp only [Act.put, qA, qB, qC]; rfl)
 refine pure_ (i := 4) (N := some 88) (v := .slice (some ad) l.length c) (a' := ?aa104) #[true, true, true, false, true, false, false, false, false, false, false, false, false, false, false] rfl rfl (by kernel_rfl) (fun _ _ _ h => h) (Or.inl ⟨by rfl, ?hy104⟩) ?ha104 ?h104
 case hy104 => (intro w'; clear hHeld; go_simp)
 case ha104 => (show Act.put _ _ _ = _; simp only [Act.put, qA, qB, qC]; rfl)
 refine pure_ (i := 5) (N := some 89) (v := .int .i64 k) (a' := ?aa105) #[true, true, true, false, true, true, false, false, false, false, false, false, false, false, false] rfl rfl (by kernel_rfl) (fun _ _ _ h => h) (Or.inl ⟨by rfl, ?hy105⟩) ?ha105 ?h105
 case hy105 => (intro w'; clear hHeld; go_simp)
 case ha105 => (show Act.put _ _ _ = _; simp only [Act.put, qA, qB, qC]; rfl)
 refine pure_ (i := 6) (N := some 90) (v := .pointer (some (ad.add k))) (a' := ?aa106) #[true, true, true, false, true, true, true, false, false, false, false, false, false, false, false] rfl rfl (by kernel_rfl) (fun _ _ _ h => h) (Or.inl ⟨by rfl, ?hy106⟩) ?ha106 ?h106
 case hy106 => (intro w'; clear hHeld; go_simp)
 case ha106 => (show Act.put _ _ _ = _; simp only [Act.put, qA, qB, qC]; rfl)
 refine take_ (i := 3) (N := some 87) (v := .slice Ax x.length cx) (a' := ?aa107) #[true, true, true, true, true, true, true, false, false, false, false, false, false, false, false] rfl rfl (by kernel_rfl) (fun _ _ _ h => h) (Or.inl ⟨by rfl, ?hy107⟩) hHeld ?ha107 ?h107
 case hy107 => (rintro w' s0; clear hHeld; go_simp)
 case ha107 => (show Act.put _ _ _ = _; simp only [Act.put, qA, qB, qC]; rfl)
 refine take_ (i := 7) (N := some 91) (v := .slice Ax x.length cx) (a' := ?aa108) #[true, true, true, true, true, true, true, true, false, false, false, false, false, false, false] rfl rfl (by kernel_rfl) (fun _ _ _ h => h) (Or.inl ⟨by rfl, ?hy108⟩) hHeld ?ha108 ?h108
 case hy108 => (rintro w' s0; clear hHeld; go_simp)
 case ha108 => (show Act.put _ _ _ = _; simp only [Act.put, qA, qB, qC]; rfl)
 have HB7 := Z0.mk (below_drew HB6.out)
 generalize hW6 : w5.drew = w6 at HB7 hHeld ⊢
 obtain ⟨n6, hn6⟩ : ∃ n, w6.heap.size = n := ⟨_, rfl⟩
 have HN6 := Z0.mk hn6
 clear hW6 hn6
 refine one_ (i := 8) (N := some 92) #[true, true, true, true, true, true, true, true, true, false, false, false, false, false, false] rfl rfl (by kernel_rfl) (by decide) (fun K hK => ?_)
 refine value_ (v := .slice (some ⟨n6, 0, none⟩) 2 2) (w1 := w6.alloc (.cells #[.slice Ax x.length cx, .slice Ax x.length cx] 28)) (by rfl) rfl (by rw [← HN6.out]; clear hHeld; go_simp) ?_
 refine hK.out _ _ (HO.out.cell _ (beA HB7.out _)) (fun hHeld => ?_)
 clear hK K
 refine norm_ (a' := ?aa60) ?ha60 ?h60
 case ha60 => (show Act.put _ _ _ = _; simp only [Act.put, qA, qB, qC]; rfl)
 refine one_ (i := 9) (N := some 93) #[true, true, true, true, true, true, true, true, true, true, false, false, false, false, false] rfl rfl (by kernel_rfl) (by decide) (fun K hK => ?_)
 refine goes_ Try.func9 (by kernel_rfl) rfl #[.slice (some ⟨n6, 0, none⟩) 2 2] (by rfl) rfl rfl (by (try simp only [List.map_toArray, List.map_cons, List.map_nil]); first | done | rfl) ?_
 refine (HO.out.twice HB2'.out HB7.out HN6.out H2.out).mono ?_
 rintro e w7 ⟨v, rfl, hR7, hb7⟩
 refine ⟨_, rfl, ?_⟩
 refine hK.out _ _ (HO.out.cell _ hb7) (fun hHeld => ?_)
 clear hK K
 refine norm_ (a' := ?aa61) ?ha61 ?h61
 case ha61 => (show Act.put _ _ _ = _; simp only [Act.put, qA, qB, qC]; rfl)
 refine pure_ (i := 10) (N := some 83) (v := .tuple #[v, .int .i64 f]) (a' := ?ab10) #[true, true, true, true, true, true, true, true, true, true, true, false, false, false, false] rfl rfl (by kernel_rfl) (fun _ _ _ h => h) (Or.inl ⟨by rfl, ?hyb10⟩) ?hab10 ?hb10
 case hyb10 => (intro w'; clear hHeld; go_simp)
 case hab10 => (show Act.put _ _ _ = _; simp only [Act.put, qA, qB, qC]; rfl)
 refine pure_ (i := 11) (N := some 94) (v := v) (a' := ?ab11) #[true, true, true, true, true, true, true, true, true, true, true, true, false, false, false] rfl rfl (by kernel_rfl) (fun _ _ _ h => h) (Or.inl ⟨by rfl, ?hyb11⟩) ?hab11 ?hb11
 case hyb11 => (intro w'; clear hHeld; go_simp)
 case hab11 => (show Act.put _ _ _ = _; simp only [Act.put, qA, qB, qC]; rfl)
 refine pure_ (i := 12) (N := some 95) (v := .int .i64 f) (a' := ?ab12) #[true, true, true, true, true, true, true, true, true, true, true, true, true, false, false] rfl rfl (by kernel_rfl) (fun _ _ _ h => h) (Or.inl ⟨by rfl, ?hyb12⟩) ?hab12 ?hb12
 case hyb12 => (intro w'; clear hHeld; go_simp)
 case hab12 => (show Act.put _ _ _ = _; simp only [Act.put, qA, qB, qC]; rfl)
 refine pure_ (i := 13) (N := some 15) (v := v) (a' := ?ab13) #[true, true, true, true, true, true, true, true, true, true, true, true, true, true, false] rfl rfl (by kernel_rfl) (fun _ _ _ h => h) (Or.inl ⟨by rfl, ?hyb13⟩) ?hab13 ?hb13
 case hyb13 => (intro w'; clear hHeld; go_simp)
 case hab13 => (show Act.put _ _ _ = _; simp only [Act.put, qA, qB, qC]; rfl)
 refine pure_ (i := 14) (N := some 16) (v := .int .i64 f) (a' := ?ab14) #[true, true, true, true, true, true, true, true, true, true, true, true, true, true, true] rfl rfl (by kernel_rfl) (fun _ _ _ h => h) (Or.inl ⟨by rfl, ?hyb14⟩) ?hab14 ?hb14
 case hyb14 => (intro w'; clear hHeld; go_simp)
 case hab14 => (show Act.put _ _ _ = _; simp only [Act.put, qA, qB, qC]; rfl)
 refine done_ (by kernel_rfl) ?_
 obtain ⟨Ay, cy, ey⟩ := Kd.R_slice hR7
 subst ey
 have HR7 := Z0.mk hR7
 have HB8 := Z0.mk hb7
 clear hR7 hb7 hHeld HB7 HN6
 have hc7 := HO.out.cell _ HB8.out
 have HYX : Z0 (y.length ≤ x.length ∧ ∀ (j : Nat) r z, x[j]? = some r → y[j]? = some z → z.f2 = 2 * r.f2 ∧ 1 ≤ r.f2 ∧ r.f2 ≤ 1048576) := ⟨by
  rcases HY.out with ⟨_, h1, h2⟩ | ⟨_, rfl⟩
  ·exact ⟨by omega, h2⟩
  ·exact ⟨Nat.zero_le _, fun j r z _ h => by simp at h⟩⟩
 have hyl3 : y.length ≤ 1000 := by have := HYX.out.1; omega
 rcases HY.out with ⟨rfl, hyl, _⟩ | ⟨rfl, hy0⟩
 ·have q1 : ((y.length : Int) != (x.length : Int)) = false := by rw [hyl]; simp
  have q2 : (y.length != x.length) = false := by rw [hyl]; simp
  have q3 : decide (y.length = x.length) = true := decide_eq_true hyl
  have q4 : (y.length == x.length) = true := by rw [hyl]; simp
  clear hyl
  go_wp2
  go_loopg [17] (y.length + 1) (fun gk v17 w' => ∃ j : Nat, v17 = .int .i64 (j : Int) ∧ y.length < gk + j ∧ j ≤ y.length ∧ Z0 (Below w7.heap.size w7 w'))
  case atStart => exact ⟨0, rfl, by omega, Nat.zero_le _, ⟨Below.refl _ _⟩⟩
  case round =>
   obtain ⟨j, rfl, hgk, hjl, HB9⟩ := hrel
   cases gk with
   | zero => exact absurd hgk (by omega)
   | succ k1 =>
    by_cases hlt : j < y.length
    ·have hjx : j < x.length := by have := HYX.out.1; omega
     obtain ⟨hz, hz1, hz2⟩ := HYX.out.2 j _ _ (List.getElem?_eq_getElem hjx) (List.getElem?_eq_getElem hlt)
     obtain ⟨ay, _, _, _, _, rfl, _, _, ty, _⟩ := at_T39 (Kd.C_below (Kd.R_reads' HR7.out).2.2 HB9.out) (j : Int) (by omega) (by omega)
     obtain ⟨ax, _, _, _, _, rfl, _, _, tx, _⟩ := at_T39 (HO.out.C _ (below_then HB8.out HB9.out)) (j : Int) (by omega) (by omega)
     rw [rd_T39_nat y j hlt, Int.toNat_natCast, hz] at ty
     rw [rd_T39_nat x j hjx, Int.toNat_natCast] at tx
     generalize x[j].f2 = q at ty tx hz1 hz2
     have tc := HO.out.cell _ (below_then HB8.out HB9.out)
     have hw2 : IntKind.i64.wrap (2 * q) = 2 * q := by rw [i64_w]; exact IntWalk.wrap64_in _ ⟨by omega, by omega⟩
     clear hz
     go_wp2
     go_quiet (fail)
     go_wp2
     go_roundg k1
     case measure => exact Nat.lt_succ_self _
     case rel => exact ⟨j + 1, by go_num, by omega, by omega, ⟨below_then HB9.out (bpN (Below.refl _ _) _)⟩⟩
    ·obtain rfl : j = y.length := by omega
     have hb1 : decide (((y.length : Nat) : Int) < (y.length : Int)) = false := decide_eq_false (by omega)
     go_wp2_with (go_at_call 8; refine (HL.out _).mono ?_; rintro e w8 ⟨rfl, hb8⟩; have HB10 := Z0.mk (below_then (below_then HB8.out HB9.out) hb8); clear hb8)
     go_ret
     exact ⟨rfl, HB10.out⟩
 ·have HY0 : Z0 (y.length = 0) := ⟨by rw [hy0]; rfl⟩
  clear hy0
  go_wp2
  go_loopg [17] (y.length + 1) (fun gk v17 w' => ∃ j : Nat, v17 = .int .i64 (j : Int) ∧ y.length < gk + j ∧ j ≤ y.length ∧ Z0 (Below w7.heap.size w7 w'))
  case atStart => exact ⟨0, rfl, by omega, Nat.zero_le _, ⟨Below.refl _ _⟩⟩
  case round =>
   obtain ⟨j, rfl, hgk, hjl, HB9⟩ := hrel
   cases gk with
   | zero => exact absurd hgk (by omega)
   | succ k1 =>
    by_cases hlt : j < y.length
    ·exact absurd hlt (by have := HY0.out; omega)
    ·obtain rfl : j = y.length := by omega
     have hb1 : decide (((y.length : Nat) : Int) < (y.length : Int)) = false := decide_eq_false (by omega)
     go_wp2_with (go_at_call 8; refine (HL.out _).mono ?_; rintro e w8 ⟨rfl, hb8⟩; have HB10 := Z0.mk (below_then (below_then HB8.out HB9.out) hb8); clear hb8)
     go_ret
     exact ⟨rfl, HB10.out⟩
end Go.Proofs.Ytdeeffahfkndkaa.P
namespace Go.Proofs.Ytdeeffahfkndkaa.P
open Go.RowKit Go.Proofs.YtdeeffahfkndkaaW.PrintWords Go.Proofs.YtdeeffahfkndkaaW.PrintLast Go.Proofs.YtdeeffahfkndkaaW.PrintMore
set_option linter.unusedVariables false
set_option linter.unusedSimpArgs false
theorem one_walk (w : World) (A0 : Option Addr) (c0 : Nat) (l0 : List ByteArray) (A1 : Option Addr) (c1 : Nat) (l1 : List ByteArray) (A : Option Addr) (c : Nat) (l : List (List Row)) (i : Int)
  (q0 : l0.length ≤ c0) (C0 : Kd.string.C w A0 l0.length l0) (q1 : l1.length ≤ c1) (C1 : Kd.string.C w A1 l1.length l1) (g0 : ∀ s ∈ l0, GStr s) (g1 : ∀ s ∈ l1, GStr s) (q : l.length ≤ c) (C : Kd.C (Kd.slice 39 k39) w A l.length l) (g : GLists l) :
  Calls Try.prog 6 #[.agg #[.slice A0 l0.length c0, .slice A1 l1.length c1], .slice A l.length c, .int .i64 i] w fun e w' => e = .returned (.bool true) ∧ Below w.heap.size w w' := by
 obtain ⟨b, hb, hφ⟩ := fits15_fin l0 l1 g0 g1 l g.2
 obtain ⟨kf, hkf⟩ := hb.rounds
 have hF : ∀ W, Below w.heap.size w W → Calls Try.prog 7 #[.agg #[.slice A0 l0.length c0, .slice A1 l1.length c1], .slice A l.length c] W fun e w' => e = .returned (.bool b) ∧ Below W.heap.size W w' := fun W hW =>
  (columbarylaw15_fits.calls kf A0 c0 l0 A1 c1 l1 A c l b W (Kd.C_below C0 hW) q0 (Kd.C_below C1 hW) q1 (Kd.C_below C hW) q hkf).mono fun e w' h => h
 by_cases hb0 : b = true ∧ l.length ≠ 0
 ·obtain ⟨rfl, hl0⟩ := hb0
  have G := hφ rfl
  have hl8 := G.len
  obtain ⟨k, hk⟩ : ∃ k : Nat, Int.tmod (i % 1024) (l.length : Int) = (k : Int) := by
   rw [Int.tmod_eq_emod_of_nonneg (by omega)]
   exact ⟨((i % 1024) % (l.length : Int)).toNat, by have := Int.emod_nonneg (i % 1024) (show (l.length : Int) ≠ 0 by omega); omega⟩
  have hkl : k < l.length := by
   rw [Int.tmod_eq_emod_of_nonneg (by omega)] at hk
   have := Int.emod_lt_of_pos (i % 1024) (show (0 : Int) < l.length by omega)
   omega
  obtain ⟨ad, Ax, cx, rfl, hcell, hle, hx⟩ := at_L6 C (k : Int) (by omega) (by omega)
  rw [rd_L6_nat l k hkl, Int.toNat_natCast] at hcell
  rw [rd_L6_nat l k hkl] at hle hx
  have LG := G.lists _ (List.getElem_mem hkl)
  generalize l[k] = x at hcell hle hx LG
  have hO : OneAt w l ad k x Ax cx := ⟨fun W hW => (hW.cell (World.block_lt_of_cell? _ _ hcell)).trans hcell, hle, fun W hW => Kd.C_below hx hW⟩
  have hxl := LG.len
  have hnd := LG.nd
  have hna := LG.na
  have hx1 : x.length ≤ 1000 ∧ ∀ r ∈ x, RowGood l0.length l1.length r := ⟨by omega, LG.rows⟩
  have hn1 : ([] : List Row).length ≤ 1000 ∧ ∀ r ∈ ([] : List Row), RowGood l0.length l1.length r := ⟨by simp, fun r h => by simp at h⟩
  have B3 : ListsB [[], x, []] = true := listsB_of (nd := l0.length) (na := l1.length) (by simp) (by simp; omega) (by omega) (by omega) (fun y hy => by
   simp only [List.mem_cons, List.not_mem_nil, or_false] at hy
   rcases hy with rfl | rfl | rfl
   ·exact hn1
   ·exact hx1
   ·exact hn1)
  have B1 : ListsB [x] = true := listsB_of (nd := l0.length) (na := l1.length) (by simp) (by simp; omega) (by omega) (by omega) (fun y hy => by
   simp only [List.mem_cons, List.not_mem_nil, or_false] at hy
   subst hy; exact hx1)
  have B2 : ListsB [x, x] = true := listsB_of (nd := l0.length) (na := l1.length) (by simp) (by simp; omega) (by omega) (by omega) (fun y hy => by
   simp only [List.mem_cons, List.not_mem_nil, or_false] at hy
   rcases hy with rfl | rfl
   ·exact hx1
   ·exact hx1)
  obtain ⟨ks, hks⟩ := (sortedRef_ev x l0.length (fun r hr => (LG.rows r hr).dims) (by omega) (by omega)).rounds
  cases hs : sortedR x with
  | false =>
   rw [hs] at hks
   exact one_walk_no w A0 c0 l0 A1 c1 l1 ad c l i k hkl hl8 q hk hF x Ax cx hO B3 B1 (one_lists_no hs) (one_stats_no hs) (fun W hW => (columbaryref13_Sorted.calls ks Ax cx x false W (hO.C W hW) hle hks).mono fun e w' h => h)
  | true =>
   rw [hs] at hks
   obtain ⟨km, hkm⟩ := (same_ev x x (by omega) (fun r hr => ⟨by have := (LG.rows r hr).dims; omega, by have := (LG.rows r hr).aggs; omega⟩)).rounds
   rw [eqB_self] at hkm
   have hex : ∃ y f, listsE [x, x] = (y, f) ∧ (f = 0 ∧ y.length = x.length ∧ (∀ (j : Nat) r z, x[j]? = some r → y[j]? = some z → z.f2 = 2 * r.f2 ∧ 1 ≤ r.f2 ∧ r.f2 ≤ 1048576) ∨ f = 121 ∧ y = []) := by
    rcases one_twice LG.rows hs with h | ⟨y, h, h1, h2⟩
    ·exact ⟨[], 121, h, .inr ⟨rfl, rfl⟩⟩
    ·exact ⟨y, 0, h, .inl ⟨rfl, h1, fun j r z hr hz => ⟨h2 j r z hr hz, (LG.rows r (List.mem_of_getElem? hr)).count⟩⟩⟩
   obtain ⟨y, f, hyf, hy⟩ := hex
   exact one_walk_yes w A0 c0 l0 A1 c1 l1 ad c l i k hkl hl8 q hk hF x Ax cx hO B3 B1 B2 (one_lists LG.rows hs) (one_stats hs) y f hyf hy (by omega)
    (fun W hW => (columbaryref13_Sorted.calls ks Ax cx x true W (hO.C W hW) hle hks).mono fun e w' h => h)
    (fun W A' c' hW hC hc => (columbaryref13_Same.calls km A' c' x Ax cx x true W hC hc (hO.C W hW) hle hkm).mono fun e w' h => h)
 ·exact one_walk_skip w A0 c0 l0 A1 c1 l1 A c l i b (fun h => by
   rcases Nat.eq_zero_or_pos l.length with h1 | h1
   ·exact h1
   ·exact absurd ⟨h, by omega⟩ hb0) hF
end Go.Proofs.Ytdeeffahfkndkaa.P
namespace Go.Proofs.Ytdeeffahfkndkaa.mergeOne
open Go.ChangeShapes Go.WideShapes Go.ChangeAt Go.RowKit
open Go.ChangeMaps (open_string shut_string)
set_option linter.unusedVariables false
theorem own : ownKnob Try.prog.godebug = none := by kernel_rfl
theorem laidOut : laidOutB Try.prog = true := by kernel_rfl
set_option maxRecDepth 100000 in
theorem lifted (os : Os) (started : os.Started) (H : Type) (enc : TypeId × Value → H) :
  ReturnsInHanded {} Try.checked os 6 .any (Rows.mergeOneSpec.pre6 enc Try.prog Try.f6 Rows.mergeOneRow.domain false) (Rows.mergeOneSpec.post enc Try.prog Try.f6 false true false false) := by
 refine returnsInHanded_of_change_sized (C := Try.checked) own started (by kernel_rfl) Try.func6
  (ChangeSpec.witness6 (enc := enc) (C := Try.checked) false ⟨#[], #[.agg #[.slice none 0 0, .slice none 0 0], .slice none 0 0, .int .i64 0], []⟩ 8 (by kernel_rfl) (by kernel_rfl) (by kernel_rfl) (by kernel_rfl)) ?_
 intro W base args ds gs before hval0 hW hcnd hsz0 _
 have hval : ∀ (j : Nat) t v, Try.f6.params[j]? = some t → args[j]? = some v → Value.okWide Try.prog W .any base t v := hval0
 have hW' := hW
 obtain ⟨p, q, hA0, hV, rfl, hfz, hnd⟩ := hW
 have hA : DataW.TrodAll enc Try.prog W 0 (fun _ => true) true Try.f6.params.toList args.toList ds p := hA0
 rw [Try.params6] at hA hval
 obtain ⟨v0, vs0, d0, ds0, p0, q0, hargs, rfl, rfl, h0, r0⟩ := trodAll_cons hA
 obtain ⟨v1, vs1, d1, ds1, p1, q1, rfl, rfl, rfl, h1, r1⟩ := trodAll_cons r0
 obtain ⟨v2, vs2, d2, ds2, p2, q2, rfl, rfl, rfl, h2, r2⟩ := trodAll_cons r1
 obtain ⟨rfl, rfl, rfl⟩ := trodAll_nil r2
 obtain rfl : args = #[v0, v1, v2] := by cases args; simp_all
 obtain ⟨rfl, rfl⟩ := trodVars_none hV
 have k0 := h0
 have lt0 : ∀ x ∈ p0, x.block < W.heap.size := by obtain ⟨m, hm⟩ := k0; exact DataW.trod_lt m _ _ _ hm
 have k1 := h1
 have lt1 : ∀ x ∈ p1, x.block < W.heap.size := by obtain ⟨m, hm⟩ := k1; exact DataW.trod_lt m _ _ _ hm
 obtain ⟨A0, c0, l0, A1, c1, l1, rfl, e0, C0, e1, C1, g0, g1⟩ := P.open24 (hval 0 24 v0 rfl rfl) h0
 obtain ⟨A, c, l, rfl, e2, C2, g2, _⟩ := P.open_sl Try.underlying25 P.opens25 (hval 1 25 v1 rfl rfl) h1
 obtain ⟨a2, rfl, rfl, rfl, w2⟩ := open_int Try.underlying3 (hval 2 3 v2 rfl rfl) h2
 clear hA0 hval0 hsz0
 refine (P.one_walk W A0 c0 l0 A1 c1 l1 A c l a2 e0 C0 e1 C1 g0 g1 e2 C2 g2).mono fun e W' ⟨he, bel⟩ => ?_
 subst he
 exact ⟨_, rfl, _, _, _, [], _, [], hW', trodAll_mk1 (shut_bool Try.underlying4 _), (trodAll_cons_mk (Below.trod laidOut (by kernel_rfl) (of_decide_eq_true (by kernel_rfl)) k0 bel lt0) (trodAll_cons_mk (Below.trod laidOut (by kernel_rfl) (of_decide_eq_true (by kernel_rfl)) k1 bel lt1) (trodAll_cons_mk (shut_int Try.underlying3 w2) trodAll_mk0))), rfl, bel.frame _, fun h => by cases h⟩
theorem over : Rows.mergeOneRow.holds Try.pinned (OpenSpec.ofChange Rows.mergeOneSpec) :=
 OpenClaim.holds_of_wide 6 Try.f6 rfl rfl rfl rfl rfl rfl rfl ⟨rfl, rfl, rfl, rfl, rfl⟩ rfl rfl rfl rfl rfl (by kernel_rfl) Try.func6 (by kernel_rfl)
  (of_decide_eq_true (by kernel_rfl)) (by unfold Func.isWrapper; first | (rw [if_pos (by decide +kernel)]; kernel_rfl) | (rw [if_neg (by decide +kernel)]; exact ⟨rfl, rfl⟩))
  (fun os started H enc _ => lifted os started H enc)
theorem proved : Rows.MergeOneSaid := over
#print axioms proved
end Go.Proofs.Ytdeeffahfkndkaa.mergeOne
namespace Go.Proofs.Ytdeeffahfkndkaa
theorem mergeOne_holds : Rows.MergeOneSaid := mergeOne.proved
end Go.Proofs.Ytdeeffahfkndkaa
