/- The law MergeParts returns true for every schema, every list of rows and every place to cut at, and leaves its arguments as they were. No condition. -/
import Derived.Test.YtdeeffahfkndkaaQParts12
import Derived.Test.YtdeeffahfkndkaaQParts14
import Derived.Test.YtdeeffahfkndkaaQParts17
import Derived.Laws.Bits128
import Derived.Deep.QuietTactic
import Derived.BigQuiet
import Derived.Test.YtdeeffahfkndkaaRows
import Derived.WalkKit
import Derived.ProofKit
import Derived.OpenShut
import Derived.ShutString
import Derived.ChangeOld
import Derived.Below
import Derived.SizedLaws
namespace Go.Proofs.Ytdeeffahfkndkaa.P
open Go.RowKit Go.Proofs.YtdeeffahfkndkaaW.PrintWords Go.Proofs.YtdeeffahfkndkaaW.PrintLast Go.Proofs.YtdeeffahfkndkaaW.PrintMore
set_option linter.unusedVariables false
set_option linter.unusedSimpArgs false
theorem copyOk_of {l : List Row} {nd na : Nat} (hl : l.length ≤ 1000) (hnd : nd ≤ 40) (hna : na ≤ 40) (h : ∀ r ∈ l, RowGood nd na r) : rows_Copy.ok l = true := by
 simp only [rows_Copy.ok, Bool.and_eq_true, decide_eq_true_eq, List.all_eq_true]
 exact ⟨by omega, fun r hr => ⟨by have := (h r hr).dims; omega, by have := (h r hr).aggs; omega⟩⟩
theorem listsB_of {l : List (List Row)} {nd na : Nat} (hl : l.length ≤ 1000) (hs : (l.map (·.length)).sum ≤ 1000) (hnd : nd ≤ 40) (hna : na ≤ 40) (h : ∀ x ∈ l, x.length ≤ 1000 ∧ ∀ r ∈ x, RowGood nd na r) : ListsB l = true := by
 simp only [ListsB, Bool.and_eq_true, decide_eq_true_eq, List.all_eq_true]
 exact ⟨⟨by omega, by omega⟩, fun x hx => copyOk_of (h x hx).1 hnd hna (h x hx).2⟩
theorem ins_end : ∀ {o : List Row} {r : Row}, (∀ y ∈ o, cmpRow y r < 0) → ins o r = some (o ++ [r])
 | [], r, _ => rfl
 | x :: t, r, h => by rw [ins_lt (h x (List.mem_cons_self ..)), ins_end (fun y hy => h y (List.mem_cons_of_mem _ hy))]; rfl
theorem foldI_end : ∀ (l o : List Row), (o ++ l).Pairwise (fun a b => cmpRow a b < 0) → foldI o l = some (o ++ l)
 | [], o, _ => by rw [foldI, List.append_nil]
 | r :: t, o, h => by
  have h1 := List.pairwise_append.1 h
  rw [foldI, ins_end (fun y hy => h1.2.2 y hy r (List.mem_cons_self ..)), Option.bind_some, foldI_end t (o ++ [r]) (by rw [List.append_assoc]; exact h), List.append_assoc]
  rfl
theorem foldI_self {l : List Row} (h : sortedR l = true) : foldI [] l = some l := by rw [foldI_end l [] (sortedR_pairwise h)]; rfl
end Go.Proofs.Ytdeeffahfkndkaa.P
namespace Go.Proofs.Ytdeeffahfkndkaa.P
open Go.RowKit Go.Proofs.YtdeeffahfkndkaaW.PrintWords Go.Proofs.YtdeeffahfkndkaaW.PrintLast Go.Proofs.YtdeeffahfkndkaaW.PrintMore
set_option linter.unusedVariables false
set_option linter.unusedSimpArgs false
theorem perm_fold {l m : List Row} (hs : sortedR l = true) (hp : m.Perm l) : foldI [] m = some l := by
 have hsp := sortedR_pairwise hs
 have h := stab_sort (l.map fun r => ((r, (0 : Int)) : TR)) (m.map fun r => ((r, (0 : Int)) : TR)) (hp.symm.map _) (by rw [List.pairwise_map]; exact hsp.imp (fun h => .inl h)) (by rw [List.pairwise_map]; exact List.Pairwise.imp (R := fun _ _ => True) (fun _ _ => Int.le_refl _) (List.pairwise_of_forall (fun _ _ => trivial)))
  (fun a ha b hb hz _ => by
   obtain ⟨r, hr, rfl⟩ := List.mem_map.1 ha
   obtain ⟨r', hr', rfl⟩ := List.mem_map.1 hb
   rw [strict_eq hsp r r' (hp.mem_iff.1 hr) (hp.mem_iff.1 hr') hz])
 have e : ∀ q : List Row, (q.map fun r => ((r, (0 : Int)) : TR)).map (·.1) = q := fun q => by induction q with
  | nil => rfl
  | cons a q ih => rw [List.map_cons, List.map_cons, ih]
 rw [e, e] at h
 rw [foldI_stab h, foldI_self hs]
theorem sub_sorted {l m : List Row} (hs : sortedR l = true) (h : m.Sublist l) : sortedR m = true := sortedR_of ((sortedR_pairwise hs).sublist h)
theorem perm_lists {ls : List (List Row)} {l : List Row} {nd na : Nat} (hg : ∀ r ∈ l, RowGood nd na r) (hs : sortedR l = true) (hp : ls.flatten.Perm l) (hsub : ∀ x ∈ ls, sortedR x = true) : listsE ls = (l, 0) := by
 rw [listsE_fold (List.all_eq_true.2 hsub) na (fun r hr => (hg r (hp.mem_iff.1 hr)).aggs), perm_fold hs hp]
theorem less_fin (a b : Row) (hl : a.f1.length ≤ maxLen) : ∀ n i : Nat, i + n = a.f1.length → Fin (fun k => columbaryref13_Less.l0 k (i : Int) a.f0 a.f1 a.f2 a.f3 b.f0 b.f1 b.f2 b.f3) True
 | 0, i, h => by
  refine Fin.step (fun k => by rw [columbaryref13_Less.l0, if_neg (by omega)]) ?_
  exact Fin.step (fun k => by rw [columbaryref13_Less.j1, if_neg (by decide)]) Fin.no
 | n + 1, i, h => by
  have hm : a.f1.length ≤ 9223372036854775807 := hl
  have ew : wrap64 ((i : Int) + 1) = ((i + 1 : Nat) : Int) := wrap_nat (by omega)
  have ih := less_fin a b hl n (i + 1) (by omega)
  refine Fin.step (fun k => by rw [columbaryref13_Less.l0, if_pos (by omega)]) ?_
  by_cases h2 : i < b.f1.length
  ·refine Fin.step (fun k => by rw [columbaryref13_Less.j1, if_pos (decide_eq_true (by omega)), if_pos (by omega), if_pos (by omega), if_pos (by omega), ew]) ?_
   exact Fin.ite (fun _ => ih) (fun _ => Fin.any _)
  ·exact Fin.step (fun k => by rw [columbaryref13_Less.j1, if_neg (by rw [decide_eq_false (by omega)]; decide)]) Fin.no
theorem lessf_fin (a b : Row) (hl : a.f1.length ≤ maxLen) : Fin (fun k => columbaryref13_Less.f k a.f0 a.f1 a.f2 a.f3 b.f0 b.f1 b.f2 b.f3) True := by
 unfold columbaryref13_Less.f
 exact Fin.ite (fun _ => less_fin a b hl _ 0 (Nat.zero_add _)) (fun _ => Fin.any _)
theorem sorted_fin0 (l : List Row) (hl : l.length ≤ maxLen) (hr : ∀ r ∈ l, r.f1.length ≤ maxLen) : ∀ n i : Nat, i + 1 + n = l.length → Fin (fun k => columbaryref13_Sorted.l0 k l ((i + 1 : Nat) : Int)) True
 | 0, i, h => Fin.step (fun k => by rw [columbaryref13_Sorted.l0, if_neg (by omega)]) (Fin.yes trivial)
 | n + 1, i, h => by
  have hm : l.length ≤ 9223372036854775807 := hl
  have hi : i < l.length := by omega
  have hi2 : i + 1 < l.length := by omega
  have ew : wrap64 (((i + 1 : Nat) : Int) + 1) = ((i + 1 + 1 : Nat) : Int) := wrap_nat (by omega)
  have ew2 : wrap64 (((i + 1 : Nat) : Int) - 1) = (i : Int) := by unfold wrap64; omega
  refine Fin.step (fun k => by rw [columbaryref13_Sorted.l0, if_pos (by omega), ew2, if_pos (by omega), if_pos (by omega), if_pos (by omega), rd_T39_nat l i hi, rd_T39_nat l (i + 1) hi2, ew]) ?_
  exact Fin.bind (lessf_fin _ _ (hr _ (List.getElem_mem hi))) (fun _ => Fin.pos rfl (sorted_fin0 l hl hr n (i + 1) (by omega))) (Fin.neg (by decide) Fin.no)
theorem sorted_fin (l : List Row) (hl : GList l) : Fin (fun k => columbaryref13_Sorted.f k l) True := by
 unfold columbaryref13_Sorted.f
 rcases Nat.eq_zero_or_pos l.length with h0 | h0
 ·obtain rfl := List.length_eq_zero_iff.1 h0
  exact Fin.step (fun k => by rw [columbaryref13_Sorted.l0, if_neg (by decide)]) (Fin.yes trivial)
 ·exact sorted_fin0 l hl.1 (fun r hr => (hl.2 r hr).2.1.1) (l.length - 1) 0 (by omega)
end Go.Proofs.Ytdeeffahfkndkaa.P
namespace Go.Proofs.Ytdeeffahfkndkaa.P
open Go.RowKit Go.Proofs.YtdeeffahfkndkaaW.PrintWords Go.Proofs.YtdeeffahfkndkaaW.PrintLast Go.Proofs.YtdeeffahfkndkaaW.PrintMore
set_option linter.unusedVariables false
set_option linter.unusedSimpArgs false
theorem lists_C {W : World} {g : Nat} {cells : Array Value} (h : W.heap[g]? = some (.cells cells 28 (0, 0))) (l : List (List Row)) (hm : l.length ≤ maxLen) (hc : ∀ (j : Nat) x, l[j]? = some x → ∃ A c, cells[j]? = some (.slice A x.length c) ∧ x.length ≤ c ∧ k39.C W A x.length x) : Kd.C (Kd.slice 39 k39) W (some ⟨g, 0, none⟩) l.length l :=
 C_blk (d := Kd.slice 39 k39) h l hm (fun j x hj => by
  obtain ⟨A, c, h1, h2, h3⟩ := hc j x hj
  refine ⟨[.slice A x.length c], rfl, ⟨A, c, rfl, h2, h3⟩, fun i u hu => ?_⟩
  match i, hu with
  | 0, hu => cases hu; show cells[j * 1 + 0]? = _; rw [Nat.mul_one, Nat.add_zero]; exact h1
  | i + 1, hu => simp at hu)
end Go.Proofs.Ytdeeffahfkndkaa.P
namespace Go.Proofs.Ytdeeffahfkndkaa.P
open Go.RowKit Go.Proofs.YtdeeffahfkndkaaW.PrintWords Go.Proofs.YtdeeffahfkndkaaW.PrintLast Go.Proofs.YtdeeffahfkndkaaW.PrintMore
set_option linter.unusedVariables false
set_option linter.unusedSimpArgs false
def PartsSkip (b s : Bool) (at_ : Int) (n : Nat) : Prop := b = false ∨ s = false ∨ at_ < 0 ∨ (n : Int) < at_
set_option maxHeartbeats 8000000 in
set_option maxRecDepth 100000 in
theorem parts_walk_skip (w : World) (A0 : Option Addr) (c0 : Nat) (l0 : List ByteArray) (A1 : Option Addr) (c1 : Nat) (l1 : List ByteArray) (A : Option Addr) (c : Nat) (l : List Row) (at_ : Int) (b s : Bool) (hb : PartsSkip b s at_ l.length)
  (hf : ∀ W, Below w.heap.size w W → Calls Try.prog 15 #[.agg #[.slice A0 l0.length c0, .slice A1 l1.length c1], .slice A l.length c] W fun e w' => e = .returned (.bool b) ∧ Below W.heap.size W w')
  (hs : ∀ W, Below w.heap.size w W → Calls Try.prog 14 #[.slice A l.length c] W fun e w' => e = .returned (.bool s) ∧ Below W.heap.size W w') :
  Calls Try.prog 5 #[.agg #[.slice A0 l0.length c0, .slice A1 l1.length c1], .slice A l.length c, .int .i64 at_] w fun e w' => e = .returned (.bool true) ∧ Below w.heap.size w w' := by
 have HF := Z0.mk hf
 have HS := Z0.mk hs
 have HL : Z0 (∀ W, Calls Try.prog 8 #[] W fun e w' => e = .returned (.bool true) ∧ Below W.heap.size W w') := ⟨fun W => columbarylaw15_alive.calls true W rfl⟩
 clear hf hs
 have key : (b = false) ∨ (b = true ∧ s = false) ∨ (b = true ∧ s = true ∧ at_ < 0) ∨ (b = true ∧ s = true ∧ 0 ≤ at_ ∧ (l.length : Int) < at_) := by
  unfold PartsSkip at hb
  cases b
  ·exact .inl rfl
  ·cases s
   ·exact .inr (.inl ⟨rfl, rfl⟩)
   ·rcases hb with h | h | h | h
    ·cases h
    ·cases h
    ·exact .inr (.inr (.inl ⟨rfl, rfl, h⟩))
    ·exact .inr (.inr (.inr ⟨rfl, rfl, by omega, h⟩))
 clear hb
 rcases key with rfl | ⟨rfl, rfl⟩ | ⟨rfl, rfl, h1⟩ | ⟨rfl, rfl, h0, h1⟩
 all_goals
  go_enter Try.func5, Try.ntmps5
  go_wp2_with (first
   | (go_at_call 15; refine (HF.out _ (beA (Below.refl _ _) _)).mono ?_; rintro e w1 ⟨rfl, hb1⟩; have HB1 := Z0.mk (below_then (beA (Below.refl _ _) _) hb1); clear hb1)
   | (go_at_call 14; refine (HS.out _ HB1.out).mono ?_; rintro e w2 ⟨rfl, hb2⟩; have HB2 := Z0.mk (below_then HB1.out hb2); clear hb2)
   | (go_at_call 8; refine (HL.out _).mono ?_; rintro e w3 ⟨rfl, hb3⟩; have HB3 := Z0.mk (below_then HB2.out hb3); clear hb3))
  go_ret
  exact ⟨rfl, HB3.out⟩
theorem lists_three {w W : World} (hb : Below w.heap.size w W) {n : Nat} (hn : W.heap.size = n) {x y : List Row} {Ax : Option Addr} {nx cx : Nat} {Ay : Option Addr} {ny cy : Nat} (hnx : x.length = nx) (lx : x.length ≤ cx) (hx : k39.C W Ax x.length x) (hny : y.length = ny) (ly : y.length ≤ cy) (hy : k39.C W Ay y.length y) {r : List Row} (hB : ListsB [x, [], y] = true) (hr : listsE [x, [], y] = (r, 0)) :
  Calls Try.prog 9 #[.slice (some ⟨n, 0, none⟩) 3 3] (W.alloc (.cells #[.slice Ax nx cx, .slice none 0 0, .slice Ay ny cy] 28)) fun e w' => ∃ v, e = .returned (.tuple #[v, .int .i64 0]) ∧ Kd.R k39 39 w' w.heap.size (fun _ => True) v r ∧ Below w.heap.size w w' ∧ Below W.heap.size W w' := by
 subst hnx; subst hny
 have hb2 := beA (Below.refl W.heap.size W) (.cells #[.slice Ax x.length cx, .slice none 0 0, .slice Ay y.length cy] 28)
 have hb3 := beA hb (.cells #[.slice Ax x.length cx, .slice none 0 0, .slice Ay y.length cy] 28)
 refine (merge_Lists.calls (some ⟨n, 0, none⟩) 3 [x, [], y] r 0 _ (lists_C (blk_at hn _ _) [x, [], y] (by simp [maxLen]) (fun j z hj => ?_)) (Nat.le_refl _) (by unfold merge_Lists.f; rw [if_pos hB, hr])).mono ?_
 ·match j, hj with
  | 0, hj => cases hj; exact ⟨Ax, cx, rfl, lx, Kd.C_below hx hb2⟩
  | 1, hj => cases hj; exact ⟨none, 0, rfl, Nat.le_refl _, none_C _ _⟩
  | 2, hj => cases hj; exact ⟨Ay, cy, rfl, ly, Kd.C_below hy hb2⟩
  | j + 3, hj => simp at hj
 ·rintro e w' ⟨v, rfl, hR, hb4⟩
  exact ⟨v, rfl, Kd.R_lower hR hb3.size, below_then hb3 hb4, below_then hb2 hb4⟩
theorem lists_two {w W : World} (hb : Below w.heap.size w W) {n : Nat} (hn : W.heap.size = n) {x y : List Row} {Ax : Option Addr} {nx cx : Nat} {Ay : Option Addr} {ny cy : Nat} (hnx : x.length = nx) (lx : x.length ≤ cx) (hx : k39.C W Ax x.length x) (hny : y.length = ny) (ly : y.length ≤ cy) (hy : k39.C W Ay y.length y) {r : List Row} {f : Int} (hB : ListsB [x, y] = true) (hr : listsE [x, y] = (r, f)) :
  Calls Try.prog 9 #[.slice (some ⟨n, 0, none⟩) 2 2] (W.alloc (.cells #[.slice Ax nx cx, .slice Ay ny cy] 28)) fun e w' => ∃ v, e = .returned (.tuple #[v, .int .i64 f]) ∧ Kd.R k39 39 w' w.heap.size (fun _ => True) v r ∧ Below w.heap.size w w' := by
 subst hnx; subst hny
 have hb2 := beA (Below.refl W.heap.size W) (.cells #[.slice Ax x.length cx, .slice Ay y.length cy] 28)
 have hb3 := beA hb (.cells #[.slice Ax x.length cx, .slice Ay y.length cy] 28)
 refine (merge_Lists.calls (some ⟨n, 0, none⟩) 2 [x, y] r f _ (lists_C (blk_at hn _ _) [x, y] (by simp [maxLen]) (fun j z hj => ?_)) (Nat.le_refl _) (by unfold merge_Lists.f; rw [if_pos hB, hr])).mono ?_
 ·match j, hj with
  | 0, hj => cases hj; exact ⟨Ax, cx, rfl, lx, Kd.C_below hx hb2⟩
  | 1, hj => cases hj; exact ⟨Ay, cy, rfl, ly, Kd.C_below hy hb2⟩
  | j + 2, hj => simp at hj
 ·rintro e w' ⟨v, rfl, hR, hb4⟩
  exact ⟨v, rfl, Kd.R_lower hR hb3.size, below_then hb3 hb4⟩
theorem rv_C {w W : World} (hb : Below w.heap.size w W) {A : Option Addr} {n : Nat} {zs : List (RV w)} (h : (kRV w).C W A n zs) : k39.C W A n (zs.map (·.x)) := by
 refine ⟨by rw [List.length_map]; exact h.1, h.2.1, fun hn => ?_⟩
 obtain ⟨ad, e, hc⟩ := h.2.2 hn
 refine ⟨ad, e, fun j p hj => ?_⟩
 rw [List.getElem?_map, Option.map_eq_some_iff] at hj
 obtain ⟨z, hz, rfl⟩ := hj
 obtain ⟨c, h1, h2, h3⟩ := hc j z hz
 have h2' : c = z.cells := h2
 subst h2'
 exact ⟨_, rfl, k39_mk W z.x z.l1 (Kd.C_below z.g1 hb) z.l3 (Kd.C_below z.g3 hb), h3⟩
structure Dealt (w w4 : World) (l : List Row) (i : Nat) (zo ze : List (RV w)) (vo ve : Value) (W : World) : Prop where
 perm : ((zo ++ ze).map (·.x)).Perm (l.take i)
 subo : (zo.map (·.x)).Sublist (l.take i)
 sube : (ze.map (·.x)).Sublist (l.take i)
 ro : (kRV w).R 39 W w4.heap.size (fun _ => True) vo zo
 re : (kRV w).R 39 W w4.heap.size (fun _ => True) ve ze
 ne : ∀ k, vo.ownBlock = some k → some k ≠ ve.ownBlock
 below : Below w4.heap.size w4 W
theorem Dealt.few {w w4 : World} {l : List Row} {i : Nat} {zo ze : List (RV w)} {vo ve : Value} {W : World} (h : Dealt w w4 l i zo ze vo ve W) (hi : i ≤ l.length) : zo.length + ze.length = i := by
 have h1 := h.perm.length_eq
 rw [List.length_map, List.length_append, List.length_take] at h1
 omega
theorem Dealt.even {w w4 : World} {l : List Row} {i : Nat} {zo ze : List (RV w)} {vo ve ve' : Value} {W W' : World} {p : RV w} (h : Dealt w w4 l i zo ze vo ve W) (hp : l[i]? = some p.x)
  (hR : (kRV w).R 39 W' w4.heap.size (fun _ => True) ve' (ze ++ [p])) (hB : Below w4.heap.size w4 W') (hg : W.grownBy W' ve.ownBlock) (hat : ve'.ownBlock = ve.ownBlock ∨ ∃ b, ve'.ownBlock = some b ∧ W.heap.size ≤ b) : Dealt w w4 l (i + 1) zo (ze ++ [p]) vo ve' W' where
 perm := by
  rw [List.take_add_one, hp, ← List.append_assoc, List.map_append]
  exact h.perm.append_right _
 subo := by
  rw [List.take_add_one, hp]
  exact h.subo.trans (List.sublist_append_left _ _)
 sube := by
  rw [List.take_add_one, hp, List.map_append]
  exact h.sube.append (List.Sublist.refl _)
 ro := Kd.R_grown2 h.ro rfl hg (fun k hk e => h.ne k e.symm hk.symm)
 re := hR
 ne := fun k hk e => by
  rcases hat with hat | ⟨b, hb, hle⟩
  ·rw [hat] at e; exact h.ne k hk e
  ·rw [hb] at e
   injection e with e
   have := Kd.R_lt h.ro k hk
   omega
 below := hB
theorem Dealt.odd {w w4 : World} {l : List Row} {i : Nat} {zo ze : List (RV w)} {vo ve vo' : Value} {W W' : World} {p : RV w} (h : Dealt w w4 l i zo ze vo ve W) (hp : l[i]? = some p.x)
  (hR : (kRV w).R 39 W' w4.heap.size (fun _ => True) vo' (zo ++ [p])) (hB : Below w4.heap.size w4 W') (hg : W.grownBy W' vo.ownBlock) (hat : vo'.ownBlock = vo.ownBlock ∨ ∃ b, vo'.ownBlock = some b ∧ W.heap.size ≤ b) : Dealt w w4 l (i + 1) (zo ++ [p]) ze vo' ve W' where
 perm := by
  rw [List.take_add_one, hp]
  have h1 : ((zo ++ [p] ++ ze).map (·.x)).Perm (((zo ++ ze) ++ [p]).map (·.x)) := by
   refine List.Perm.map _ ?_
   rw [List.append_assoc, List.append_assoc]
   exact (List.perm_append_comm).append_left zo
  refine h1.trans ?_
  rw [List.map_append]
  exact h.perm.append_right _
 subo := by
  rw [List.take_add_one, hp, List.map_append]
  exact h.subo.append (List.Sublist.refl _)
 sube := by
  rw [List.take_add_one, hp]
  exact h.sube.trans (List.sublist_append_left _ _)
 ro := hR
 re := Kd.R_grown2 h.re rfl hg (fun k hk => h.ne k hk)
 ne := fun k hk e => by
  rcases hat with hat | ⟨b, hb, hle⟩
  ·rw [hat] at hk; exact h.ne k hk e
  ·rw [hb] at hk
   injection hk with hk
   have := Kd.R_lt h.re k e.symm
   omega
 below := hB
set_option maxHeartbeats 8000000 in
set_option maxRecDepth 100000 in
theorem parts_walk_yes (w : World) (A0 : Option Addr) (c0 : Nat) (l0 : List ByteArray) (A1 : Option Addr) (c1 : Nat) (l1 : List ByteArray) (A : Option Addr) (c : Nat) (l : List Row) (m : Nat) (hm : m ≤ l.length) (hlen : l.length ≤ 120) (hlc : l.length ≤ c) (hC : k39.C w A l.length l) (hok : rows_Copy.ok l = true)
  (hf : ∀ W, Below w.heap.size w W → Calls Try.prog 15 #[.agg #[.slice A0 l0.length c0, .slice A1 l1.length c1], .slice A l.length c] W fun e w' => e = .returned (.bool true) ∧ Below W.heap.size W w')
  (hs : ∀ W, Below w.heap.size w W → Calls Try.prog 14 #[.slice A l.length c] W fun e w' => e = .returned (.bool true) ∧ Below W.heap.size W w')
  (hsm : ∀ W A' c', Below w.heap.size w W → k39.C W A' l.length l → l.length ≤ c' → Calls Try.prog 13 #[.slice A' l.length c', .slice A l.length c] W fun e w' => e = .returned (.bool true) ∧ Below W.heap.size W w')
  (hE : ∀ ls : List (List Row), ls.flatten.Perm l → (∀ x ∈ ls, x.Sublist l) → ls.length ≤ 3 → ListsB ls = true ∧ listsE ls = (l, 0)) :
  Calls Try.prog 5 #[.agg #[.slice A0 l0.length c0, .slice A1 l1.length c1], .slice A l.length c, .int .i64 m] w fun e w' => e = .returned (.bool true) ∧ Below w.heap.size w w' := by
 have HF := Z0.mk hf
 have HS := Z0.mk hs
 have HSM := Z0.mk hsm
 have HE := Z0.mk hE
 have HC := Z0.mk hC
 have HOK := Z0.mk hok
 have HL : Z0 (∀ W, Calls Try.prog 8 #[] W fun e w' => e = .returned (.bool true) ∧ Below W.heap.size W w') := ⟨fun W => columbarylaw15_alive.calls true W rfl⟩
 obtain ⟨i0, hi0, _, hsz, _⟩ := info_parts info39
 have hcut1 := cut_from (P := Try.prog) 28 39 .i64 Try.underlying28 hi0 4 hsz A l.length c (m : Int) (by omega) (by omega)
 have hcut2 := cut_to (P := Try.prog) 28 39 .i64 Try.underlying28 hi0 A l.length c (m : Int) (by omega) (by omega) hlc
 rw [Int.toNat_natCast] at hcut1 hcut2
 have hD : ∀ W, Below w.heap.size w W → k39.C W (if c = m then A else A.map (·.add (m * 4))) (l.drop m).length (l.drop m) := fun W hW => Kd.C_drop (Kd.C_below hC hW) hm hlc
 have hT : ∀ W, Below w.heap.size w W → k39.C W A (l.take m).length (l.take m) := fun W hW => Kd.C_take (Kd.C_below hC hW) hm
 generalize (if c = m then A else A.map (·.add (m * 4))) = A2 at hcut1 hD
 obtain ⟨n2, hn2⟩ : ∃ n2, n2 = l.length - m := ⟨_, rfl⟩
 obtain ⟨c2, hc2⟩ : ∃ c2, c2 = c - m := ⟨_, rfl⟩
 rw [← hn2, ← hc2] at hcut1
 have HX : Z0 (∀ W, Below w.heap.size w W → ∀ n, W.heap.size = n → Calls Try.prog 9 #[.slice (some ⟨n, 0, none⟩) 2 2] (W.alloc (.cells #[.slice A2 n2 c2, .slice A m c] 28)) fun e w' => ∃ v, e = .returned (.tuple #[v, .int .i64 0]) ∧ Kd.R k39 39 w' w.heap.size (fun _ => True) v l ∧ Below w.heap.size w w') := ⟨fun W hW n hn => by
  have he := hE [l.drop m, l.take m] (by simp only [List.flatten_cons, List.flatten_nil, List.append_nil]; exact (List.perm_append_comm).trans (by rw [List.take_append_drop])) (fun x hx => by
   simp only [List.mem_cons, List.not_mem_nil, or_false] at hx
   rcases hx with rfl | rfl
   ·exact List.drop_sublist _ _
   ·exact List.take_sublist _ _) (by simp)
  have h1 : (l.drop m).length = n2 := by rw [List.length_drop, hn2]
  have h2 : (l.take m).length = m := by rw [List.length_take]; omega
  exact lists_two hW hn h1 (by omega) (hD W hW) h2 (by omega) (hT W hW) he.1 he.2⟩
 clear hf hs hsm hE hC hok hi0 hsz hD hT hn2 hc2
 have hm0 : decide ((m : Int) < 0) = false := decide_eq_false (by omega)
 have hm1 : decide (l.length < m) = false := decide_eq_false (by omega)
 have hm2 : decide ((l.length : Int) < (m : Int)) = false := decide_eq_false (by omega)
 go_enter Try.func5, Try.ntmps5
 go_wp2_with (first
  | (go_at_call 15; refine (HF.out _ (beA (Below.refl _ _) _)).mono ?_; rintro e w1 ⟨rfl, hb1⟩; have HB1 := Z0.mk (below_then (beA (Below.refl _ _) _) hb1); clear hb1)
  | (go_at_call 14; refine (HS.out _ HB1.out).mono ?_; rintro e w2 ⟨rfl, hb2⟩; have HB2 := Z0.mk (below_then HB1.out hb2); clear hb2))
 refine start_ (n := 13) (S := fun _ => True) (ds := []) #[false, false, false, false, false, false, false, false, false, false, false, false, false] (by kernel_rfl) rfl rfl trivial (fun hHeld => ?_)
 refine pure_ (i := 0) (N := some 41) (v := .slice A l.length c) (a' := ?aa101) #[true, false, false, false, false, false, false, false, false, false, false, false, false] rfl rfl (by kernel_rfl) (fun _ _ _ h => h) (Or.inl ⟨by rfl, ?hy101⟩) ?ha101 ?h101
 case hy101 => (intro w'; clear hHeld; go_simp)
 case ha101 => (show Act.put _ _ _ = _; simp only [Act.put, qA, qB, qC]; rfl)
 refine pure_ (i := 1) (N := some 42) (v := .int .i64 m) (a' := ?aa102) #[true, true, false, false, false, false, false, false, false, false, false, false, false] rfl rfl (by kernel_rfl) (fun _ _ _ h => h) (Or.inl ⟨by rfl, ?hy102⟩) ?ha102 ?h102
 case hy102 => (intro w'; clear hHeld; go_simp)
 case ha102 => (show Act.put _ _ _ = _; simp only [Act.put, qA, qB, qC]; rfl)
 refine pure_ (i := 2) (N := some 43) (v := .slice A2 n2 c2) (a' := ?aa103) #[true, true, true, false, false, false, false, false, false, false, false, false, false] rfl rfl (by kernel_rfl) (fun _ _ _ h => h) (Or.inl ⟨by rfl, ?hy103⟩) ?ha103 ?h103
 case hy103 => (intro w'; clear hHeld; go_simp)
 case ha103 => (show Act.put _ _ _ = _; simp only [Act.put, qA, qB, qC]; rfl)
 refine pure_ (i := 3) (N := some 44) (v := .slice A l.length c) (a' := ?aa104) #[true, true, true, true, false, false, false, false, false, false, false, false, false] rfl rfl (by kernel_rfl) (fun _ _ _ h => h) (Or.inl ⟨by rfl, ?hy104⟩) ?ha104 ?h104
 case hy104 => (intro w'; clear hHeld; go_simp)
 case ha104 => (show Act.put _ _ _ = _; simp only [Act.put, qA, qB, qC]; rfl)
 refine pure_ (i := 4) (N := some 45) (v := .int .i64 m) (a' := ?aa105) #[true, true, true, true, true, false, false, false, false, false, false, false, false] rfl rfl (by kernel_rfl) (fun _ _ _ h => h) (Or.inl ⟨by rfl, ?hy105⟩) ?ha105 ?h105
 case hy105 => (intro w'; clear hHeld; go_simp)
 case ha105 => (show Act.put _ _ _ = _; simp only [Act.put, qA, qB, qC]; rfl)
 refine pure_ (i := 5) (N := some 46) (v := .slice A m c) (a' := ?aa106) #[true, true, true, true, true, true, false, false, false, false, false, false, false] rfl rfl (by kernel_rfl) (fun _ _ _ h => h) (Or.inl ⟨by rfl, ?hy106⟩) ?ha106 ?h106
 case hy106 => (intro w'; clear hHeld; go_simp)
 case ha106 => (show Act.put _ _ _ = _; simp only [Act.put, qA, qB, qC]; rfl)
 have HB3 := Z0.mk (below_drew HB2.out)
 generalize w2.drew = w3 at HB3 ⊢
 obtain ⟨n3, hn3⟩ : ∃ n, w3.heap.size = n := ⟨_, rfl⟩
 have HN3 := Z0.mk hn3
 clear hn3
 refine one_ (i := 6) (N := some 47) #[true, true, true, true, true, true, true, false, false, false, false, false, false] rfl rfl (by kernel_rfl) (by decide) (fun K hK => ?_)
 refine value_ (v := .slice (some ⟨n3, 0, none⟩) 2 2) (w1 := w3.alloc (.cells #[.slice A2 n2 c2, .slice A m c] 28)) (by rfl) rfl (by rw [← HN3.out]; clear hHeld; go_simp) ?_
 refine hK.out _ _ trivial (fun hHeld => ?_)
 clear hK K
 refine norm_ (a' := ?aa60) ?ha60 ?h60
 case ha60 => (show Act.put _ _ _ = _; simp only [Act.put, qA, qB, qC]; rfl)
 refine one_ (i := 7) (N := some 48) #[true, true, true, true, true, true, true, true, false, false, false, false, false] rfl rfl (by kernel_rfl) (by decide) (fun K hK => ?_)
 refine goes_ Try.func9 (by kernel_rfl) rfl #[.slice (some ⟨n3, 0, none⟩) 2 2] (by rfl) rfl rfl (by (try simp only [List.map_toArray, List.map_cons, List.map_nil]); first | done | rfl) ?_
 refine (HX.out _ HB3.out _ HN3.out).mono ?_
 rintro e w4 ⟨v, rfl, hR4, hb4⟩
 refine ⟨_, rfl, ?_⟩
 refine hK.out _ _ trivial (fun hHeld => ?_)
 clear hK K
 refine norm_ (a' := ?aa61) ?ha61 ?h61
 case ha61 => (show Act.put _ _ _ = _; simp only [Act.put, qA, qB, qC]; rfl)
 refine pure_ (i := 8) (N := some 40) (v := .tuple #[v, .int .i64 0]) (a' := ?ab8) #[true, true, true, true, true, true, true, true, true, false, false, false, false] rfl rfl (by kernel_rfl) (fun _ _ _ h => h) (Or.inl ⟨by rfl, ?hyb8⟩) ?hab8 ?hb8
 case hyb8 => (intro w'; clear hHeld; go_simp)
 case hab8 => (show Act.put _ _ _ = _; simp only [Act.put, qA, qB, qC]; rfl)
 refine pure_ (i := 9) (N := some 49) (v := v) (a' := ?ab9) #[true, true, true, true, true, true, true, true, true, true, false, false, false] rfl rfl (by kernel_rfl) (fun _ _ _ h => h) (Or.inl ⟨by rfl, ?hyb9⟩) ?hab9 ?hb9
 case hyb9 => (intro w'; clear hHeld; go_simp)
 case hab9 => (show Act.put _ _ _ = _; simp only [Act.put, qA, qB, qC]; rfl)
 refine pure_ (i := 10) (N := some 50) (v := .int .i64 0) (a' := ?ab10) #[true, true, true, true, true, true, true, true, true, true, true, false, false] rfl rfl (by kernel_rfl) (fun _ _ _ h => h) (Or.inl ⟨by rfl, ?hyb10⟩) ?hab10 ?hb10
 case hyb10 => (intro w'; clear hHeld; go_simp)
 case hab10 => (show Act.put _ _ _ = _; simp only [Act.put, qA, qB, qC]; rfl)
 refine pure_ (i := 11) (N := some 9) (v := v) (a' := ?ab11) #[true, true, true, true, true, true, true, true, true, true, true, true, false] rfl rfl (by kernel_rfl) (fun _ _ _ h => h) (Or.inl ⟨by rfl, ?hyb11⟩) ?hab11 ?hb11
 case hyb11 => (intro w'; clear hHeld; go_simp)
 case hab11 => (show Act.put _ _ _ = _; simp only [Act.put, qA, qB, qC]; rfl)
 refine pure_ (i := 12) (N := some 10) (v := .int .i64 0) (a' := ?ab12) #[true, true, true, true, true, true, true, true, true, true, true, true, true] rfl rfl (by kernel_rfl) (fun _ _ _ h => h) (Or.inl ⟨by rfl, ?hyb12⟩) ?hab12 ?hb12
 case hyb12 => (intro w'; clear hHeld; go_simp)
 case hab12 => (show Act.put _ _ _ = _; simp only [Act.put, qA, qB, qC]; rfl)
 refine done_ (by kernel_rfl) ?_
 obtain ⟨Ax, cx, ex⟩ := Kd.R_slice hR4
 subst ex
 have HX4 : Z0 (∀ W, Below w4.heap.size w4 W → k39.C W Ax l.length l ∧ l.length ≤ cx) := ⟨fun W hW => ⟨Kd.C_below (Kd.R_reads' hR4).2.2 hW, (Kd.R_reads' hR4).2.1⟩⟩
 have HB4 := Z0.mk hb4
 clear hR4 hb4 hHeld HB3 HN3 hcut1 hcut2 HX
 have hrr : ∀ W, Below w.heap.size w W → ∃ ys : List (RV w), ys.map (·.x) = l ∧ ReadsRow (fun p c => c = p.cells) 4 W A l.length ys := fun W hW => rv_rows HC.out HOK.out hW
 have HRR := Z0.mk hrr
 clear hrr
 go_wp2
 go_loopg [11, 12, 13] (l.length + 1) (fun gk v11 v12 v13 w' => ∃ (i : Nat) (zo ze : List (RV w)) (Ao : Option Addr) (co : Nat) (Ae : Option Addr) (ce : Nat), v13 = .int .i64 (i : Int) ∧ v11 = .slice Ao zo.length co ∧ v12 = .slice Ae ze.length ce ∧ l.length < gk + i ∧ i ≤ l.length ∧ Z0 (Dealt w w4 l i zo ze (.slice Ao zo.length co) (.slice Ae ze.length ce) w'))
 case atStart => exact ⟨0, [], [], none, 0, none, 0, rfl, rfl, rfl, by omega, Nat.zero_le _, ⟨⟨by simp, by simp, by simp, Kd.R_nil _ _ _ _ _, Kd.R_nil _ _ _ _ _, fun k hk => by simp [Value.ownBlock] at hk, Below.refl _ _⟩⟩⟩
 case round =>
  obtain ⟨i, zo, ze, Ao, co, Ae, ce, rfl, rfl, rfl, hgk, hil, HD⟩ := hrel
  cases gk with
  | zero => exact absurd hgk (by omega)
  | succ k1 =>
   have hfew := HD.out.few hil
   by_cases hlt : i < l.length
   ·obtain ⟨ys, hy, _, _, hcc⟩ := HRR.out _ (below_then HB4.out HD.out.below)
    have hyl : ys.length = l.length := by rw [← hy, List.length_map]
    obtain ⟨p, hp⟩ : ∃ p, ys[i]? = some p := ⟨_, List.getElem?_eq_getElem (by omega)⟩
    obtain ⟨ad, rfl, hce⟩ := hcc (by omega)
    obtain ⟨cl, _, hcl, hci⟩ := hce i p hp
    subst hcl
    have hpx : l[i]? = some p.x := by rw [← hy, List.getElem?_map, hp]; rfl
    have e0 := hci 0 _ rfl
    have e1 := hci 1 _ rfl
    have e2 := hci 2 _ rfl
    have e3 := hci 3 _ rfl
    rw [Nat.add_zero] at e0
    rw [add_field _ _ 1 (by omega)] at e1
    rw [add_field _ _ 2 (by omega)] at e2
    rw [add_field _ _ 3 (by omega)] at e3
    have HPX := Z0.mk hpx
    clear hpx hce hcc hci hy hyl hp
    have hb1 : decide ((i : Int) < (l.length : Int)) = true := decide_eq_true (by omega)
    by_cases hpar : i % 2 = 0
    ·have q1 : (((i : Int) % 2) == 0) = true := by rw [beq_iff_eq]; omega
     have q2 : decide ((i : Int) % 2 = 0) = true := decide_eq_true (by omega)
     clear hpar
     go_wp2_with (first | ((with_reducible refine gate_builtin (b := .append) (xs := #[.tmp 60, .tmp 65]) rfl ?_); (try (refine gate_guard (by rfl) ?_; dsimp only)); at_builtin; refine Kd.R_append (kRV w) (w0 := w4) w4.heap.size rfl (.tmp 60) (.tmp 65) 28 39 (.agg #[.int .i64 0, .slice none 0 0, .int .i64 0, .slice none 0 0]) 64 rfl Try.underlying28 info39 rfl (Nat.succ_pos 3) (by decide) (.slice Ae ze.length ce) ze p p.cells (fun _ => True) (fun k => some k ≠ (Value.slice Ae ze.length ce).ownBlock) rfl rfl rfl (fun k hk => ⟨trivial, hk⟩) (fun k hk => trivial) HD.out.re HD.out.below HD.out.below.size (by omega) ?_; rintro v9 w9 hR9 hB9 hg9 hat9; have HD9 := Z0.mk (HD.out.even HPX.out hR9 hB9 hg9 hat9); obtain ⟨A9, c9, e9⟩ := Kd.R_slice hR9; subst e9; clear hR9 hB9 hg9 hat9))
     go_roundg k1
     case measure => exact Nat.lt_succ_self _
     case rel => exact ⟨i + 1, zo, ze ++ [p], Ao, co, A9, c9, by go_num, rfl, by simp, by omega, by omega, HD9⟩
    ·have q1 : (((i : Int) % 2) == 0) = false := by rw [beq_eq_false_iff_ne]; omega
     have q2 : decide ((i : Int) % 2 = 0) = false := decide_eq_false (by omega)
     clear hpar
     go_wp2_with (first | ((with_reducible refine gate_builtin (b := .append) (xs := #[.tmp 67, .tmp 72]) rfl ?_); (try (refine gate_guard (by rfl) ?_; dsimp only)); at_builtin; refine Kd.R_append (kRV w) (w0 := w4) w4.heap.size rfl (.tmp 67) (.tmp 72) 28 39 (.agg #[.int .i64 0, .slice none 0 0, .int .i64 0, .slice none 0 0]) 64 rfl Try.underlying28 info39 rfl (Nat.succ_pos 3) (by decide) (.slice Ao zo.length co) zo p p.cells (fun _ => True) (fun k => some k ≠ (Value.slice Ao zo.length co).ownBlock) rfl rfl rfl (fun k hk => ⟨trivial, hk⟩) (fun k hk => trivial) HD.out.ro HD.out.below HD.out.below.size (by omega) ?_; rintro v9 w9 hR9 hB9 hg9 hat9; have HD9 := Z0.mk (HD.out.odd HPX.out hR9 hB9 hg9 hat9); obtain ⟨A9, c9, e9⟩ := Kd.R_slice hR9; subst e9; clear hR9 hB9 hg9 hat9))
     go_roundg k1
     case measure => exact Nat.lt_succ_self _
     case rel => exact ⟨i + 1, zo ++ [p], ze, A9, c9, Ae, ce, by go_num, by simp, rfl, by omega, by omega, HD9⟩
   ·obtain rfl : i = l.length := by omega
    have hb1 : decide (((l.length : Nat) : Int) < (l.length : Int)) = false := decide_eq_false (by omega)
    have he := HE.out [zo.map (·.x), [], ze.map (·.x)] (by
     have := HD.out.perm
     rw [List.take_length, List.map_append] at this
     simpa using this) (fun x hx => by
     have h1 := HD.out.subo
     have h2 := HD.out.sube
     rw [List.take_length] at h1 h2
     simp only [List.mem_cons, List.not_mem_nil, or_false] at hx
     rcases hx with rfl | rfl | rfl
     ·exact h1
     ·exact List.nil_sublist _
     ·exact h2) (by simp)
    have hbw := below_then HB4.out HD.out.below
    have co1 := rv_C hbw (Kd.R_reads' HD.out.ro).2.2
    have ce1 := rv_C hbw (Kd.R_reads' HD.out.re).2.2
    have lo1 := (Kd.R_reads' HD.out.ro).2.1
    have le1 := (Kd.R_reads' HD.out.re).2.1
    have HY := Z0.mk (lists_three hbw rfl (List.length_map _) (by rw [List.length_map]; exact lo1) (by rw [List.length_map]; exact co1) (List.length_map _) (by rw [List.length_map]; exact le1) (by rw [List.length_map]; exact ce1) he.1 he.2)
    clear he hbw co1 ce1 lo1 le1 hfew
    go_wp2_with (first
     | (go_at_call 9; refine HY.out.mono ?_; rintro e w6 ⟨vy, rfl, hR6, hb6, hb7⟩; obtain ⟨Ay, cy, ey⟩ := Kd.R_slice hR6; subst ey; have HR6 := Z0.mk hR6; have HB6 := Z0.mk hb6; have HX6 := Z0.mk (HX4.out _ (below_then HD.out.below hb7)); clear hR6 hb6 hb7 HY)
     | (go_at_call 13; (with_reducible refine (HSM.out _ _ _ HB6.out HX6.out.1 HX6.out.2).mono ?_); rintro e w7 ⟨rfl, hb7⟩; have HR7 := Z0.mk (Kd.R_below HR6.out hb7); have HB7 := Z0.mk (below_then HB6.out hb7); clear hb7)
     | (go_at_call 13; refine (HSM.out _ _ _ HB7.out (Kd.R_reads' HR7.out).2.2 (Kd.R_reads' HR7.out).2.1).mono ?_; rintro e w8 ⟨rfl, hb8⟩; have HB8 := Z0.mk (below_then HB7.out hb8); clear hb8)
     | (go_at_call 8; refine (HL.out _).mono ?_; rintro e w9 ⟨rfl, hb9⟩; have HB9 := Z0.mk (below_then HB8.out hb9); clear hb9))
    go_ret
    exact ⟨rfl, HB9.out⟩
end Go.Proofs.Ytdeeffahfkndkaa.P
namespace Go.Proofs.Ytdeeffahfkndkaa.P
open Go.RowKit Go.Proofs.YtdeeffahfkndkaaW.PrintWords Go.Proofs.YtdeeffahfkndkaaW.PrintLast Go.Proofs.YtdeeffahfkndkaaW.PrintMore
set_option linter.unusedVariables false
set_option linter.unusedSimpArgs false
theorem parts_walk (w : World) (A0 : Option Addr) (c0 : Nat) (l0 : List ByteArray) (A1 : Option Addr) (c1 : Nat) (l1 : List ByteArray) (A : Option Addr) (c : Nat) (l : List Row) (at_ : Int)
  (q0 : l0.length ≤ c0) (C0 : Kd.string.C w A0 l0.length l0) (q1 : l1.length ≤ c1) (C1 : Kd.string.C w A1 l1.length l1) (g0 : ∀ s ∈ l0, GStr s) (g1 : ∀ s ∈ l1, GStr s) (q : l.length ≤ c) (C : k39.C w A l.length l) (g : GList l) :
  Calls Try.prog 5 #[.agg #[.slice A0 l0.length c0, .slice A1 l1.length c1], .slice A l.length c, .int .i64 at_] w fun e w' => e = .returned (.bool true) ∧ Below w.heap.size w w' := by
 obtain ⟨b, hb, hφ⟩ := fits13_fin l0 l1 g0 g1 l g.2
 obtain ⟨kf, hkf⟩ := hb.rounds
 obtain ⟨s, hs, _⟩ := sorted_fin l g
 obtain ⟨ks, hks⟩ := hs.rounds
 have hF : ∀ W, Below w.heap.size w W → Calls Try.prog 15 #[.agg #[.slice A0 l0.length c0, .slice A1 l1.length c1], .slice A l.length c] W fun e w' => e = .returned (.bool b) ∧ Below W.heap.size W w' := fun W hW =>
  (columbarylaw13_Fits.calls kf A0 c0 l0 A1 c1 l1 A c l b W (Kd.C_below C0 hW) q0 (Kd.C_below C1 hW) q1 (Kd.C_below C hW) q hkf).mono fun e w' h => h
 have hS : ∀ W, Below w.heap.size w W → Calls Try.prog 14 #[.slice A l.length c] W fun e w' => e = .returned (.bool s) ∧ Below W.heap.size W w' := fun W hW =>
  (columbaryref13_Sorted.calls ks A c l s W (Kd.C_below C hW) q hks).mono fun e w' h => h
 by_cases hc : b = true ∧ s = true ∧ 0 ≤ at_ ∧ at_ ≤ l.length
 ·obtain ⟨rfl, rfl, h0, h1⟩ := hc
  have LG := hφ rfl
  have hnd := LG.nd
  have hna := LG.na
  have hlen := LG.len
  obtain ⟨ks2, hks2⟩ := (sortedRef_ev l l0.length (fun r hr => (LG.rows r hr).dims) (by omega) (by omega)).rounds
  have hsr : sortedR l = true := by
   have e1 := hs
   have e2 := sortedRef_ev l l0.length (fun r hr => (LG.rows r hr).dims) (by omega) (by omega)
   obtain ⟨K1, f1⟩ := e1
   obtain ⟨K2, f2⟩ := e2
   have := (f1 (max K1 K2) (Nat.le_max_left _ _)).symm.trans (f2 (max K1 K2) (Nat.le_max_right _ _))
   exact (Option.some.inj this).symm
  obtain ⟨m, rfl⟩ : ∃ m : Nat, at_ = (m : Int) := ⟨at_.toNat, by omega⟩
  obtain ⟨km, hkm⟩ := (same_ev l l (by omega) (fun r hr => ⟨by have := (LG.rows r hr).dims; omega, by have := (LG.rows r hr).aggs; omega⟩)).rounds
  rw [eqB_self] at hkm
  exact parts_walk_yes w A0 c0 l0 A1 c1 l1 A c l m (by omega) hlen q C (copyOk_of (by omega) (by omega) (by omega) LG.rows) hF hS
   (fun W A' c' hW hC hc => (columbaryref13_Same.calls km A' c' l A c l true W hC hc (Kd.C_below C hW) q hkm).mono fun e w' h => h)
   (fun ls hp hsub hlen3 => by
    have hx : ∀ x ∈ ls, x.length ≤ 1000 ∧ ∀ r ∈ x, RowGood l0.length l1.length r := fun x hx => ⟨by have := (hsub x hx).length_le; omega, fun r hr => LG.rows r ((hsub x hx).subset hr)⟩
    have hsum : (ls.map (·.length)).sum ≤ 1000 := by
     have h2 := hp.length_eq
     rw [List.length_flatten] at h2
     exact Nat.le_trans (Nat.le_of_eq h2) (by omega)
    exact ⟨listsB_of (by omega) hsum (by omega) (by omega) hx, perm_lists LG.rows hsr hp (fun x hx => sub_sorted hsr (hsub x hx))⟩)
 ·refine parts_walk_skip w A0 c0 l0 A1 c1 l1 A c l at_ b s ?_ hF hS
  unfold PartsSkip
  cases b
  ·exact .inl rfl
  ·cases s
   ·exact .inr (.inl rfl)
   ·refine .inr (.inr ?_)
    rcases Int.lt_or_le at_ 0 with h1 | h1
    ·exact .inl h1
    ·exact .inr (by
      rcases Int.lt_or_le (l.length : Int) at_ with h2 | h2
      ·exact h2
      ·exact absurd ⟨rfl, rfl, h1, h2⟩ hc)
end Go.Proofs.Ytdeeffahfkndkaa.P
namespace Go.Proofs.Ytdeeffahfkndkaa.mergeParts
open Go.ChangeShapes Go.WideShapes Go.ChangeAt Go.RowKit
open Go.ChangeMaps (open_string shut_string)
set_option linter.unusedVariables false
theorem own : ownKnob Try.prog.godebug = none := by kernel_rfl
theorem laidOut : laidOutB Try.prog = true := by kernel_rfl
set_option maxRecDepth 100000 in
theorem lifted (os : Os) (started : os.Started) (H : Type) (enc : TypeId × Value → H) :
  ReturnsInHanded {} Try.checked os 5 .any (Rows.mergePartsSpec.pre6 enc Try.prog Try.f5 Rows.mergePartsRow.domain false) (Rows.mergePartsSpec.post enc Try.prog Try.f5 false true false false) := by
 refine returnsInHanded_of_change_sized (C := Try.checked) own started (by kernel_rfl) Try.func5
  (ChangeSpec.witness6 (enc := enc) (C := Try.checked) false ⟨#[], #[.agg #[.slice none 0 0, .slice none 0 0], .slice none 0 0, .int .i64 0], []⟩ 8 (by kernel_rfl) (by kernel_rfl) (by kernel_rfl) (by kernel_rfl)) ?_
 intro W base args ds gs before hval0 hW hcnd hsz0 _
 have hval : ∀ (j : Nat) t v, Try.f5.params[j]? = some t → args[j]? = some v → Value.okWide Try.prog W .any base t v := hval0
 have hW' := hW
 obtain ⟨p, q, hA0, hV, rfl, hfz, hnd⟩ := hW
 have hA : DataW.TrodAll enc Try.prog W 0 (fun _ => true) true Try.f5.params.toList args.toList ds p := hA0
 rw [Try.params5] at hA hval
 obtain ⟨v0, vs0, d0, ds0, p0, q0, hargs, rfl, rfl, h0, r0⟩ := trodAll_cons hA
 obtain ⟨v1, vs1, d1, ds1, p1, q1, rfl, rfl, rfl, h1, r1⟩ := trodAll_cons r0
 obtain ⟨v2, vs2, d2, ds2, p2, q2, rfl, rfl, rfl, h2, r2⟩ := trodAll_cons r1
 obtain ⟨rfl, rfl, rfl⟩ := trodAll_nil r2
 obtain rfl : args = #[v0, v1, v2] := by cases args; simp_all
 obtain ⟨rfl, rfl⟩ := trodVars_none hV
 have k0 := h0
 have lt0 : ∀ x ∈ p0, x.block < W.heap.size := by obtain ⟨m, hm⟩ := k0; exact DataW.trod_lt m _ _ _ hm
 have k1 := h1
 have lt1 : ∀ x ∈ p1, x.block < W.heap.size := by obtain ⟨m, hm⟩ := k1; exact DataW.trod_lt m _ _ _ hm
 obtain ⟨A0, c0, l0, A1, c1, l1, rfl, e0, C0, e1, C1, g0, g1⟩ := P.open24 (hval 0 24 v0 rfl rfl) h0
 obtain ⟨A, c, l, rfl, e2, C2, g2, _⟩ := P.open_sl Try.underlying28 P.opens28 (hval 1 28 v1 rfl rfl) h1
 obtain ⟨a2, rfl, rfl, rfl, w2⟩ := open_int Try.underlying3 (hval 2 3 v2 rfl rfl) h2
 clear hA0 hval0 hsz0
 refine (P.parts_walk W A0 c0 l0 A1 c1 l1 A c l a2 e0 C0 e1 C1 g0 g1 e2 C2 g2).mono fun e W' ⟨he, bel⟩ => ?_
 subst he
 exact ⟨_, rfl, _, _, _, [], _, [], hW', trodAll_mk1 (shut_bool Try.underlying4 _), (trodAll_cons_mk (Below.trod laidOut (by kernel_rfl) (of_decide_eq_true (by kernel_rfl)) k0 bel lt0) (trodAll_cons_mk (Below.trod laidOut (by kernel_rfl) (of_decide_eq_true (by kernel_rfl)) k1 bel lt1) (trodAll_cons_mk (shut_int Try.underlying3 w2) trodAll_mk0))), rfl, bel.frame _, fun h => by cases h⟩
theorem over : Rows.mergePartsRow.holds Try.pinned (OpenSpec.ofChange Rows.mergePartsSpec) :=
 OpenClaim.holds_of_wide 5 Try.f5 rfl rfl rfl rfl rfl rfl rfl ⟨rfl, rfl, rfl, rfl, rfl⟩ rfl rfl rfl rfl rfl (by kernel_rfl) Try.func5 (by kernel_rfl)
  (of_decide_eq_true (by kernel_rfl)) (by unfold Func.isWrapper; first | (rw [if_pos (by decide +kernel)]; kernel_rfl) | (rw [if_neg (by decide +kernel)]; exact ⟨rfl, rfl⟩))
  (fun os started H enc _ => lifted os started H enc)
theorem proved : Rows.MergePartsSaid := over
#print axioms proved
end Go.Proofs.Ytdeeffahfkndkaa.mergeParts
namespace Go.Proofs.Ytdeeffahfkndkaa
theorem mergeParts_holds : Rows.MergePartsSaid := mergeParts.proved
end Go.Proofs.Ytdeeffahfkndkaa
