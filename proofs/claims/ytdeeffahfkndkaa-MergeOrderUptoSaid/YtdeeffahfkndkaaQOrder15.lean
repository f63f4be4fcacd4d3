/- A part of the proof: lemmas and contracts of functions (printed or written by the session's program, and by hand), in dependency order. -/
import Derived.Sort.Grow
import Derived.Test.YtdeeffahfkndkaaQOrder6
import Derived.Test.YtdeeffahfkndkaaQOrder8
import Derived.Test.YtdeeffahfkndkaaQOrder11
namespace Go.Proofs.Ytdeeffahfkndkaa.P
open Go.RowKit Go.Proofs.YtdeeffahfkndkaaW.PrintWords Go.Proofs.YtdeeffahfkndkaaW.PrintLast Go.Proofs.YtdeeffahfkndkaaW.PrintMore
set_option linter.unusedVariables false
set_option linter.unusedSimpArgs false
def GrowsTo (w w' : World) : Prop := ∃ (n : Nat) (os : Array Obj), w' = Go.Sort.grow (w.drewN n) os
namespace GrowsTo
theorem refl (w : World) : GrowsTo w w := ⟨0, #[], by rw [Go.Sort.grow_empty]; rfl⟩
theorem alloc {w w' : World} (h : GrowsTo w w') (o : Obj) : GrowsTo w (w'.alloc o) := by
 obtain ⟨n, os, rfl⟩ := h
 exact ⟨n, os.push o, congrArg (fun h => ({ (w.drewN n) with heap := h } : World)) (show (w.heap ++ os).push o = w.heap ++ os.push o by simp)⟩
theorem drewN {w w' : World} (h : GrowsTo w w') (m : Nat) : GrowsTo w (w'.drewN m) := by
 obtain ⟨n, os, rfl⟩ := h
 exact ⟨n + m, os, by simp [Go.Sort.grow, World.drewN, Nat.add_assoc]⟩
theorem drew {w w' : World} (h : GrowsTo w w') : GrowsTo w w'.drew := h.drewN 1
theorem drawn {w w' w2 : World} (h : GrowsTo w w') (hd : Drawn0 w' w2) : GrowsTo w w2 := by
 obtain ⟨n, rfl⟩ := hd.out
 exact h.drewN n
theorem below {w w' : World} (h : GrowsTo w w') : Below w.heap.size w w' := by
 obtain ⟨n, os, rfl⟩ := h
 exact ⟨rfl, rfl, rfl, by simp [Go.Sort.grow, World.drewN], fun k hk => by simp [Go.Sort.grow, World.drewN, Array.getElem?_append_left hk]⟩
end GrowsTo
theorem drawn_heap {w w' : World} (h : Drawn0 w w') : w'.heap = w.heap := by
 obtain ⟨n, rfl⟩ := h.out
 rfl
theorem two_ints {W : World} {g : Nat} {x y : Int} (h : W.heap[g]? = some (.cells #[.int .i64 x, .int .i64 y] 3 (0, 0))) : Kd.C (Kd.int .i64) W (some ⟨g, 0, none⟩) 2 [x, y] := by
 refine ⟨rfl, by decide, fun _ => ⟨⟨g, 0, none⟩, rfl, fun j p hj => ?_⟩⟩
 match j, hj with
 | 0, hj => cases hj; exact ⟨[.int .i64 x], rfl, rfl, fun i u hu => by
   match i, hu with
   | 0, hu => cases hu; exact (bCe h 0).trans rfl
   | i + 1, hu => simp at hu⟩
 | 1, hj => cases hj; exact ⟨[.int .i64 y], rfl, rfl, fun i u hu => by
   match i, hu with
   | 0, hu => cases hu; exact (bCe h 1).trans rfl
   | i + 1, hu => simp at hu⟩
 | j + 2, hj => simp at hj
set_option maxHeartbeats 8000000 in
set_option maxRecDepth 100000 in
theorem compare_grows (w : World) (a b : S39) (A1 : Option Addr) (c1 : Nat) (A3 : Option Addr) (c3 : Nat) (B1 : Option Addr) (d1 : Nat) (B3 : Option Addr) (d3 : Nat) (hok : a.f1.length < 4611686018427387904)
  (l1 : a.f1.length ≤ c1) (g1 : Kd.string.C w A1 a.f1.length a.f1) (m1 : b.f1.length ≤ d1) (h1 : Kd.string.C w B1 b.f1.length b.f1) :
  Calls Try.prog 19 #[.agg #[.int .i64 a.f0, .slice A1 a.f1.length c1, .int .i64 a.f2, .slice A3 a.f3.length c3], .agg #[.int .i64 b.f0, .slice B1 b.f1.length d1, .int .i64 b.f2, .slice B3 b.f3.length d3]] w fun e w' => e = .returned (.int .i64 (cmpRow a b)) ∧ GrowsTo w w' := by
 obtain ⟨kl, hkl⟩ := (cmpL_ev a.f1 b.f1 hok).rounds
 obtain ⟨ko, hko⟩ := (orI_ev (cmpI a.f0 b.f0) (cmpL a.f1 b.f1)).rounds
 have HG1 := Z0.mk g1
 have HH1 := Z0.mk h1
 have HKL := Z0.mk hkl
 have HKO := Z0.mk hko
 have HKI := Z0.mk (cmpI_f a.f0 b.f0)
 have HR : Z0 (cmpRow a b = orI (cmpI a.f0 b.f0) (cmpL a.f1 b.f1)) := ⟨rfl⟩
 obtain ⟨r, hr⟩ : ∃ r, r = cmpRow a b := ⟨_, rfl⟩
 rw [← hr]
 have HR2 := Z0.mk (hr.trans HR.out)
 clear g1 h1 hkl hko hr
 go_enter Try.func19, Try.ntmps19
 go_wp2
 have HW : Z0 (GrowsTo w ((w.alloc (.cells #[.int .i64 a.f0, .slice A1 a.f1.length c1, .int .i64 a.f2, .slice A3 a.f3.length c3] 39)).alloc (.cells #[.int .i64 b.f0, .slice B1 b.f1.length d1, .int .i64 b.f2, .slice B3 b.f3.length d3] 39)).drew ∧ (((w.alloc (.cells #[.int .i64 a.f0, .slice A1 a.f1.length c1, .int .i64 a.f2, .slice A3 a.f3.length c3] 39)).alloc (.cells #[.int .i64 b.f0, .slice B1 b.f1.length d1, .int .i64 b.f2, .slice B3 b.f3.length d3] 39)).drew.heap[w.heap.size]? = some (.cells #[.int .i64 a.f0, .slice A1 a.f1.length c1, .int .i64 a.f2, .slice A3 a.f3.length c3] 39 (0, 0)) ∧ ((w.alloc (.cells #[.int .i64 a.f0, .slice A1 a.f1.length c1, .int .i64 a.f2, .slice A3 a.f3.length c3] 39)).alloc (.cells #[.int .i64 b.f0, .slice B1 b.f1.length d1, .int .i64 b.f2, .slice B3 b.f3.length d3] 39)).drew.heap[w.heap.size + 1]? = some (.cells #[.int .i64 b.f0, .slice B1 b.f1.length d1, .int .i64 b.f2, .slice B3 b.f3.length d3] 39 (0, 0)))) :=
  ⟨(((GrowsTo.refl w).alloc _).alloc _).drew, bDr (bAl (blk_new _ _) _), by rw [show w.heap.size + 1 = (w.alloc (.cells #[.int .i64 a.f0, .slice A1 a.f1.length c1, .int .i64 a.f2, .slice A3 a.f3.length c3] 39)).heap.size by simp]; exact bDr (blk_new _ _)⟩
 obtain ⟨ga, hga⟩ : ∃ g, w.heap.size = g := ⟨_, rfl⟩
 obtain ⟨gb, hgb⟩ : ∃ g, ga + 1 = g := ⟨_, rfl⟩
 rw [hga, hgb] at HW
 rw [hga, hgb]
 refine start_ (n := 13) (S := fun w' => w'.cell? ⟨ga, 0, none⟩ = some (.int .i64 a.f0) ∧ w'.cell? ⟨ga, 1, none⟩ = some (.slice A1 a.f1.length c1) ∧ w'.cell? ⟨ga, 2, none⟩ = some (.int .i64 a.f2) ∧ w'.cell? ⟨ga, 3, none⟩ = some (.slice A3 a.f3.length c3) ∧ w'.cell? ⟨gb, 0, none⟩ = some (.int .i64 b.f0) ∧ w'.cell? ⟨gb, 1, none⟩ = some (.slice B1 b.f1.length d1) ∧ w'.cell? ⟨gb, 2, none⟩ = some (.int .i64 b.f2) ∧ w'.cell? ⟨gb, 3, none⟩ = some (.slice B3 b.f3.length d3)) (ds := []) #[false, false, false, false, false, false, false, false, false, false, false, false, false] (by kernel_rfl) rfl rfl ⟨(bCe HW.out.2.1 0).trans rfl, (bCe HW.out.2.1 1).trans rfl, (bCe HW.out.2.1 2).trans rfl, (bCe HW.out.2.1 3).trans rfl, (bCe HW.out.2.2 0).trans rfl, (bCe HW.out.2.2 1).trans rfl, (bCe HW.out.2.2 2).trans rfl, (bCe HW.out.2.2 3).trans rfl⟩ (fun hHeld => ?_)
 generalize ((w.alloc (.cells #[.int .i64 a.f0, .slice A1 a.f1.length c1, .int .i64 a.f2, .slice A3 a.f3.length c3] 39)).alloc (.cells #[.int .i64 b.f0, .slice B1 b.f1.length d1, .int .i64 b.f2, .slice B3 b.f3.length d3] 39)).drew = W at HW hHeld ⊢
 clear hga hgb
 refine pure_ (i := 0) (N := some 5) (v := .pointer (some ⟨ga, 0, none⟩)) (a' := ?aa1) #[true, false, false, false, false, false, false, false, false, false, false, false, false] rfl rfl (by kernel_rfl) (fun _ _ _ h => h) (Or.inl ⟨by rfl, ?hy1⟩) ?ha1 ?h1
 case hy1 => (intro w'; clear hHeld; go_simp)
 case ha1 => (show Act.put _ _ _ = _; simp only [Act.put, qA, qB, qC]; rfl)
 refine pure_ (i := 2) (N := some 7) (v := .pointer (some ⟨gb, 0, none⟩)) (a' := ?aa2) #[true, false, true, false, false, false, false, false, false, false, false, false, false] rfl rfl (by kernel_rfl) (fun _ _ _ h => h) (Or.inl ⟨by rfl, ?hy2⟩) ?ha2 ?h2
 case hy2 => (intro w'; clear hHeld; go_simp)
 case ha2 => (show Act.put _ _ _ = _; simp only [Act.put, qA, qB, qC]; rfl)
 refine pure_ (i := 5) (N := some 10) (v := .pointer (some ⟨ga, 1, none⟩)) (a' := ?aa3) #[true, false, true, false, false, true, false, false, false, false, false, false, false] rfl rfl (by kernel_rfl) (fun _ _ _ h => h) (Or.inl ⟨by rfl, ?hy3⟩) ?ha3 ?h3
 case hy3 => (intro w'; clear hHeld; go_simp)
 case ha3 => (show Act.put _ _ _ = _; simp only [Act.put, qA, qB, qC]; rfl)
 refine pure_ (i := 7) (N := some 12) (v := .pointer (some ⟨gb, 1, none⟩)) (a' := ?aa4) #[true, false, true, false, false, true, false, true, false, false, false, false, false] rfl rfl (by kernel_rfl) (fun _ _ _ h => h) (Or.inl ⟨by rfl, ?hy4⟩) ?ha4 ?h4
 case hy4 => (intro w'; clear hHeld; go_simp)
 case ha4 => (show Act.put _ _ _ = _; simp only [Act.put, qA, qB, qC]; rfl)
 refine take_ (i := 1) (N := some 6) (v := .int .i64 a.f0) (a' := ?aa5) #[true, true, true, false, false, true, false, true, false, false, false, false, false] rfl rfl (by kernel_rfl) (fun _ _ _ h => h) (Or.inl ⟨by rfl, ?hy5⟩) hHeld ?ha5 ?h5
 case hy5 => (rintro w' ⟨s0, s1, s2, s3, s4, s5, s6, s7⟩; clear hHeld; go_simp)
 case ha5 => (show Act.put _ _ _ = _; simp only [Act.put, qA, qB, qC]; rfl)
 refine take_ (i := 3) (N := some 8) (v := .int .i64 b.f0) (a' := ?aa6) #[true, true, true, true, false, true, false, true, false, false, false, false, false] rfl rfl (by kernel_rfl) (fun _ _ _ h => h) (Or.inl ⟨by rfl, ?hy6⟩) hHeld ?ha6 ?h6
 case hy6 => (rintro w' ⟨s0, s1, s2, s3, s4, s5, s6, s7⟩; clear hHeld; go_simp)
 case ha6 => (show Act.put _ _ _ = _; simp only [Act.put, qA, qB, qC]; rfl)
 refine take_ (i := 6) (N := some 11) (v := .slice A1 a.f1.length c1) (a' := ?aa7) #[true, true, true, true, false, true, true, true, false, false, false, false, false] rfl rfl (by kernel_rfl) (fun _ _ _ h => h) (Or.inl ⟨by rfl, ?hy7⟩) hHeld ?ha7 ?h7
 case hy7 => (rintro w' ⟨s0, s1, s2, s3, s4, s5, s6, s7⟩; clear hHeld; go_simp)
 case ha7 => (show Act.put _ _ _ = _; simp only [Act.put, qA, qB, qC]; rfl)
 refine take_ (i := 8) (N := some 13) (v := .slice B1 b.f1.length d1) (a' := ?aa8) #[true, true, true, true, false, true, true, true, true, false, false, false, false] rfl rfl (by kernel_rfl) (fun _ _ _ h => h) (Or.inl ⟨by rfl, ?hy8⟩) hHeld ?ha8 ?h8
 case hy8 => (rintro w' ⟨s0, s1, s2, s3, s4, s5, s6, s7⟩; clear hHeld; go_simp)
 case ha8 => (show Act.put _ _ _ = _; simp only [Act.put, qA, qB, qC]; rfl)
 refine one_ (i := 4) (N := some 9) #[true, true, true, true, true, true, true, true, true, false, false, false, false] rfl rfl (by kernel_rfl) (by decide) (fun K hK => ?_)
 refine goes_ Try.func40 (by kernel_rfl) rfl #[.int .i64 a.f0, .int .i64 b.f0] (by rfl) rfl rfl (by (try simp only [List.map_toArray, List.map_cons, List.map_nil]); first | done | rfl) ?_
 refine (cmp_Compare_int.calls a.f0 b.f0 _ _ HKI.out).mono ?_
 rintro e W1 ⟨rfl, hd1⟩
 refine ⟨_, rfl, ?_⟩
 have HW1 : Z0 (GrowsTo w W1 ∧ (W1.heap[ga]? = some (.cells #[.int .i64 a.f0, .slice A1 a.f1.length c1, .int .i64 a.f2, .slice A3 a.f3.length c3] 39 (0, 0)) ∧ W1.heap[gb]? = some (.cells #[.int .i64 b.f0, .slice B1 b.f1.length d1, .int .i64 b.f2, .slice B3 b.f3.length d3] 39 (0, 0)))) := ⟨HW.out.1.drawn hd1, by rw [drawn_heap hd1]; exact HW.out.2⟩
 refine hK.out _ _ ⟨(bCe HW1.out.2.1 0).trans rfl, (bCe HW1.out.2.1 1).trans rfl, (bCe HW1.out.2.1 2).trans rfl, (bCe HW1.out.2.1 3).trans rfl, (bCe HW1.out.2.2 0).trans rfl, (bCe HW1.out.2.2 1).trans rfl, (bCe HW1.out.2.2 2).trans rfl, (bCe HW1.out.2.2 3).trans rfl⟩ (fun hHeld => ?_)
 clear hK K
 refine norm_ (a' := ?aa20) ?ha20 ?h20
 case ha20 => (show Act.put _ _ _ = _; simp only [Act.put, qA, qB, qC]; rfl)
 refine one_ (i := 9) (N := some 14) #[true, true, true, true, true, true, true, true, true, true, false, false, false] rfl rfl (by kernel_rfl) (by decide) (fun K hK => ?_)
 refine goes_ Try.func41 (by kernel_rfl) rfl #[.slice A1 a.f1.length c1, .slice B1 b.f1.length d1] (by rfl) rfl rfl (by (try simp only [List.map_toArray, List.map_cons, List.map_nil]); first | done | rfl) ?_
 refine (slices_Compare_string_string.calls kl A1 c1 a.f1 B1 d1 b.f1 _ _ (Kd.C_below HG1.out HW1.out.1.below) l1 (Kd.C_below HH1.out HW1.out.1.below) m1 HKL.out).mono ?_
 rintro e W2 ⟨rfl, hd2⟩
 refine ⟨_, rfl, ?_⟩
 have HW2 : Z0 (GrowsTo w W2 ∧ (W2.heap[ga]? = some (.cells #[.int .i64 a.f0, .slice A1 a.f1.length c1, .int .i64 a.f2, .slice A3 a.f3.length c3] 39 (0, 0)) ∧ W2.heap[gb]? = some (.cells #[.int .i64 b.f0, .slice B1 b.f1.length d1, .int .i64 b.f2, .slice B3 b.f3.length d3] 39 (0, 0)))) := ⟨HW1.out.1.drawn hd2, by rw [drawn_heap hd2]; exact HW1.out.2⟩
 refine hK.out _ _ ⟨(bCe HW2.out.2.1 0).trans rfl, (bCe HW2.out.2.1 1).trans rfl, (bCe HW2.out.2.1 2).trans rfl, (bCe HW2.out.2.1 3).trans rfl, (bCe HW2.out.2.2 0).trans rfl, (bCe HW2.out.2.2 1).trans rfl, (bCe HW2.out.2.2 2).trans rfl, (bCe HW2.out.2.2 3).trans rfl⟩ (fun hHeld => ?_)
 clear hK K
 refine norm_ (a' := ?aa21) ?ha21 ?h21
 case ha21 => (show Act.put _ _ _ = _; simp only [Act.put, qA, qB, qC]; rfl)
 refine one_ (i := 10) (N := some 15) #[true, true, true, true, true, true, true, true, true, true, true, false, false] rfl rfl (by kernel_rfl) (by decide) (fun K hK => ?_)
 refine value_ (v := .slice (some ⟨W2.heap.size, 0, none⟩) 2 2) (w1 := W2.alloc (.cells #[.int .i64 (cmpI a.f0 b.f0), .int .i64 (cmpL a.f1 b.f1)] 3)) (by rfl) rfl (by clear hHeld; go_simp) ?_
 have HW3 : Z0 (GrowsTo w (W2.alloc (.cells #[.int .i64 (cmpI a.f0 b.f0), .int .i64 (cmpL a.f1 b.f1)] 3)) ∧ ((W2.alloc (.cells #[.int .i64 (cmpI a.f0 b.f0), .int .i64 (cmpL a.f1 b.f1)] 3)).heap[ga]? = some (.cells #[.int .i64 a.f0, .slice A1 a.f1.length c1, .int .i64 a.f2, .slice A3 a.f3.length c3] 39 (0, 0)) ∧ (W2.alloc (.cells #[.int .i64 (cmpI a.f0 b.f0), .int .i64 (cmpL a.f1 b.f1)] 3)).heap[gb]? = some (.cells #[.int .i64 b.f0, .slice B1 b.f1.length d1, .int .i64 b.f2, .slice B3 b.f3.length d3] 39 (0, 0)))) := ⟨HW2.out.1.alloc _, bAl HW2.out.2.1 _, bAl HW2.out.2.2 _⟩
 refine hK.out _ _ ⟨(bCe HW3.out.2.1 0).trans rfl, (bCe HW3.out.2.1 1).trans rfl, (bCe HW3.out.2.1 2).trans rfl, (bCe HW3.out.2.1 3).trans rfl, (bCe HW3.out.2.2 0).trans rfl, (bCe HW3.out.2.2 1).trans rfl, (bCe HW3.out.2.2 2).trans rfl, (bCe HW3.out.2.2 3).trans rfl⟩ (fun hHeld => ?_)
 clear hK K
 refine norm_ (a' := ?aa22) ?ha22 ?h22
 case ha22 => (show Act.put _ (some 15) _ = _; simp only [Act.put, qA, qB, qC]; rfl)
 refine one_ (i := 11) (N := some 16) #[true, true, true, true, true, true, true, true, true, true, true, true, false] rfl rfl (by kernel_rfl) (by decide) (fun K hK => ?_)
 refine goes_ Try.func39 (by kernel_rfl) rfl #[.slice (some ⟨W2.heap.size, 0, none⟩) 2 2] (by rfl) rfl rfl (by (try simp only [List.map_toArray, List.map_cons, List.map_nil]); first | done | rfl) ?_
 refine (cmp_Or_int.calls ko (some ⟨W2.heap.size, 0, none⟩) 2 [cmpI a.f0 b.f0, cmpL a.f1 b.f1] _ _ (two_ints (blk_new _ _)) (Nat.le_refl 2) HKO.out).mono ?_
 rintro e W4 ⟨rfl, hd4⟩
 refine ⟨_, rfl, ?_⟩
 have HW4 : Z0 (GrowsTo w W4 ∧ (W4.heap[ga]? = some (.cells #[.int .i64 a.f0, .slice A1 a.f1.length c1, .int .i64 a.f2, .slice A3 a.f3.length c3] 39 (0, 0)) ∧ W4.heap[gb]? = some (.cells #[.int .i64 b.f0, .slice B1 b.f1.length d1, .int .i64 b.f2, .slice B3 b.f3.length d3] 39 (0, 0)))) := ⟨HW3.out.1.drawn hd4, by rw [drawn_heap hd4]; exact HW3.out.2⟩
 refine hK.out _ _ ⟨(bCe HW4.out.2.1 0).trans rfl, (bCe HW4.out.2.1 1).trans rfl, (bCe HW4.out.2.1 2).trans rfl, (bCe HW4.out.2.1 3).trans rfl, (bCe HW4.out.2.2 0).trans rfl, (bCe HW4.out.2.2 1).trans rfl, (bCe HW4.out.2.2 2).trans rfl, (bCe HW4.out.2.2 3).trans rfl⟩ (fun hHeld => ?_)
 clear hK K
 refine norm_ (a' := ?aa23) ?ha23 ?h23
 case ha23 => (show Act.put _ _ _ = _; simp only [Act.put, qA, qB, qC]; rfl)
 refine pure_ (i := 12) (N := some 4) (v := .int .i64 (orI (cmpI a.f0 b.f0) (cmpL a.f1 b.f1))) (a' := ?aa31) #[true, true, true, true, true, true, true, true, true, true, true, true, true] rfl rfl (by kernel_rfl) (fun _ _ _ h => h) (Or.inl ⟨by rfl, ?hy31⟩) ?ha31 ?h31
 case hy31 => (intro w'; clear hHeld; go_simp)
 case ha31 => (show Act.put _ _ _ = _; simp only [Act.put, qA, qB, qC]; rfl)
 refine done_ (by kernel_rfl) ?_
 clear hHeld
 go_wp2
 go_ret
 exact ⟨by rw [HR2.out]; rfl, HW4.out.1⟩
end Go.Proofs.Ytdeeffahfkndkaa.P
