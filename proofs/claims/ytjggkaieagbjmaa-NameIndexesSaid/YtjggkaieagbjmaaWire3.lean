/- What package wire's try answers: what is done within it ends, or gives up by a number, and that is the answer; for every such thing. -/
import Derived.Test.YtjggkaieagbjmaaWire2
import Derived.Defers
import Derived.Laws.Pointers
namespace Go.Proofs.Ytjggkaieagbjmaa.Hand
set_option linter.unusedVariables false
set_option linter.unusedSimpArgs false
open Go.RowKit Go.Proofs.YtjggkaieagbjmaaW.PrintWords Go.Proofs.YtjggkaieagbjmaaW.PrintLast Go.Proofs.YtjggkaieagbjmaaW.PrintMore

set_option maxHeartbeats 1000000 in
set_option maxRecDepth 100000 in
theorem try1_idle (p : Addr) (w : World) :
    CallsD Try.prog 61 #[.pointer (some p)] .returning w fun e u' w' => e = .returned (.tuple #[]) ∧ u' = .returning ∧ w' = w := by
  refine callsD_of_wpS Try.func61 rfl fun c₀ cs hu => ?_
  simp only [Try.ntmps61, List.size_toArray, List.length_cons, List.length_nil, Nat.reduceAdd, Nat.reduceSub, Array.replicate_succ, Array.replicate_zero, List.push_toArray, List.append_toArray, List.nil_append, List.cons_append]
  apply wpS_seq
  apply wpS_region
  simp [wpOpsS, go_sem, recoverD, hu, Exit.thenS]
  refine wpS_of_wp ?_
  go_wp2
  cases c₀
  simp_all [bodyPostS, results, Try.results61]

set_option maxHeartbeats 1000000 in
set_option maxRecDepth 100000 in
theorem try1_given (b : Nat) (c x : Int) (w : World) (hb : b < w.heap.size) (hc : w.cell? ⟨b, 0, none⟩ = some (.int .i64 x)) (hz : w.frozen? ⟨b, 0, none⟩ = false) :
    CallsD Try.prog 61 #[.pointer (some ⟨b, 0, none⟩)] (.panicking [{ v := wrongV c, recovered := false }]) w fun e u' w' =>
      e = .returned (.tuple #[]) ∧ u' = .panicking [{ v := wrongV c, recovered := true }] ∧ w' = (w.setCell ⟨b, 0, none⟩ (.int .i64 c)).alloc (.cells #[.int .i64 c] 93) := by
  unfold wrongV
  have hta : ∀ w : World, (Instr.typeAssert (.iface 93 (.agg #[.int .i64 c])) 20 93 true).run Try.prog w = .ok (.tuple #[.agg #[.int .i64 c], .bool true]) w := fun _ => by kernel_rfl
  refine callsD_of_wpS Try.func61 rfl fun c₀ cs hu => ?_
  simp only [Try.ntmps61, List.size_toArray, List.length_cons, List.length_nil, Nat.reduceAdd, Nat.reduceSub, Array.replicate_succ, Array.replicate_zero, List.push_toArray, List.append_toArray, List.nil_append, List.cons_append]
  apply wpS_seq
  apply wpS_region
  simp [wpOpsS, go_sem, recoverD, hu, Exit.thenS]
  refine wpS_of_wp ?_
  go_wp2
  cases c₀
  simp_all [bodyPostS, results, Try.results61]
set_option maxHeartbeats 1000000 in
set_option maxRecDepth 100000 in
theorem try_calls (g : FuncId) (caps : Array Value) (w : World) (R : Int → World → Prop) (hE : ∀ (args : Array Value) (w : World), (callFunc g args).run Try.prog w = .ok (.enter g args) w)
    (h : Calls Try.prog g caps (w.alloc (.cells #[.int .i64 0] 24)) fun e w1 => ∃ c, (c = 0 ∧ e = .returned (.tuple #[]) ∨ e = given c) ∧ R c w1 ∧ w1.heap[w.heap.size]? = some (.cells #[.int .i64 0] 24 (0, 0))) :
    Calls Try.prog 50 #[.func (.func g) #[] caps] w fun e w' => ∃ c w1, e = .returned (.int .i64 c) ∧ R c w1 ∧ Mod w1 w' (· = w.heap.size) := by
  have hmf : ∀ (fn : Fn) (first cap : Array Value) (w : World), (Instr.makeFunc fn first cap).run Try.prog w = .ok (.func fn first cap) w := fun _ _ _ _ => rfl
  go_enter_defers Try.func50, Try.ntmps50
  go_wp2_with fail
  refine h.mono ?_
  rintro e w1 ⟨c, (⟨rfl, rfl⟩ | rfl), hR, hb⟩
  · dsimp only
    have hb0 := lt_of_obj hb
    have hc0 := cell_of_one hb
    have hz0 : w1.frozen? ⟨w.heap.size, 0, none⟩ = false := by simp [World.frozen?, hb]
    go_wp2
    refine leaves_cons (f := 61) (args := #[.pointer (some ⟨w.heap.size, 0, none⟩)]) (by simp) (by simp [go_sem]) ?_
    refine (try1_idle ⟨w.heap.size, 0, none⟩ _).mono ?_
    rintro e u' w'' ⟨rfl, rfl, hw⟩
    have hx : w''.cell? ⟨w.heap.size, 0, none⟩ = some (.int .i64 0) := by rw [hw]; exact World.cell?_setCell_same _ _ _ hc0
    have hM : Mod w1 w'' (· = w.heap.size) := by rw [hw]; exact (Mod.refl _ _).set_own _ _
    clear hw
    simp [Leaves, settle, results, Try.results50, go_sem, hx]
    exact ⟨_, hR, hM⟩
  · unfold given
    dsimp only
    have hb0 := lt_of_obj hb
    have hc0 := cell_of_one hb
    have hz0 : w1.frozen? ⟨w.heap.size, 0, none⟩ = false := by simp [World.frozen?, hb]
    go_wp2
    refine leaves_cons (f := 61) (args := #[.pointer (some ⟨w.heap.size, 0, none⟩)]) (by simp) (by simp [go_sem]) ?_
    refine (try1_given w.heap.size c 0 _ hb0 hc0 hz0).mono ?_
    rintro e u' w'' ⟨rfl, rfl, hw⟩
    have hx : w''.cell? ⟨w.heap.size, 0, none⟩ = some (.int .i64 c) := by
      rw [hw, World.cell?_alloc_past (hn := by simpa using hb0)]
      exact World.cell?_setCell_same _ _ _ hc0
    have hM : Mod w1 w'' (· = w.heap.size) := by rw [hw]; exact ((Mod.refl _ _).set_own _ _).alloc _
    clear hw
    simp [Leaves, settle, results, Try.results50, go_sem, hx]
    exact ⟨_, hR, hM⟩
end Go.Proofs.Ytjggkaieagbjmaa.Hand
