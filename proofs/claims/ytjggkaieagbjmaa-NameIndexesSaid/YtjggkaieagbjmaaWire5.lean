/- Package wire: a number is read at a place of a row of bytes, or refused. -/
import Derived.Test.YtjggkaieagbjmaaWire4
namespace Go.Proofs.Ytjggkaieagbjmaa.Hand
set_option linter.unusedVariables false
set_option linter.unusedSimpArgs false
open Go.Shelf Go.RowKit Go.Proofs.YtjggkaieagbjmaaW.PrintWords Go.Proofs.YtjggkaieagbjmaaW.PrintLast Go.Proofs.YtjggkaieagbjmaaW.PrintMore

/-- What Get answers. -/
def getI (l : List Int) (a k : Int) : Int × Int := if fitsB l.length a k = true then (numI ((l.drop a.toNat).take k.toNat), 0) else (0, 22)

theorem enters_get1 : ∀ (args : Array Value) (w : World), (callFunc 51 args).run Try.prog w = .ok (.enter 51 args) w := enters_of Try.func51 (by kernel_rfl) rfl

set_option maxHeartbeats 2000000 in
set_option maxRecDepth 100000 in
theorem get1_fits (pb pa pn px c : Nat) (A : Option Addr) (a k : Int) (w : World) (l : List Int) (hpb : w.cell? ⟨pb, 0, none⟩ = some (.slice A l.length c)) (hpa : w.cell? ⟨pa, 0, none⟩ = some (.int .i64 a)) (hpn : w.cell? ⟨pn, 0, none⟩ = some (.int .i64 k)) (hpx : Row w .u64 px 68 [0])
    (hr : Kd.C (Kd.int .u8) w A l.length l) (hc : l.length ≤ c) (h1 : 1 ≤ k) (h8 : k ≤ 8) (h0 : 0 ≤ a) (hle : a ≤ l.length) (hsub : k ≤ l.length - a) :
    Calls Try.prog 51 #[.pointer (some ⟨pb, 0, none⟩), .pointer (some ⟨pa, 0, none⟩), .pointer (some ⟨pn, 0, none⟩), .pointer (some ⟨px, 0, none⟩)] w fun e w' => e = .returned (.tuple #[]) ∧ Row w' .u64 px 68 [numI ((l.drop a.toNat).take k.toNat)] ∧ Mod w w' (· = px) := by
  have HR := Aside0.mk hr
  have HX := Aside0.mk hpx
  have hm := (C_int_len hr).2
  have hn : (l.drop a.toNat).length = l.length - a.toNat := by simp
  have hn2 : ((l.drop a.toNat).take k.toNat).length = k.toNat := by simp; omega
  have HN := Aside0.mk hn2
  have hp : Kd.C (Kd.int .u8) w (A.map (fun x => x.add a.toNat)) k.toNat ((l.drop a.toNat).take k.toNat) := by
    obtain ⟨ad, rfl, _⟩ := C_int_at hr a.toNat (by omega)
    exact C_int_part hr a.toNat k.toNat (by omega)
  have hnum := number_calls (A.map (fun x => x.add a.toNat)) (c - a.toNat) ((l.drop a.toNat).take k.toNat) w (by rw [hn2]; exact hp) (by omega)
  rw [hn2] at hnum
  have hx0 := HX.out.cell 0 (by simp)
  have hz0 := HX.out.free 0
  obtain ⟨q, hq⟩ : ∃ q, numI ((l.drop a.toNat).take k.toNat) = q := ⟨_, rfl⟩
  rw [hq] at hnum ⊢
  have HNU := Aside0.mk hnum
  clear hr hpx hn hn2 hp hnum hq
  go_enter Try.func51, Try.ntmps51
  go_wp2_with (first | (go_at_call 53; refine (part_fits _ _ _ _ _ _ hc h1 h8 h0 hle hsub hm).mono ?_; rintro e w' ⟨rfl, rfl⟩) | (go_at_call 52; refine HNU.out.mono ?_; rintro e w' ⟨rfl, rfl⟩))
  go_end0
  exact ⟨rfl, HX.out.set 0 q, (Mod.refl _ _).set_own _ _⟩

set_option maxHeartbeats 2000000 in
set_option maxRecDepth 100000 in
theorem get1_not (pb pa pn px n c : Nat) (A : Option Addr) (a k : Int) (w : World) (hpb : w.cell? ⟨pb, 0, none⟩ = some (.slice A n c)) (hpa : w.cell? ⟨pa, 0, none⟩ = some (.int .i64 a)) (hpn : w.cell? ⟨pn, 0, none⟩ = some (.int .i64 k))
    (hm : n ≤ 9223372036854775807) (hf : fitsB n a k = false) :
    Calls Try.prog 51 #[.pointer (some ⟨pb, 0, none⟩), .pointer (some ⟨pa, 0, none⟩), .pointer (some ⟨pn, 0, none⟩), .pointer (some ⟨px, 0, none⟩)] w fun e w' => e = given 22 ∧ w = w' := by
  have HF := Aside0.mk hf
  clear hf
  go_enter Try.func51, Try.ntmps51
  go_wp2_with fail
  refine (part_not _ _ _ _ _ _ hm HF.out).mono ?_
  rintro e w' ⟨rfl, rfl⟩
  unfold given
  dsimp only
  go_wp2
  exact ⟨rfl, rfl, rfl⟩

set_option maxHeartbeats 2000000 in
set_option maxRecDepth 100000 in
theorem get_calls (A : Option Addr) (c : Nat) (a k : Int) (w : World) (l : List Int) (hr : Kd.C (Kd.int .u8) w A l.length l) (hc : l.length ≤ c) :
    Calls Try.prog 42 #[.slice A l.length c, .int .i64 a, .int .i64 k] w fun e w' => e = .returned (.tuple #[.int .u64 (getI l a k).1, .int .i64 (getI l a k).2]) ∧ Below w.heap.size w w' := by
  have HR := Aside0.mk hr
  have hm := (C_int_len hr).2
  clear hr
  have hmf := mkfunc
  cases hf : fitsB l.length a k
  · have e1 : getI l a k = (0, 22) := by unfold getI; rw [hf]; rfl
    rw [e1]
    have HF := Aside0.mk hf
    clear hf e1
    go_enter Try.func42, Try.ntmps42
    go_wp2_with fail
    refine (try_calls 51 _ _ (fun c' w1 => c' = 22 ∧ Row w1 .u64 (w.heap.size + 1 + 1 + 1) 68 [0] ∧ Below w.heap.size w w1) enters_get1 ?_).mono ?_
    · refine (get1_not w.heap.size (w.heap.size + 1) (w.heap.size + 1 + 1) (w.heap.size + 1 + 1 + 1) l.length c A a k _ (by simp [go_sem]) (by simp [go_sem]) (by simp [go_sem]) hm HF.out).mono ?_
      rintro e w1 ⟨rfl, rfl⟩
      refine ⟨22, .inr rfl, ⟨rfl, ?_, ?_⟩, alloc_last _ _⟩
      · unfold Row
        rw [alloc_old _ _ _ (by simp)]
        exact alloc_at _ _ _ (by simp)
      · repeat (first | exact Below.refl _ _ | apply below_alloc)
    · rintro e w' ⟨cc, w1, rfl, ⟨rfl, hx, hm1⟩, hm2⟩
      dsimp only
      simp only [World.size_alloc] at hm2
      have hx2 := hx.mod hm2 (by omega)
      have hb2 : Below w.heap.size w w' := ((Mod.of_below hm1 (fun _ => False)).trans hm2 (fun i hi h => by omega)).to_below (fun _ _ h => h)
      have hx0 := hx2.cell 0 (by simp)
      have hz0 := hx2.free 0
      have hbl := hx2.lt
      have HX := Aside0.mk hx2
      clear hx hx2
      go_wp2
      have hx3 := (HX.out.set 0 0).cell 0 (by simp)
      refine bodyPost_ret (v := .tuple #[.int .u64 0, .int .i64 22]) ?_ rfl ⟨rfl, ?_⟩
      · generalize w'.setCell ⟨w.heap.size + 1 + 1 + 1, 0, none⟩ (.int .u64 0) = W at hx3
        simp at hx3
        simp [results, Try.results42, go_sem, hx3]
      · exact ((Mod.of_below hb2 (fun _ => False)).set_new (by omega) _ _).to_below (fun _ _ h => h)
  · have e1 : getI l a k = (numI ((l.drop a.toNat).take k.toNat), 0) := by unfold getI; rw [hf]; rfl
    rw [e1]
    simp only [fitsB, Bool.and_eq_true, decide_eq_true_eq] at hf
    obtain ⟨⟨⟨⟨f1, f8⟩, f0⟩, fle⟩, fsub⟩ := hf
    obtain ⟨q, hq⟩ : ∃ q, numI ((l.drop a.toNat).take k.toNat) = q := ⟨_, rfl⟩
    have HQ := Aside0.mk hq
    rw [hq]
    clear e1 hq
    go_enter Try.func42, Try.ntmps42
    go_wp2_with fail
    refine (try_calls 51 _ _ (fun c' w1 => c' = 0 ∧ Row w1 .u64 (w.heap.size + 1 + 1 + 1) 68 [q] ∧ Below w.heap.size w w1) enters_get1 ?_).mono ?_
    · refine (get1_fits w.heap.size (w.heap.size + 1) (w.heap.size + 1 + 1) (w.heap.size + 1 + 1 + 1) c A a k _ l (by simp [go_sem]) (by simp [go_sem]) (by simp [go_sem]) ?_ ?_ hc f1 f8 f0 fle fsub).mono ?_
      · unfold Row
        rw [alloc_old _ _ _ (by simp)]
        exact alloc_at _ _ _ (by simp)
      · refine Kd.C_below HR.out ?_
        repeat (first | exact Below.refl _ _ | apply below_alloc)
      rintro e w1 ⟨rfl, hr1, hm1⟩
      rw [HQ.out] at hr1
      refine ⟨0, .inl ⟨rfl, rfl⟩, ⟨rfl, hr1, ?_⟩, ?_⟩
      · refine ((Mod.of_below ?_ (fun _ => False)).trans hm1 (fun i hi h => by omega)).to_below (fun _ _ h => h)
        repeat (first | exact Below.refl _ _ | apply below_alloc)
      · exact hm1.obj (alloc_last _ _) (by simp)
    · rintro e w' ⟨cc, w1, rfl, ⟨rfl, hx, hm1⟩, hm2⟩
      dsimp only
      simp only [World.size_alloc] at hm2
      have hx2 := hx.mod hm2 (by omega)
      have hb2 : Below w.heap.size w w' := ((Mod.of_below hm1 (fun _ => False)).trans hm2 (fun i hi h => by omega)).to_below (fun _ _ h => h)
      have hx0 := hx2.cell 0 (by simp)
      have hz0 := hx2.free 0
      have hbl := hx2.lt
      have HX := Aside0.mk hx2
      clear hx hx2
      go_wp2
      have hx3 := (HX.out.set 0 q).cell 0 (by simp)
      refine bodyPost_ret (v := .tuple #[.int .u64 q, .int .i64 0]) ?_ rfl ⟨rfl, ?_⟩
      · generalize w'.setCell ⟨w.heap.size + 1 + 1 + 1, 0, none⟩ (.int .u64 q) = W at hx3
        simp at hx3
        simp [results, Try.results42, go_sem, hx3]
      · exact ((Mod.of_below hb2 (fun _ => False)).set_new (by omega) _ _).to_below (fun _ _ h => h)
end Go.Proofs.Ytjggkaieagbjmaa.Hand
