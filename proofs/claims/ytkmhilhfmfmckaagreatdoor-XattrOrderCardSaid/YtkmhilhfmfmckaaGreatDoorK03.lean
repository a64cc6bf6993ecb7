/- Own texts and printed words of the kit, put together and trimmed by a program of mine (merge.py). -/
import Derived.Test.YtkmhilhfmfmckaaGreatDoorK02
import Derived.Lib.SliceRun
namespace Go.Proofs.YtkmhilhfmfmckaaGreatDoor.Hand
set_option linter.unusedSimpArgs false
set_option linter.unusedVariables false
open Go.Shelf Go.RowKit Go.Proofs.YtkmhilhfmfmckaaGreatDoorW.PrintWords Go.Proofs.YtkmhilhfmfmckaaGreatDoorW.PrintLast Go.Proofs.YtkmhilhfmfmckaaGreatDoorW.PrintMore
def bitB (b : List Int) (i : Nat) : Bool := (b.getD (i / 8) 0 / 2 ^ (i % 8)) % 2 == 1
def setI (b : List Int) (i : Int) : Bool := if i < 0 ∨ 2016 ≤ i ∨ (b.length : Int) ≤ i / 8 then true else bitB b i.toNat
theorem u8_and_one (x : Int) (h : 0 ≤ x ∧ x < 256) : (Go.bits .and .u8 x 1 != 0) = (x % 2 == 1) := by
  obtain ⟨n, rfl⟩ : ∃ n : Nat, x = n := ⟨x.toNat, by omega⟩
  have e : Go.bits .and .u8 (n : Int) 1 = ((n % 2 : Nat) : Int) := by
    show IntKind.u8.wrap ((BitVec.ofInt 8 (n : Int) &&& BitVec.ofInt 8 1).toNat : Int) = _
    have h1 : (BitVec.ofInt 8 (n : Int)) = BitVec.ofNat 8 n := by rw [BitVec.ofInt_natCast]
    have h2 : (BitVec.ofInt 8 1 : BitVec 8) = 1#8 := rfl
    rw [h1, h2, BitVec.toNat_and, BitVec.toNat_ofNat, show (1#8).toNat = 1 from rfl, Nat.and_one_is_mod]
    simp [IntKind.wrap, IntKind.bits, IntKind.signed]
    omega
  rw [e]
  rcases Nat.mod_two_eq_zero_or_one n with h | h <;> rw [h] <;> (rw [Bool.eq_iff_iff]; simp; omega)
set_option maxHeartbeats 1000000 in
set_option maxRecDepth 100000 in
theorem set_calls (A : Option Addr) (c : Nat) (b : List Int) (i : Int) (w : World) (hb : Kd.C (Kd.int .u8) w A b.length b) (hab : allB b) (h0 : -9223372036854775808 ≤ i) (h1 : i ≤ 9223372036854775807) :
    Calls Tryz.prog 135 #[.slice A b.length c, .int .i64 i] w fun e w' => e = .returned (.bool (setI b i)) ∧ w = w' := by
  have hm := (C_int_len hb).2
  by_cases c0 : i < 0
  · have e : setI b i = true := by unfold setI; rw [if_pos (.inl c0)]
    rw [e]
    clear hb hab e
    go_enter Tryz.func135, Tryz.ntmps135
    go_wp2
    go_ret
    exact ⟨rfl, rfl⟩
  · by_cases c1 : 2016 ≤ i
    · have e : setI b i = true := by unfold setI; rw [if_pos (.inr (.inl c1))]
      rw [e]
      clear hb hab e
      go_enter Tryz.func135, Tryz.ntmps135
      go_wp2
      go_ret
      exact ⟨rfl, rfl⟩
    · obtain ⟨n, rfl⟩ : ∃ n : Nat, i = n := ⟨i.toNat, by omega⟩
      by_cases c2 : (b.length : Int) ≤ (n : Int) / (8 : Int)
      · have e : setI b n = true := by unfold setI; rw [if_pos (.inr (.inr c2))]
        rw [e]
        clear hb hab e
        go_enter Tryz.func135, Tryz.ntmps135
        go_wp2
        go_ret
        exact ⟨rfl, rfl⟩
      · have e : setI b n = bitB b n := by unfold setI; rw [if_neg (by rintro (h | h | h); exact c0 h; exact c1 h; exact c2 h), Int.toNat_natCast]
        rw [e]
        obtain ⟨ad, rfl, hx⟩ := C_int_at hb (n / 8) (by omega)
        have hx1 := allB_get hab (n / 8)
        have hbb : bitB b n = ((b.getD (n / 8) 0 / 2 ^ (n % 8)) % 2 == 1) := rfl
        rw [hbb]
        generalize b.getD (n / 8) 0 = x at hx hx1
        have hr : 0 ≤ x / 2 ^ (n % 8) ∧ x / 2 ^ (n % 8) < 256 := ⟨Int.ediv_nonneg hx1.1 (Int.pow_nonneg (by omega)), Int.lt_of_le_of_lt (Int.ediv_le_self _ hx1.1) hx1.2⟩
        have HU := Aside0.mk (u8_and_one _ hr)
        have i1 : (n : Int) / 8 < (b.length : Int) := by omega
        have i2 : n / 8 < b.length := by omega
        clear hb hab e hbb hr
        go_enter Tryz.func135, Tryz.ntmps135
        go_wp2
        go_ret
        exact ⟨by rw [← HU.out]; rfl, rfl⟩
def orBit (b : List Int) (i : Nat) : List Int := b.set (i / 8) (Go.bits .or .u8 (b.getD (i / 8) 0) (2 ^ (i % 8)))
def orTo (b : List Int) (n : Nat) : Nat → List Int
  | 0 => b
  | g + 1 => orBit (orTo b n g) (n + g)
theorem orTo_length (b : List Int) (n g : Nat) : (orTo b n g).length = b.length := by
  induction g with
  | zero => rfl
  | succ g ih => simp [orTo, orBit, ih]
theorem bits_u8 (o : BinOp) (a b : Int) : 0 ≤ Go.bits o .u8 a b ∧ Go.bits o .u8 a b < 256 := by
  have h : ∀ n : Int, 0 ≤ IntKind.u8.wrap n ∧ IntKind.u8.wrap n < 256 := fun n => by simp only [IntKind.wrap, IntKind.bits, IntKind.signed]; simp; omega
  cases o <;> simp only [Go.bits] <;> exact h _
theorem allB_or {b : List Int} (h : allB b) (n g : Nat) : allB (orTo b n g) := by
  induction g with
  | zero => exact h
  | succ g ih => exact allB_set ih _ _ (bits_u8 _ _ _)
theorem pow_wrap (r : Nat) (h : r < 8) : IntKind.u8.wrap (2 ^ r) = 2 ^ r := by
  match r, h with
  | 0, _ => rfl
  | 1, _ => rfl
  | 2, _ => rfl
  | 3, _ => rfl
  | 4, _ => rfl
  | 5, _ => rfl
  | 6, _ => rfl
  | 7, _ => rfl
def newB (n : Nat) (s : Int) : List Int := sealL (orTo (List.replicate 256 0) n (2016 - n)) s
set_option maxHeartbeats 2000000 in
set_option maxRecDepth 100000 in
theorem new_calls (n : Nat) (s : Int) (w : World) (hn : n ≤ 2016) (hs0 : 0 ≤ s) (hs1 : s < 4294967296) :
    Calls Tryz.prog 104 #[.int .i64 n, .int .u32 s] w fun e w' => ∃ g, e = .returned (.tuple #[.slice (some ⟨g, 0, none⟩) 256 256, .int .i64 0]) ∧ w.heap.size ≤ g ∧ Row w' .u8 g 5 (newB n s) ∧ Below w.heap.size w w' := by
  have hmk : ∀ w : World, (Instr.makeSlice 23 (.int .i64 256) (.int .i64 256)).run Tryz.prog w = .ok (.slice (some ⟨w.heap.size, 0, none⟩) 256 256) (noughts w) := make256
  have HN := Aside0.mk (show Row (noughts w) .u8 w.heap.size 5 (List.replicate 256 0) from row_last _ _ _ _)
  have HB := Aside0.mk (show Below w.heap.size w (noughts w) from below_alloc (Below.refl _ _) _)
  have hab : allB (List.replicate 256 (0 : Int)) := fun x hx => by rw [List.eq_of_mem_replicate hx]; omega
  go_enter Tryz.func104, Tryz.ntmps104
  go_wp2
  obtain ⟨g0, hg0⟩ : ∃ g, w.heap.size = g := ⟨_, rfl⟩
  have hgs : w.heap.size ≤ g0 := by omega
  rw [show (⟨w.heap.size, 0, none⟩ : Addr) = ⟨g0, 0, none⟩ by rw [hg0]]
  rw [hg0] at HN
  clear hg0
  generalize noughts w = w1 at HN HB ⊢
  obtain ⟨z, hz⟩ : ∃ z, List.replicate 256 (0 : Int) = z := ⟨_, rfl⟩
  have hzl : z.length = 256 := by rw [← hz]; simp
  rw [hz] at HN hab
  have HZ := Aside0.mk hz
  have HZL := Aside0.mk hzl
  have HAB := Aside0.mk hab
  clear hz hzl hab hmk
  go_loopg [7] (2016 - n) (fun g i wr => ∃ k : Nat, k + g = 2016 - n ∧ i = .int .i64 ((n + k : Nat) : Int) ∧ Aside0 (Row wr .u8 g0 5 (orTo z n k)) ∧ Aside0 (Below w.heap.size w wr))
  case atStart => exact ⟨0, by omega, rfl, HN, HB⟩
  case round =>
    obtain ⟨k, hk, rfl, HR, HBr⟩ := hrel
    have hlen := orTo_length z n k
    obtain ⟨i, hi⟩ : ∃ i, n + k = i := ⟨_, rfl⟩
    rw [hi]
    cases gk with
    | zero =>
      have HI := Aside0.mk hi
      have hr := HR.out
      have hk2 : k = 2016 - n := by omega
      rw [hk2] at hr
      have hsc := seal_calls g0 252 256 s wr _ hr (by rw [orTo_length, HZL.out]) (by omega) (by omega) hs0 hs1
      have HSC := Aside0.mk hsc
      have i1 : ¬ (i : Int) < 2016 := by omega
      clear hr hsc hi hk2 hlen
      go_wp2_with fail
      refine HSC.out.mono ?_
      rintro e w2 ⟨rfl, hr2, hm2⟩
      dsimp only
      go_wp2
      go_ret2
      refine ⟨g0, rfl, hgs, ?_, below_mod HBr.out hm2 hgs⟩
      unfold newB
      rw [HZ.out]
      exact hr2
    | succ g =>
      have hlt : i < 2016 := by omega
      have hnext : orTo z n (k + 1) = (orTo z n k).set (i / 8) (Go.bits .or .u8 ((orTo z n k).getD (i / 8) 0) (2 ^ (i % 8))) := by rw [← hi]; rfl
      obtain ⟨q, hq⟩ : ∃ q, i / 8 = q := ⟨_, rfl⟩
      obtain ⟨r, hrr⟩ : ∃ r, i % 8 = r := ⟨_, rfl⟩
      have hr8 : r < 8 := by omega
      have HW := Aside0.mk (And.intro (w64 (x := (i : Int) / 8) (n := q) (by omega) (by omega)) (show (i : Int).tmod 8 = (r : Int) by rw [Int.tmod_eq_emod_of_nonneg (by omega)]; omega))
      have hpw := pow_wrap r hr8
      have i2 : q < 256 := by omega
      have i1 : (q : Int) < 256 := by omega
      rw [hq, hrr] at hnext
      have hc := HR.out.cell q (by rw [hlen, HZL.out]; omega)
      have hz0 := HR.out.free q
      have hset := HR.out.set q (Go.bits .or .u8 ((orTo z n k).getD q 0) (2 ^ r))
      rw [← hnext] at hset
      have hx1 := allB_get (allB_or HAB.out n k) q
      generalize (orTo z n k).getD q 0 = x at hc hset hx1
      have HSET := Aside0.mk hset
      have HI := Aside0.mk hi
      have hbs := below_set_new HBr.out hgs q (.int .u8 (Go.bits .or .u8 x (2 ^ r)))
      have HBS := Aside0.mk hbs
      clear hset hnext hi hlen hbs hq hrr
      go_wp2
      obtain ⟨hw1, hw3⟩ := HW.out
      refine wp_region_in [0, 0, 0, 0, 1, 0, 0, 0, 0, 0, 3] [10] (fun w' => w'.cell? ⟨g0, q, none⟩ = some (.int .u8 x) ∧ w'.frozen? ⟨g0, q, none⟩ = false) (by kernel_rfl) rfl (by kernel_rfl) (fun _ _ _ _ h => h) ⟨hc, hz0⟩ ?_
      iterate 10 (first
        | (refine in_off0 (by rfl) ?_; simp only [Act.put, stA, stZ, stS, i64_w, i32_w])
        | (refine in_off1 (by rfl) ?_; simp only [Act.put, stA, stZ, stS, i64_w, i32_w])
        | (refine in_0 (v := ?_) (by rfl) rfl ?_ (a' := ?_) ?_ ?_; rotate_left; (intro w'; go_simp; with_reducible rfl); rotate_left; (simp only [Act.put, stA, stZ, stS, i64_w, i32_w]; rfl))
        | (refine in_1 (v := ?_) (by rfl) rfl ?_ (a' := ?_) ?_ ?_; rotate_left; (rintro w' hs; go_split_ands; go_simp; with_reducible rfl); rotate_left; (simp only [Act.put, stA, stZ, stS, i64_w, i32_w]; rfl)))
      refine in_3 (by rfl) (fun K hK => ?_)
      go_simp
      refine hK _ _ ?_
      clear hK K
      try simp only [Act.put, stA, stZ, stS, i64_w, i32_w]
      refine out_nil ?_
      clear hw1 hw3 hc hz0
      go_wp2
      go_roundg g
      case measure => omega
      case rel => exact ⟨k + 1, by omega, by have := HI.out; go_num, ⟨HSET.out⟩, ⟨HBS.out.drew⟩⟩
end Go.Proofs.YtkmhilhfmfmckaaGreatDoor.Hand
namespace Go.Proofs.YtkmhilhfmfmckaaGreatDoor.Hand
set_option linter.unusedSimpArgs false
set_option linter.unusedVariables false
open Go.RowKit Go.Proofs.YtkmhilhfmfmckaaGreatDoorW.PrintWords Go.Proofs.YtkmhilhfmfmckaaGreatDoorW.PrintLast Go.Proofs.YtkmhilhfmfmckaaGreatDoorW.PrintMore
section
variable {P : Program} {md : Region.Mode} {ops : Array Oper} {Q : Exit → Act → World → Prop} {S : World → Prop}
def ordP (md : Region.Mode) (ops : Array Oper) : Array Bool → List Nat → List Nat → Bool
  | l, i :: is, k :: ks => (match k with
      | 0 => anyB md ops l (l.setIfInBounds i true) i
      | 1 => takeB md ops [] l (l.setIfInBounds i true) i
      | _ => readyB md ops l (l.setIfInBounds i true) i) && ordP md ops (l.setIfInBounds i true) is ks
  | l, [], [] => Region.ready md ops l == []
  | _, _, _ => false
def wpInP (P : Program) (ops : Array Oper) (Q : Exit → Act → World → Prop) (S : World → Prop) : List Nat → List Nat → Act → World → Prop
  | i :: is, 0 :: ks, a, w => ∃ o, ops[i]? = some o ∧ ∃ v, Yields P ops o v a ∧ wpInP P ops Q S is ks (a.put o.dst v) w
  | i :: is, 1 :: ks, a, w => ∃ o, ops[i]? = some o ∧ ∃ v, YieldsIf P ops S o v a ∧ wpInP P ops Q S is ks (a.put o.dst v) w
  | i :: is, (_ + 2) :: ks, a, w => ∃ o, ops[i]? = some o ∧ ∀ K : Act → World → Prop, Shut (∀ a' w', S w' → wpInP P ops Q S is ks a' w' → K a' w') → if Region.wanted o (yielded ops a.tmps) = true then Oper.wp P o a w K Q else K (a.put o.dst undef) w
  | _, _, a, w => Q .normal a w
theorem wpInP_sound (hQ : ∀ c (a : Act) t w, Q (.panic c) { a with tmps := t } w → Q (.panic c) a w) (is : List Nat) :
    ∀ (ks : List Nat) (l : Array Bool) (a : Act) (w : World), ordP md ops l is ks = true → S w → wpInP P ops Q S is ks a w → wpAnyLast P md ops Q S [] is.length l a w := by
  induction is with
  | nil =>
    intro ks l a w ho _ h
    cases ks with
    | nil => exact done_ ho (by simpa [wpInP] using h)
    | cons => simp [ordP] at ho
  | cons i is ih =>
    intro ks l a w ho hS h
    cases ks with
    | nil => simp [ordP] at ho
    | cons k ks =>
      simp only [ordP, Bool.and_eq_true] at ho
      obtain ⟨h1, h2⟩ := ho
      match k with
      | 0 =>
        obtain ⟨o, hi, v, hy, h⟩ := h
        exact pure_ _ hi rfl h1 (put_panic hQ _ _) hy rfl (ih ks _ _ w h2 hS h)
      | 1 =>
        obtain ⟨o, hi, v, hy, h⟩ := h
        exact take_ _ hi rfl h1 (put_panic hQ _ _) hy hS rfl (ih ks _ _ w h2 hS h)
      | k + 2 =>
        obtain ⟨o, hi, h⟩ := h
        exact one_ _ hi rfl h1 (by simp) (fun K hK => h K (fun a' w' hS' h' => hK a' w' hS' (fun hS'' => ih ks _ a' w' h2 hS' h')))
theorem wp_region_ord {id : Nat} {l : List Oper} {a : Act} {w : World} (is ks : List Nat) (S : World → Prop) (hm : P.follows .mixedOrders = true) (hl : is.length = l.length) (ho : ordP .any l.toArray (Array.replicate l.length false) is ks = true)
    (hQ : ∀ c (a : Act) t w, Q (.panic c) { a with tmps := t } w → Q (.panic c) a w) (hS : S w.drew) (h : wpInP P l.toArray Q S is ks a w.drew) : (Code.region id l.toArray true).wp P Q a w := by
  refine start_ (S := S) (ds := []) _ hm rfl rfl hS (fun _ => ?_)
  have := wpInP_sound (P := P) (md := .any) (ops := l.toArray) (S := S) hQ is ks _ a w.drew ho hS h
  rw [hl] at this
  exact this
variable {o : Oper} {i : Nat} {is ks : List Nat} {a : Act} {w : World}
theorem inP_off0 (ho : ops[i]? = some o) (hw : Region.wanted o (yielded ops a.tmps) = false) (h : wpInP P ops Q S is ks (a.put o.dst undef) w) : wpInP P ops Q S (i :: is) (0 :: ks) a w := ⟨o, ho, undef, .inr ⟨hw, rfl⟩, h⟩
theorem inP_off1 (ho : ops[i]? = some o) (hw : Region.wanted o (yielded ops a.tmps) = false) (h : wpInP P ops Q S is ks (a.put o.dst undef) w) : wpInP P ops Q S (i :: is) (1 :: ks) a w := ⟨o, ho, undef, .inr ⟨hw, rfl⟩, h⟩
theorem inP_0 {v : Value} {N : Option Tmp} (ho : ops[i]? = some o) (hw : Region.wanted o (yielded ops a.tmps) = true) (hN : o.dst = N) (hy : ∀ w, (execOp a.eval o).run P w = .ok (.value v) w) {a' : Act} (ha : a.put N v = a') (h : wpInP P ops Q S is ks a' w) : wpInP P ops Q S (i :: is) (0 :: ks) a w :=
  ⟨o, ho, v, .inl ⟨hw, hy⟩, by rw [hN, ha]; exact h⟩
theorem inP_1 {v : Value} {N : Option Tmp} (ho : ops[i]? = some o) (hw : Region.wanted o (yielded ops a.tmps) = true) (hN : o.dst = N) (hy : ∀ w, S w → (execOp a.eval o).run P w = .ok (.value v) w) {a' : Act} (ha : a.put N v = a') (h : wpInP P ops Q S is ks a' w) : wpInP P ops Q S (i :: is) (1 :: ks) a w :=
  ⟨o, ho, v, .inl ⟨hw, hy⟩, by rw [hN, ha]; exact h⟩
theorem inP_2 (ho : ops[i]? = some o) (hw : Region.wanted o (yielded ops a.tmps) = true) (h : ∀ K : Act → World → Prop, Shut (∀ a' w', S w' → wpInP P ops Q S is ks a' w' → K a' w') → Oper.wp P o a w K Q) : wpInP P ops Q S (i :: is) (2 :: ks) a w := by
  refine ⟨o, ho, fun K hK => ?_⟩
  rw [if_pos hw]
  exact h K hK
def nth : List Oper → Nat → Option Oper
  | [], _ => none
  | o :: _, 0 => some o
  | _ :: r, n + 1 => nth r n
theorem nth_get (l : List Oper) (i : Nat) : nth l i = l[i]? := by
  induction l generalizing i with
  | nil => rfl
  | cons o r ih => cases i with
    | zero => rfl
    | succ n => exact ih n
theorem nth_ok (h : nth ops.toList i = some o) : ops[i]? = some o := by rw [nth_get] at h; rw [← Array.getElem?_toList]; exact h
theorem inQ_off0 (ho : nth ops.toList i = some o) (hw : Region.wanted o (yielded ops a.tmps) = false) (h : wpInP P ops Q S is ks (a.put o.dst undef) w) : wpInP P ops Q S (i :: is) (0 :: ks) a w := inP_off0 (nth_ok ho) hw h
theorem inQ_off1 (ho : nth ops.toList i = some o) (hw : Region.wanted o (yielded ops a.tmps) = false) (h : wpInP P ops Q S is ks (a.put o.dst undef) w) : wpInP P ops Q S (i :: is) (1 :: ks) a w := inP_off1 (nth_ok ho) hw h
theorem inQ_0 {v : Value} {N : Option Tmp} (ho : nth ops.toList i = some o) (hw : Region.wanted o (yielded ops a.tmps) = true) (hN : o.dst = N) (hy : ∀ w, (execOp a.eval o).run P w = .ok (.value v) w) {a' : Act} (ha : a.put N v = a') (h : wpInP P ops Q S is ks a' w) : wpInP P ops Q S (i :: is) (0 :: ks) a w := inP_0 (nth_ok ho) hw hN hy ha h
theorem inQ_1 {v : Value} {N : Option Tmp} (ho : nth ops.toList i = some o) (hw : Region.wanted o (yielded ops a.tmps) = true) (hN : o.dst = N) (hy : ∀ w, S w → (execOp a.eval o).run P w = .ok (.value v) w) {a' : Act} (ha : a.put N v = a') (h : wpInP P ops Q S is ks a' w) : wpInP P ops Q S (i :: is) (1 :: ks) a w := inP_1 (nth_ok ho) hw hN hy ha h
theorem inQ_2 (ho : nth ops.toList i = some o) (hw : Region.wanted o (yielded ops a.tmps) = true) (h : ∀ K : Act → World → Prop, Shut (∀ a' w', S w' → wpInP P ops Q S is ks a' w' → K a' w') → Oper.wp P o a w K Q) : wpInP P ops Q S (i :: is) (2 :: ks) a w := inP_2 (nth_ok ho) hw h
theorem inP_nil (h : Q .normal a w) : wpInP P ops Q S [] [] a w := h
end
end Go.Proofs.YtkmhilhfmfmckaaGreatDoor.Hand
namespace Go.Proofs.YtkmhilhfmfmckaaGreatDoor.Hand
set_option linter.unusedSimpArgs false
set_option linter.unusedVariables false
open Go.Shelf Go.RowKit Go.Proofs.YtkmhilhfmfmckaaGreatDoorW.PrintWords Go.Proofs.YtkmhilhfmfmckaaGreatDoorW.PrintLast Go.Proofs.YtkmhilhfmfmckaaGreatDoorW.PrintMore
def sealedI (b : List Int) (s : Int) : Bool := val (b.drop 252) == crcI s (b.take 252)
set_option maxHeartbeats 1000000 in
set_option maxRecDepth 100000 in
theorem sealedt_calls (A : Option Addr) (c : Nat) (b : List Int) (s : Int) (w : World) (hb : Kd.C (Kd.int .u8) w A b.length b) (hl : b.length = 256) (hc : b.length ≤ c) (hab : allB b) (hs0 : 0 ≤ s) (hs1 : s < 4294967296) :
    Calls Tryz.prog 172 #[.slice A b.length c, .int .u32 s] w fun e w' => e = .returned (.bool (sealedI b s)) ∧ Below w.heap.size w w' := by
  obtain ⟨ad, rfl, _⟩ := C_int_at hb 0 (by omega)
  have hd : (b.drop 252).length = 4 := by simp [hl]
  have ht : (b.take 252).length = 252 := by simp [hl]
  have hp1 := C_int_part hb 252 4 (by omega)
  rw [List.take_of_length_le (by omega)] at hp1
  have hp2 := C_int_pre hb 252 (by omega)
  have HN := Aside0.mk (fun (W : World) (hW : Below w.heap.size w W) => by
    have := number_calls (some (ad.add 252)) (c - 252) (b.drop 252) W (by rw [hd]; exact Kd.C_below hp1 hW) (by omega)
    rw [hd, numI_val (allB_drop hab 252) (by omega)] at this
    exact this)
  have HC := Aside0.mk (fun (W : World) (hW : Below w.heap.size w W) => by
    have := crc_calls s (some ad) c (b.take 252) W (by rw [ht]; exact Kd.C_below hp2 hW) hs0 hs1
    rw [ht] at this
    exact this)
  have hv := val_range (allB_drop hab 252)
  have hcr := crcI_range s (b.take 252)
  unfold sealedI
  obtain ⟨x, hx⟩ : ∃ x, val (b.drop 252) = x := ⟨_, rfl⟩
  obtain ⟨y, hy⟩ : ∃ y, crcI s (b.take 252) = y := ⟨_, rfl⟩
  rw [hx] at HN hv ⊢
  rw [hy] at HC hcr ⊢
  obtain ⟨hy0, hy1⟩ := hcr
  have hym : IntKind.u64.wrap y = y := by rw [wrap_u64]; omega
  rw [hl] at hc ⊢
  clear hb hab hd ht hp1 hp2 hx hy hl hv
  have hcut1 : ∀ W : World, (Instr.slice 23 (.slice (some ad) 256 c) (some (.int .i64 252)) none none).run Tryz.prog W = .ok (.slice (some (ad.add 252)) 4 (c - 252)) W := by
    intro W
    obtain ⟨j0, hj, hj0, hj1, hj2⟩ := info_parts infoU8
    have := cut_from (P := Tryz.prog) 23 5 .i64 (i := j0) rfl hj 1 hj1 (some ad) 256 c 252 (by omega) (by omega) W
    rw [this, if_neg (by omega), Nat.mul_one]
    rfl
  have hcut2 : ∀ W : World, (Instr.slice 23 (.slice (some ad) 256 c) none (some (.int .i64 252)) none).run Tryz.prog W = .ok (.slice (some ad) 252 c) W := by
    intro W
    obtain ⟨j0, hj, hj0, hj1, hj2⟩ := info_parts infoU8
    have := cut_to (P := Tryz.prog) 23 5 .i64 (i := j0) rfl hj (some ad) 256 c 252 (by omega) (by omega) hc W
    rw [this]
    rfl
  go_enter Tryz.func172, Tryz.ntmps172
  go_wp2
  refine wp_region_ord [0, 1, 2, 3, 4, 5, 7, 8, 9, 10, 6, 11, 12, 13, 14, 15] [0, 0, 0, 0, 0, 0, 0, 0, 0, 0, 2, 2, 0, 0, 0, 0] (fun w' => Below w.heap.size w w') (by kernel_rfl) rfl (by kernel_rfl) (fun _ _ _ _ h => h) (Below.refl _ _).drew ?_
  iterate 10 (first
    | (refine inQ_off0 (by rfl) (by rfl) ?_; simp only [Act.put, stA, stZ, stS, i64_w, i32_w])
    | (refine inQ_off1 (by rfl) (by rfl) ?_; simp only [Act.put, stA, stZ, stS, i64_w, i32_w])
    | (refine inQ_0 (v := ?_) (by rfl) (by rfl) rfl ?_ (a' := ?_) ?_ ?_; rotate_left; (intro w'; go_simp; with_reducible rfl); rotate_left; (simp only [Act.put, stA, stZ, stS, i64_w, i32_w]; rfl))
    | (refine inQ_1 (v := ?_) (by rfl) (by rfl) rfl ?_ (a' := ?_) ?_ ?_; rotate_left; (rintro w' hs; go_split_ands; go_simp; with_reducible rfl); rotate_left; (simp only [Act.put, stA, stZ, stS, i64_w, i32_w]; rfl)))
  refine inQ_2 (by rfl) (by rfl) (fun K hK => ?_)
  go_simp
  refine (HN.out _ (Below.refl _ _).drew).mono ?_
  rintro e w3 ⟨rfl, rfl⟩
  dsimp only
  refine hK _ _ (Below.refl _ _).drew ?_
  clear hK K
  try simp only [Act.put, stA, stZ, stS, i64_w, i32_w]
  refine inQ_2 (by rfl) (by rfl) (fun K hK => ?_)
  go_simp
  refine (HC.out _ (Below.refl _ _).drew).mono ?_
  rintro e w5 ⟨rfl, rfl⟩
  dsimp only
  refine hK _ _ (Below.refl _ _).drew ?_
  clear hK K
  try simp only [Act.put, stA, stZ, stS, i64_w, i32_w]
  iterate 4 (first
    | (refine inQ_off0 (by rfl) (by rfl) ?_; simp only [Act.put, stA, stZ, stS, i64_w, i32_w])
    | (refine inQ_off1 (by rfl) (by rfl) ?_; simp only [Act.put, stA, stZ, stS, i64_w, i32_w])
    | (refine inQ_0 (v := ?_) (by rfl) (by rfl) rfl ?_ (a' := ?_) ?_ ?_; rotate_left; (intro w'; go_simp; with_reducible rfl); rotate_left; (simp only [Act.put, stA, stZ, stS, i64_w, i32_w]; rfl))
    | (refine inQ_1 (v := ?_) (by rfl) (by rfl) rfl ?_ (a' := ?_) ?_ ?_; rotate_left; (rintro w' hs; go_split_ands; go_simp; with_reducible rfl); rotate_left; (simp only [Act.put, stA, stZ, stS, i64_w, i32_w]; rfl)))
  refine inP_nil ?_
  go_wp2
  go_ret
  exact ⟨rfl, (Below.refl _ _).drew⟩
def tailB (b : List Int) (n g : Nat) : Bool := (List.range g).all fun k => setI b ((n + k : Nat) : Int)
theorem tailB_snoc (b : List Int) (n g : Nat) : tailB b n (g + 1) = (tailB b n g && setI b ((n + g : Nat) : Int)) := by
  unfold tailB
  rw [List.range_succ, List.all_append]
  simp
theorem tailB_le {b : List Int} {n g m : Nat} (h : tailB b n m = true) (hg : g ≤ m) : tailB b n g = true := by
  unfold tailB at h ⊢
  rw [List.all_eq_true] at h ⊢
  intro k hk
  exact h k (by rw [List.mem_range] at hk ⊢; omega)
def chkB (b : List Int) (n : Nat) (s : Int) : Int := if b.length ≠ 256 ∨ sealedI b s = false then 117 else if tailB b n (2016 - n) = true then 0 else 117
set_option maxHeartbeats 1000000 in
set_option maxRecDepth 100000 in
theorem bchk_calls (A : Option Addr) (c : Nat) (b : List Int) (n : Nat) (s : Int) (w : World) (hb : Kd.C (Kd.int .u8) w A b.length b) (hc : b.length ≤ c) (hab : allB b) (hn : n ≤ 2016) (hs0 : 0 ≤ s) (hs1 : s < 4294967296) :
    Calls Tryz.prog 134 #[.slice A b.length c, .int .i64 n, .int .u32 s] w fun e w' => e = .returned (.int .i64 (chkB b n s)) ∧ Below w.heap.size w w' := by
  have hm := (C_int_len hb).2
  by_cases h256 : b.length = 256
  · have HS := Aside0.mk (fun (W : World) (hW : Below w.heap.size w W) => sealedt_calls A c b s W (Kd.C_below hb hW) h256 hc hab hs0 hs1)
    have HT := Aside0.mk (fun (i : Int) (W : World) (hW : Below w.heap.size w W) (h0 : -9223372036854775808 ≤ i) (h1 : i ≤ 9223372036854775807) => set_calls A c b i W (Kd.C_below hb hW) hab h0 h1)
    have hck : chkB b n s = if sealedI b s = false then 117 else if tailB b n (2016 - n) = true then 0 else 117 := by unfold chkB; simp [h256]
    rw [h256] at HS HT ⊢
    obtain ⟨q, hq⟩ : ∃ q, sealedI b s = q := ⟨_, rfl⟩
    rw [hq] at HS hck
    have HC0 : q = false → chkB b n s = 117 := fun h => by rw [hck, if_pos h]
    have HC1 : q = true → tailB b n (2016 - n) = true → chkB b n s = 0 := fun h h2 => by rw [hck, if_neg (by rw [h]; simp), if_pos h2]
    have HC2 : q = true → ¬ tailB b n (2016 - n) = true → chkB b n s = 117 := fun h h2 => by rw [hck, if_neg (by rw [h]; simp), if_neg h2]
    obtain ⟨r, hr⟩ : ∃ r, chkB b n s = r := ⟨_, rfl⟩
    rw [hr] at HC0 HC1 HC2 ⊢
    clear hb hab h256 hc hm hq hck hr
    cases q
    · have hr : r = 117 := HC0 rfl
      subst hr
      clear HC0 HC1 HC2
      go_enter Tryz.func134, Tryz.ntmps134
      go_wp2_with fail
      refine (HS.out w (Below.refl _ _)).mono ?_
      rintro e w1 ⟨rfl, hb1⟩
      dsimp only
      have HB1 := Aside0.mk hb1
      clear hb1
      go_wp2
      go_ret
      exact ⟨rfl, HB1.out⟩
    · have HK1 := Aside0.mk (HC1 rfl)
      have HK2 := Aside0.mk (HC2 rfl)
      clear HC0 HC1 HC2
      go_enter Tryz.func134, Tryz.ntmps134
      go_wp2_with fail
      refine (HS.out w (Below.refl _ _)).mono ?_
      rintro e w1 ⟨rfl, hb1⟩
      dsimp only
      have HB1 := Aside0.mk hb1
      clear hb1
      go_wp2
      go_loopg [7] (2016 - n) (fun g i wr => ∃ k : Nat, k + g = 2016 - n ∧ i = .int .i64 ((n + k : Nat) : Int) ∧ Aside0 (tailB b n k = true) ∧ Aside0 (Below w.heap.size w wr))
      case atStart => exact ⟨0, by omega, rfl, ⟨rfl⟩, HB1⟩
      case round =>
        obtain ⟨k, hk, rfl, HTB, HBr⟩ := hrel
        obtain ⟨i, hi⟩ : ∃ i, n + k = i := ⟨_, rfl⟩
        rw [hi]
        have HI := Aside0.mk hi
        cases gk with
        | zero =>
          have hk2 : k = 2016 - n := by omega
          have i1 : ¬ (i : Int) < 2016 := by omega
          have HKZ := Aside0.mk hk2
          clear hi hk2
          go_wp2
          go_ret
          refine ⟨?_, HBr.out⟩
          have := HTB.out
          rw [HKZ.out] at this
          rw [HK1.out this]
          rfl
        | succ g =>
          have hst := HT.out (i : Int) wr HBr.out (by omega) (by omega)
          have hsn := tailB_snoc b n k
          rw [hi, HTB.out, Bool.true_and] at hsn
          obtain ⟨q, hq⟩ : ∃ q, setI b (i : Int) = q := ⟨_, rfl⟩
          rw [hq] at hst hsn
          have HST := Aside0.mk hst
          have HSN := Aside0.mk hsn
          have i1 : (i : Int) < 2016 := by omega
          clear hst hsn hq hi
          go_wp2_with fail
          refine HST.out.mono ?_
          rintro e w2 ⟨rfl, rfl⟩
          dsimp only
          cases q
          · go_wp2
            go_ret
            have hf : ¬ tailB b n (2016 - n) = true := fun h => by
              have := tailB_le (g := k + 1) h (by omega)
              rw [HSN.out] at this
              cases this
            exact ⟨by rw [HK2.out hf]; rfl, HBr.out⟩
          · go_wp2
            go_roundg g
            case measure => omega
            case rel => exact ⟨k + 1, by omega, by have := HI.out; go_num, HSN, HBr⟩
  · have hck : chkB b n s = 117 := by unfold chkB; rw [if_pos (.inl h256)]
    rw [hck]
    have hne : ((b.length : Int) != 256) = true := by rw [bne_iff_ne]; omega
    clear hb hab hck
    go_enter Tryz.func134, Tryz.ntmps134
    go_wp2
    go_ret
    exact ⟨rfl, Below.refl _ _⟩
theorem nonnil_eql (ad : Addr) (n c : Nat) (W : World) : (binOp .eql 23 (.slice (some ad) n c) (.slice none 0 0)).run Tryz.prog W = .ok (.bool false) W := by kernel_rfl
theorem nil_eql (W : World) : (binOp .eql 23 (.slice none 0 0) (.slice none 0 0)).run Tryz.prog W = .ok (.bool true) W := by kernel_rfl
set_option maxHeartbeats 1000000 in
set_option maxRecDepth 100000 in
theorem clone_calls (ad : Addr) (c : Nat) (b : List Int) (w : World) (hb : Kd.C (Kd.int .u8) w (some ad) b.length b) (hm : b.length ≤ 140737488351232) :
    Calls Tryz.prog 42 #[.slice (some ad) b.length c] w fun e w' => ∃ v, e = .returned v ∧ Own w' w.heap.size 5 .u8 v b ∧ Below w.heap.size w w' := by
  have HB := Aside0.mk hb
  have hrx : RowX (w.alloc (.cells #[] 5)) .u8 w.heap.size 5 [] := alloc_last _ _
  have HO := Aside0.mk (own_of_row (n := 0) (base := w.heap.size) hrx rfl (Nat.le_refl _) (by simp [maxLen]))
  have HBa := Aside0.mk (fun o => below_alloc (Below.refl w.heap.size w) o)
  clear hb hrx
  obtain ⟨i0, hi, hz0, hz1, hz2⟩ := info_parts infoU8
  have hnil := nonnil_eql ad b.length c
  go_enter Tryz.func42, Tryz.ntmps42
  go_wp2_with ((with_reducible refine gate_dst (N := 7) rfl ?_); refine wpList_append_own _ rfl (.tmp 5) (.tmp 6) 23 rfl w.heap.size 5 i0 (.int .u8 0) 1 1 Tryz.underlying23 hi hz0 hz1 hz2 rfl (by decide) _ _ _ rfl HO.out ad b.length c (nums .u8 b) ?c6 ?c7 ?c1 ?c2 ?c3 ?c4 ?c5 ?_; (case c6 => rfl); (case c7 => (first | rfl | simp [nums_length])); (case c1 => (intro j u hj; obtain ⟨hjl, e⟩ := List.getElem?_eq_some_iff.1 hj; rw [nums_length] at hjl; obtain ⟨ad', e', hc'⟩ := C_int_at (Kd.C_below HB.out (HBa.out _)) j hjl; cases e'; rw [hc', ← e]; simp [nums, List.getD_eq_getElem?_getD, hjl])); (case c2 => (intro u hu; simp only [nums, List.mem_map] at hu; obtain ⟨x, _, rfl⟩ := hu; rfl)); (case c3 => (simp only [maxLen, List.length_nil]; omega)); (case c4 => (simp only [List.length_nil]; omega)); (case c5 => exact (HBa.out _).size); intro v1 w5 hown1 hgrow1 _; have HO5 := Aside0.mk (own_snoc (l := []) (ys := b) hown1 rfl rfl); have HB5 := Aside0.mk (pw_below_grown (HBa.out _) _ (HBa.out _).size hgrow1 (fun g hg => HO.out.base g hg)); clear hown1 hgrow1 hz0 hz1 hz2 hi)
  go_ret
  exact ⟨_, rfl, HO5.out, HB5.out⟩
def Strc (w : World) (p : Nat) (t : TypeId) (l : List Value) : Prop := w.heap[p]? = some (.cells l.toArray t (0, 0))
theorem Strc.lt {w : World} {p : Nat} {t : TypeId} {l : List Value} (h : Strc w p t l) : p < w.heap.size := lt_of_obj h
theorem Strc.cell {w : World} {p : Nat} {t : TypeId} {l : List Value} (h : Strc w p t l) (j : Nat) (v : Value) (hj : l[j]? = some v) : w.cell? ⟨p, j, none⟩ = some v := by
  rw [cell_of_row w p j _ t _ h]
  simpa using hj
theorem Strc.free {w : World} {p : Nat} {t : TypeId} {l : List Value} (h : Strc w p t l) (j : Nat) : w.frozen? ⟨p, j, none⟩ = false := by
  unfold Strc at h
  simp [World.frozen?, h]
theorem Strc.kept {w w1 : World} {p : Nat} {t : TypeId} {l : List Value} (h : Strc w p t l) (hk : w1.heap[p]? = w.heap[p]?) : Strc w1 p t l := hk.trans h
theorem Strc.mod {w w1 : World} {p : Nat} {t : TypeId} {l : List Value} {S : Nat → Prop} (h : Strc w p t l) (hm : Mod w w1 S) (hn : ¬ S p) : Strc w1 p t l := hm.obj h hn
theorem Strc.below {w w1 : World} {p : Nat} {t : TypeId} {l : List Value} (h : Strc w p t l) (hm : Below w.heap.size w w1) : Strc w1 p t l := (hm.block p h.lt).trans h
theorem Strc.set {w : World} {p : Nat} {t : TypeId} {l : List Value} (h : Strc w p t l) (j : Nat) (v : Value) : Strc (w.setCell ⟨p, j, none⟩ v) p t (l.set j v) := by
  unfold Strc at h ⊢
  unfold World.setCell
  simp only [Array.getElem?_modify, if_true, h, Option.map_some]
  simp
theorem Strc.inj {w : World} {p : Nat} {t u : TypeId} {l m : List Value} (h : Strc w p t l) (k : Strc w p u m) : t = u ∧ l = m := by
  have := (h.symm.trans k : some (Obj.cells l.toArray t (0, 0)) = some (Obj.cells m.toArray u (0, 0)))
  simp at this
  exact ⟨this.2, this.1⟩
theorem Strc.not_row {w : World} {p : Nat} {t : TypeId} {l : List Value} (h : Strc w p t l) {k : IntKind} {e : TypeId} {m : List Int} {g : Nat} (hr : Row w k g e m) (hte : t ≠ e) : g ≠ p := by
  rintro rfl
  obtain ⟨r, hr⟩ := hr
  have := (hr.symm.trans h)
  simp at this
  exact hte this.2.symm
theorem Strc.not_map {P : Program} {kt : TypeId} {N : Nat} {f : Int → Option Value} {b : Nat} {w : World} {p : Nat} {t : TypeId} {l : List Value} (h : Strc w p t l) (hm : IM P kt w b N f) : b ≠ p := by
  rintro rfl
  obtain ⟨es, c, hb, _⟩ := hm
  have := hb.symm.trans h
  simp at this
theorem Row.not_map {P : Program} {kt : TypeId} {N : Nat} {f : Int → Option Value} {b : Nat} {w : World} {g : Nat} {k : IntKind} {e : TypeId} {m : List Int} (hr : Row w k g e m) (hm : IM P kt w b N f) : b ≠ g := by
  rintro rfl
  obtain ⟨es, c, hb, _⟩ := hm
  obtain ⟨r, hr⟩ := hr
  have := hb.symm.trans hr
  simp at this
theorem own_not_strc {w : World} {base e size n : Nat} {v : Value} {cs : List Value} (h : w.ownsRow base e size v n cs) {p : Nat} {t : TypeId} {l : List Value} (hs : Strc w p t l) (hte : t ≠ e) : v.ownBlock ≠ some p := by
  rcases h.2 with ⟨rfl, _⟩ | ⟨g, cap, cur, rfl, _, hgb, _⟩
  · simp [Value.ownBlock]
  · intro e'
    obtain rfl : g = p := by simpa [Value.ownBlock] using e'
    have := hgb.symm.trans hs
    simp at this
    exact hte this.2.symm
theorem own_not_row {w : World} {base e size n : Nat} {v : Value} {cs : List Value} (h : w.ownsRow base e size v n cs) {g : Nat} {k : IntKind} {t : TypeId} {l : List Int} (hs : Row w k g t l) (hte : t ≠ e) : v.ownBlock ≠ some g := by
  rcases h.2 with ⟨rfl, _⟩ | ⟨g', cap, cur, rfl, _, hgb, _⟩
  · simp [Value.ownBlock]
  · intro e'
    obtain rfl : g' = g := by simpa [Value.ownBlock] using e'
    obtain ⟨r, hr⟩ := hs
    have := hgb.symm.trans hr
    simp at this
    exact hte this.2.symm
theorem own_not_map {P : Program} {kt : TypeId} {N : Nat} {f : Int → Option Value} {b : Nat} {w : World} {base e size n : Nat} {v : Value} {cs : List Value} (h : w.ownsRow base e size v n cs) (hm : IM P kt w b N f) : v.ownBlock ≠ some b := by
  rcases h.2 with ⟨rfl, _⟩ | ⟨g', cap, cur, rfl, _, hgb, _⟩
  · simp [Value.ownBlock]
  · intro e'
    obtain rfl : g' = b := by simpa [Value.ownBlock] using e'
    obtain ⟨es, c, hb, _⟩ := hm
    have := hgb.symm.trans hb
    simp at this
theorem mod_grown {w w1 : World} {r : Option Nat} (h : w.grownBy w1 r) : Mod w w1 (fun k => r = some k) :=
  ⟨h.os, h.tape, h.output, h.size, fun k hk hn => h.block k hk (fun e => hn e.symm)⟩
theorem own_mod {w w1 : World} {S : Nat → Prop} {base e size n : Nat} {v : Value} {cs : List Value} (h : w.ownsRow base e size v n cs) (hm : Mod w w1 S) (hn : ∀ g, v.ownBlock = some g → ¬ S g) : w1.ownsRow base e size v n cs := by
  refine ⟨h.1, ?_⟩
  rcases h.2 with h0 | ⟨g, cap, cur, rfl, hb, hh, hr⟩
  · exact .inl h0
  · exact .inr ⟨g, cap, cur, rfl, hb, hm.obj hh (hn g rfl), hr⟩
theorem own_succ {W : World} {base e size n : Nat} {v : Value} {xs : List Value} (h : W.ownsRow base e size v (n + 1) xs) : ∃ g cap, v = .slice (some ⟨g, 0, none⟩) (n + 1) cap := by
  rcases h.2 with ⟨_, h0⟩ | ⟨g, cap, _, rfl, _⟩
  · omega
  · exact ⟨g, cap, rfl⟩
theorem own_any {w : World} {base base' e size n : Nat} {v : Value} {cs : List Value} (h : w.ownsRow base e size v n cs) (hb : ∀ g, v.ownBlock = some g → base' ≤ g) : w.ownsRow base' e size v n cs := by
  refine ⟨h.1, ?_⟩
  rcases h.2 with h0 | ⟨g, cap, cur, rfl, _, hr⟩
  · exact .inl h0
  · exact .inr ⟨g, cap, cur, rfl, hb g rfl, hr⟩
theorem add_next (ad : Addr) (j i : Nat) (h : 0 < i) : ad.add (j + i) = ⟨(ad.add j).block, (ad.add j).off + i, none⟩ := by
  unfold Addr.add
  rw [if_neg (by omega)]
  by_cases e : j = 0
  · subst e
    simp
  · rw [if_neg e]
    simp [Nat.add_assoc]
theorem own_shape {w : World} {base e size n : Nat} {v : Value} {cs : List Value} (h : w.ownsRow base e size v n cs) : ∃ A c, v = .slice A n c ∧ n ≤ c ∧ (∀ g, v.ownBlock = some g → A = some ⟨g, 0, none⟩) ∧ (0 < n → ∃ ad, A = some ad) ∧ ∀ ad, A = some ad → ∀ i u, cs[i]? = some u → w.cell? (ad.add i) = some u := by
  have h0 := h
  rcases h.2 with ⟨rfl, hz⟩ | ⟨g, cap, cur, rfl, hb, hh, h1, h2, h3, h4⟩
  · exact ⟨none, 0, by rw [hz], by omega, by simp [Value.ownBlock], by omega, by simp⟩
  · exact ⟨_, cap, rfl, h1, by simp [Value.ownBlock], fun _ => ⟨_, rfl⟩, fun ad e i u hi => by cases e; exact h0.cells (g := g) rfl i u hi⟩
def HB (w : World) (D : Nat → Prop) (v : Value) (l : List Int) : Prop := ∃ g c, v = .slice (some ⟨g, 0, none⟩) 256 c ∧ D g ∧ 256 ≤ c ∧ Row w .u8 g 5 l ∧ l.length = 256 ∧ allB l
theorem HB.kept {w w1 : World} {D : Nat → Prop} {v : Value} {l : List Int} (h : HB w D v l) (hk : ∀ g, D g → Row w .u8 g 5 l → w1.heap[g]? = w.heap[g]?) : HB w1 D v l := by
  obtain ⟨g, c, rfl, hd, hc, hr, h1, h2⟩ := h
  exact ⟨g, c, rfl, hd, hc, hr.kept (hk g hd hr), h1, h2⟩
theorem HB.mono {w : World} {D D' : Nat → Prop} {v : Value} {l : List Int} (h : HB w D v l) (hd : ∀ k, D k → D' k) : HB w D' v l := by
  obtain ⟨g, c, rfl, hdg, hr⟩ := h
  exact ⟨g, c, rfl, hd g hdg, hr⟩
def zeros : List Int := List.replicate 256 0
theorem zeros_length : zeros.length = 256 := by unfold zeros; rw [List.length_replicate]
theorem zeros_allB : allB zeros := fun x hx => by rw [List.eq_of_mem_replicate hx]; omega
def Blk (w : World) (D : Nat → Prop) : Option Value → List Int → Prop
  | none, l => l = zeros
  | some v, l => HB w D v l
theorem Blk.kept {w w1 : World} {D : Nat → Prop} {v : Option Value} {l : List Int} (h : Blk w D v l) (hk : ∀ g, D g → Row w .u8 g 5 l → w1.heap[g]? = w.heap[g]?) : Blk w1 D v l := by
  cases v with
  | none => exact h
  | some v => exact HB.kept h hk
theorem Blk.mono {w : World} {D D' : Nat → Prop} {v : Option Value} {l : List Int} (h : Blk w D v l) (hd : ∀ k, D k → D' k) : Blk w D' v l := by
  cases v with
  | none => exact h
  | some v => exact HB.mono h hd
theorem Blk.ok {w : World} {D : Nat → Prop} {v : Option Value} {l : List Int} (h : Blk w D v l) : l.length = 256 ∧ allB l := by
  cases v with
  | none => rw [show l = zeros from h]; exact ⟨zeros_length, zeros_allB⟩
  | some v => obtain ⟨g, c, _, _, _, _, h1, h2⟩ := h; exact ⟨h1, h2⟩
def putAll (f : Int → Option Value) (l : List (Nat × Value)) : Int → Option Value := l.foldl (fun m q => fun y => if y = (q.1 : Int) then some q.2 else m y) f
theorem putAll_snoc (f : Int → Option Value) (l : List (Nat × Value)) (q : Nat × Value) : putAll f (l ++ [q]) = fun y => if y = (q.1 : Int) then some q.2 else putAll f l y := by
  unfold putAll
  rw [List.foldl_append]
  rfl
theorem putAll_or (l : List (Nat × Value)) : ∀ (f : Int → Option Value) (y : Int), putAll f l y = (putAll (fun _ => none) l y).or (f y) := by
  induction l with
  | nil => intro f y; rfl
  | cons q l ih =>
    intro f y
    have h1 : putAll f (q :: l) = putAll (fun y => if y = (q.1 : Int) then some q.2 else f y) l := rfl
    have h2 : putAll (fun _ => none) (q :: l) = putAll (fun y => if y = (q.1 : Int) then some q.2 else none) l := rfl
    rw [h1, h2, ih, ih (fun y => if y = (q.1 : Int) then some q.2 else none), Option.or_assoc]
    congr 1
    split <;> rfl
def wcells (q : Nat × Value) : List Value := [.int .i64 q.1, q.2]
theorem wcells_at (l : List (Nat × Value)) (j : Nat) (q : Nat × Value) (hj : l[j]? = some q) : (l.flatMap wcells)[j * 2]? = some (.int .i64 q.1) ∧ (l.flatMap wcells)[j * 2 + 1]? = some q.2 := by
  induction l generalizing j with
  | nil => simp at hj
  | cons x l ih =>
    rw [List.flatMap_cons]
    cases j with
    | zero =>
      simp at hj
      subst hj
      exact ⟨rfl, rfl⟩
    | succ j =>
      have h := ih j (by simpa using hj)
      have e1 : (j + 1) * 2 = (wcells x).length + j * 2 := by simp [wcells]; omega
      have e2 : (j + 1) * 2 + 1 = (wcells x).length + (j * 2 + 1) := by simp [wcells]; omega
      rw [e2, e1, List.getElem?_append_right (by omega), List.getElem?_append_right (by omega)]
      simpa using h
structure DiskAt (w : World) (D : Nat → Prop) (p : Nat) (L : List (List Int)) (bd bn : Nat) (pv : Value) (ops : Int) (fd fn : Int → Option Value) (pend : List (Nat × Value)) (m : Nat) : Prop where
  st : Strc w p 168 [.int .i64 L.length, .map (some bd), pv, .map (some bn), .int .i64 ops]
  dp : D p
  dd : D bd
  dn : D bn
  ne : bd ≠ bn
  md : IM Tryz.prog 3 w bd 4096 fd
  mn : IM Tryz.prog 3 w bn 4096 fn
  row : w.ownsRow 0 207 2 pv pend.length (pend.flatMap wcells)
  drow : ∀ g, pv.ownBlock = some g → D g
  lo : 128 ≤ L.length
  hi : L.length ≤ 4096
  new : ∀ y, fn y = putAll (fun _ => none) pend y
  cont : ∀ n : Nat, n < L.length → Blk w D ((fn n).or (fd n)) (L.getD n [])
  short : pend.length ≤ m
  most : m ≤ 1000000
  pok : ∀ q ∈ pend, q.1 < L.length ∧ ∃ A n c, q.2 = .slice A n c
def DiskIs (w : World) (D : Nat → Prop) (p : Nat) (L : List (List Int)) (m : Nat) : Prop := ∃ bd bn pv ops fd fn pend, DiskAt w D p L bd bn pv ops fd fn pend m
theorem DiskIs.mod {w w1 : World} {D S : Nat → Prop} {p : Nat} {L : List (List Int)} {m : Nat} (h : DiskIs w D p L m) (hm : Mod w w1 S) (hn : ∀ k, k < w.heap.size → D k → ¬ S k) : DiskIs w1 D p L m := by
  obtain ⟨bd, bn, pv, ops, fd, fn, pend, h⟩ := h
  exact ⟨bd, bn, pv, ops, fd, fn, pend, ⟨h.st.mod hm (hn _ h.st.lt h.dp), h.dp, h.dd, h.dn, h.ne, h.md.mod hm (hn _ h.md.lt h.dd), h.mn.mod hm (hn _ h.mn.lt h.dn),
    own_mod h.row hm (fun g hg => hn g (own_lt h.row g hg) (h.drow g hg)), h.drow, h.lo, h.hi, h.new, fun n hl => (h.cont n hl).kept (fun g hd hr => hm.block g hr.lt (hn g hr.lt hd)), h.short, h.most, h.pok⟩⟩
theorem DiskIs.below {w w1 : World} {D : Nat → Prop} {p : Nat} {L : List (List Int)} {m : Nat} (h : DiskIs w D p L m) (hm : Below w.heap.size w w1) : DiskIs w1 D p L m := h.mod (Mod.of_below hm (fun _ => False)) (fun _ _ _ => id)
theorem DiskIs.ok {w : World} {D : Nat → Prop} {p : Nat} {L : List (List Int)} {m : Nat} (h : DiskIs w D p L m) (n : Nat) (hn : n < L.length) : (L.getD n []).length = 256 ∧ allB (L.getD n []) := by
  obtain ⟨bd, bn, pv, ops, fd, fn, pend, h⟩ := h
  exact (h.cont n hn).ok
theorem dblocks_calls {w : World} {p : Nat} {n : Int} (h : w.cell? ⟨p, 0, none⟩ = some (.int .i64 n)) :
    Calls Tryz.prog 102 #[.pointer (some ⟨p, 0, none⟩)] w fun e w' => e = .returned (.int .i64 n) ∧ w = w' := by
  go_enter Tryz.func102, Tryz.ntmps102
  go_wp2
  go_ret
  exact ⟨rfl, rfl⟩
theorem dhas_calls {w : World} {p : Nat} {n x : Int} (h : w.cell? ⟨p, 0, none⟩ = some (.int .i64 n)) :
    Calls Tryz.prog 124 #[.pointer (some ⟨p, 0, none⟩), .int .i64 x] w fun e w' => e = .returned (.bool (decide (0 ≤ x ∧ x < n))) ∧ w = w' := by
  by_cases h0 : 0 ≤ x
  · have e1 : decide (0 ≤ x ∧ x < n) = decide (x < n) := by simp [h0]
    rw [e1]
    go_enter Tryz.func124, Tryz.ntmps124
    go_wp2_with (go_at_call 102; refine (dblocks_calls h).mono ?_; rintro e w' ⟨rfl, rfl⟩)
    go_ret
    exact ⟨rfl, rfl⟩
  · have e1 : decide (0 ≤ x ∧ x < n) = false := by simp [h0]
    rw [e1]
    go_enter Tryz.func124, Tryz.ntmps124
    go_wp2
    go_ret
    exact ⟨rfl, rfl⟩
theorem zero_bytes (w : World) : (zeroValue 23).run Tryz.prog w = .ok (.slice none 0 0) w := by kernel_rfl
def DReadPost (L : List (List Int)) (n : Nat) (w : World) (e : Ending) (w' : World) : Prop :=
  ∃ g c, e = .returned (.tuple #[.slice (some ⟨g, 0, none⟩) 256 c, .int .i64 0]) ∧ w.heap.size ≤ g ∧ 256 ≤ c ∧ Row w' .u8 g 5 (L.getD n []) ∧ Below w.heap.size w w'
set_option maxHeartbeats 1000000 in
set_option maxRecDepth 100000 in
theorem dread_calls {D : Nat → Prop} {p : Nat} {L : List (List Int)} {m : Nat} (n : Nat) (w : World) (h : DiskIs w D p L m) (hn : n < L.length) :
    Calls Tryz.prog 56 #[.pointer (some ⟨p, 0, none⟩), .int .i64 n] w (DReadPost L n w) := by
  obtain ⟨bd, bn, pv, ops, fd, fn, pend, h⟩ := h
  have hlo := h.lo
  have hhi := h.hi
  have hc0 := h.st.cell 0 _ rfl
  have hc1 := h.st.cell 1 _ rfl
  have hc3 := h.st.cell 3 _ rfl
  have hdec : decide (0 ≤ (n : Int) ∧ (n : Int) < (L.length : Int)) = true := by simp; omega
  have hhas := dhas_calls (x := (n : Int)) hc0
  rw [hdec] at hhas
  have HHAS := Aside0.mk hhas
  have HMD := Aside0.mk h.md
  have HMN := Aside0.mk h.mn
  have hcont := h.cont n hn
  have i1 : n < 9223372036854775808 := by omega
  clear hhas hdec
  cases hfn : fn n with
  | some v =>
    rw [hfn] at hcont
    obtain ⟨g0, c0, rfl, hd0, hcc0, hr0, hl0, hb0⟩ := hcont
    have HR0 := Aside0.mk hr0
    have HFN := Aside0.mk (show (fn n).getD (.slice none 0 0) = .slice (some ⟨g0, 0, none⟩) 256 c0 by rw [hfn]; rfl)
    have hnil := nonnil_eql ⟨g0, 0, none⟩ 256 c0
    obtain ⟨b, hb⟩ : ∃ b, L.getD n [] = b := ⟨_, rfl⟩
    have HBB := Aside0.mk hb
    rw [hb] at HR0 hl0
    have hcl := clone_calls ⟨g0, 0, none⟩ c0 b w (HR0.out.reads (by omega)) (by omega)
    rw [hl0] at hcl
    have HCL := Aside0.mk hcl
    have HL0 := Aside0.mk hl0
    clear hfn h hr0 hb0 hcl hb hl0
    go_enter Tryz.func56, Tryz.ntmps56
    go_wp2_with (first
      | (go_at_call 124; refine HHAS.out.mono ?_; rintro e w' ⟨rfl, rfl⟩)
      | (go_at_call 42; refine HCL.out.mono ?_; rintro e w1 ⟨v1, rfl, hO, hB⟩; have HO := Aside0.mk hO; have HB := Aside0.mk hB; clear hO hB)
      | (at_lookup; refine im_look _ rfl _ _ rfl Tryz.underlying3 Tryz.underlying98 (zero_bytes _) rfl HMN.out n i1 rfl _ HFN.out ?_))
    go_ret2
    obtain ⟨g1, c1, rfl, hg1, hc1', hr1⟩ := HO.out.row (by rw [HL0.out]; omega)
    rw [HL0.out] at hc1'
    exact ⟨g1, c1, by rw [HL0.out]; rfl, hg1, hc1', by rw [HBB.out]; exact hr1, HB.out⟩
  | none =>
    rw [hfn] at hcont
    have HFN := Aside0.mk (show (fn n).getD (.slice none 0 0) = .slice none 0 0 by rw [hfn]; rfl)
    have hnil0 := nil_eql
    cases hfd : fd n with
    | some v =>
      rw [hfd] at hcont
      obtain ⟨g0, c0, rfl, hd0, hcc0, hr0, hl0, hb0⟩ := hcont
      have HR0 := Aside0.mk hr0
      have HFD := Aside0.mk (show (fd n).getD (.slice none 0 0) = .slice (some ⟨g0, 0, none⟩) 256 c0 by rw [hfd]; rfl)
      have hnil := nonnil_eql ⟨g0, 0, none⟩ 256 c0
      obtain ⟨b, hb⟩ : ∃ b, L.getD n [] = b := ⟨_, rfl⟩
      have HBB := Aside0.mk hb
      rw [hb] at HR0 hl0
      have hcl := clone_calls ⟨g0, 0, none⟩ c0 b w (HR0.out.reads (by omega)) (by omega)
      rw [hl0] at hcl
      have HCL := Aside0.mk hcl
      have HL0 := Aside0.mk hl0
      clear hfn hfd h hr0 hb0 hcl hb hl0
      go_enter Tryz.func56, Tryz.ntmps56
      go_wp2_with (first
        | (go_at_call 124; refine HHAS.out.mono ?_; rintro e w' ⟨rfl, rfl⟩)
        | (go_at_call 42; refine HCL.out.mono ?_; rintro e w1 ⟨v1, rfl, hO, hB⟩; have HO := Aside0.mk hO; have HB := Aside0.mk hB; clear hO hB)
        | ((with_reducible refine gate_dst (N := 16) rfl ?_); refine im_look _ rfl _ _ rfl Tryz.underlying3 Tryz.underlying98 (zero_bytes _) rfl HMN.out n i1 rfl _ HFN.out ?_)
        | ((with_reducible refine gate_dst (N := 24) rfl ?_); refine im_look _ rfl _ _ rfl Tryz.underlying3 Tryz.underlying98 (zero_bytes _) rfl HMD.out n i1 rfl _ HFD.out ?_))
      go_ret2
      obtain ⟨g1, c1, rfl, hg1, hc1', hr1⟩ := HO.out.row (by rw [HL0.out]; omega)
      rw [HL0.out] at hc1'
      exact ⟨g1, c1, by rw [HL0.out]; rfl, hg1, hc1', by rw [HBB.out]; exact hr1, HB.out⟩
    | none =>
      rw [hfd] at hcont
      have hz : L.getD n [] = zeros := hcont
      have HZ := Aside0.mk hz
      have HFD := Aside0.mk (show (fd n).getD (.slice none 0 0) = .slice none 0 0 by rw [hfd]; rfl)
      have hmk : ∀ w : World, (Instr.makeSlice 23 (.int .i64 256) (.int .i64 256)).run Tryz.prog w = .ok (.slice (some ⟨w.heap.size, 0, none⟩) 256 256) (noughts w) := make256
      clear hfn hfd h hz hcont
      go_enter Tryz.func56, Tryz.ntmps56
      go_wp2_with (first
        | (go_at_call 124; refine HHAS.out.mono ?_; rintro e w' ⟨rfl, rfl⟩)
        | ((with_reducible refine gate_dst (N := 16) rfl ?_); refine im_look _ rfl _ _ rfl Tryz.underlying3 Tryz.underlying98 (zero_bytes _) rfl HMN.out n i1 rfl _ HFN.out ?_)
        | ((with_reducible refine gate_dst (N := 24) rfl ?_); refine im_look _ rfl _ _ rfl Tryz.underlying3 Tryz.underlying98 (zero_bytes _) rfl HMD.out n i1 rfl _ HFD.out ?_))
      go_ret2
      refine ⟨w.heap.size, 256, rfl, Nat.le_refl _, Nat.le_refl _, ?_, below_alloc (Below.refl _ _) _⟩
      rw [HZ.out]
      exact row_last _ _ _ _
theorem infoWr : (Tryz.prog.info? 207).map (fun i => (i.zero, i.size, i.bytes)) = some (some (.agg #[.int .i64 0, .slice none 0 0]), 2, 32) := by kernel_rfl
def orNew (w w' : World) (D : Nat → Prop) : Nat → Prop := fun k => D k ∨ (w.heap.size ≤ k ∧ k < w'.heap.size)
set_option maxHeartbeats 2000000 in
set_option maxRecDepth 100000 in
theorem dwrite_calls {D : Nat → Prop} {p : Nat} {L : List (List Int)} {m : Nat} (n : Nat) (ad : Addr) (c : Nat) (b : List Int) (w : World) (h : DiskIs w D p L m) (hn : n < L.length) (hm : m < 1000000)
    (hb : Kd.C (Kd.int .u8) w (some ad) b.length b) (hbl : b.length = 256) (hba : allB b) :
    Calls Tryz.prog 106 #[.pointer (some ⟨p, 0, none⟩), .int .i64 n, .slice (some ad) 256 c] w fun e w' => e = .returned (.int .i64 0) ∧ DiskIs w' (orNew w w' D) p (L.set n b) (m + 1) ∧ Mod w w' D := by
  obtain ⟨bd, bn, pv, ops, fd, fn, pend, h⟩ := h
  have hlo := h.lo
  have hhi := h.hi
  have hdec : decide (0 ≤ (n : Int) ∧ (n : Int) < (L.length : Int)) = true := by simp; omega
  have hhas := dhas_calls (x := (n : Int)) (h.st.cell 0 _ rfl)
  rw [hdec] at hhas
  have HHAS := Aside0.mk hhas
  have hcl := clone_calls ad c b w hb (by omega)
  rw [hbl] at hcl
  have HCL := Aside0.mk hcl
  have HBL := Aside0.mk hbl
  have HBA := Aside0.mk hba
  have HH := Aside0.mk h
  have hps := h.short
  clear hhas hdec hcl hb hbl hba h
  have hne1 : (168 : TypeId) ≠ 207 := by decide
  obtain ⟨q0, hq, hz0, hz1, hz2⟩ := info_parts infoWr
  go_enter Tryz.func106, Tryz.ntmps106
  go_wp2_with fail
  refine HHAS.out.mono ?_
  rintro e w' ⟨rfl, rfl⟩
  dsimp only
  go_wp2_with fail
  refine HCL.out.mono ?_
  rintro e w1 ⟨v1, rfl, hO, hB⟩
  obtain ⟨g1, c1, rfl, hg1, hc1, hr1⟩ := hO.row (by rw [HBL.out]; omega)
  have HST1 := Aside0.mk (HH.out.st.below hB)
  have HP1 := Aside0.mk (own_mod HH.out.row (Mod.of_below hB (fun _ => False)) (fun _ _ => id))
  have hk0 := HST1.out.cell 0 _ rfl
  have hk2 := HST1.out.cell 2 _ rfl
  have hk3 := HST1.out.cell 3 _ rfl
  have hk4 := HST1.out.cell 4 _ rfl
  have hpl := HST1.out.lt
  have HR1 := Aside0.mk hr1
  have HB1 := Aside0.mk hB
  have HPa := Aside0.mk (fun o => own_mod HP1.out (Mod.of_below (below_alloc (Below.refl _ _) o) (fun _ => False)) (fun _ _ => id))
  have hne2 : (5 : TypeId) ≠ 207 := by decide
  have HF := Aside0.mk (show ∀ (o : Obj) (w2 : World) (v2 : Value), (w1.alloc o).grownBy w2 pv.ownBlock → (v2.ownBlock = pv.ownBlock ∨ v2.ownBlock = some (w1.alloc o).heap.size) → Strc w2 p 168 [.int .i64 L.length, .map (some bd), pv, .map (some bn), .int .i64 ops] ∧ IM Tryz.prog 3 w2 bn 4096 fn ∧ IM Tryz.prog 3 w2 bd 4096 fd ∧ Mod w w2 D ∧
      (∀ g l, Row w1 .u8 g 5 l → Row w2 .u8 g 5 l) ∧ (∀ g, v2.ownBlock = some g → D g ∨ w.heap.size ≤ g) from fun o w2 v2 hg hl => by
    have hb1a : Below w1.heap.size w1 (w1.alloc o) := below_alloc (Below.refl _ _) _
    have hsta := HST1.out.below hb1a
    have hpva := HPa.out o
    have hmg := mod_grown hg
    have hmna := (HH.out.mn.below HB1.out).below hb1a
    have hmda := (HH.out.md.below HB1.out).below hb1a
    refine ⟨hsta.mod hmg (own_not_strc hpva hsta hne1), hmna.mod hmg (own_not_map hpva hmna), hmda.mod hmg (own_not_map hpva hmda), ((Mod.of_below HB1.out D).alloc o).trans hmg (fun i _ e => HH.out.drow i e), fun g l hr => ?_, fun g e => ?_⟩
    · exact (hr.below hb1a).mod hmg (own_not_row hpva (hr.below hb1a) hne2)
    · rcases hl with h | h
      · exact .inl (HH.out.drow g (h.symm.trans e))
      · have h1 := HB1.out.size
        have h2 : g = (w1.alloc o).heap.size := by rw [e] at h; exact Option.some.inj h
        rw [World.size_alloc] at h2
        exact .inr (by omega))
  clear HST1
  rw [HBL.out] at hc1 ⊢
  clear hO hr1 hB
  dsimp only
  go_wp2_with (first
    | ((with_reducible refine gate_dst (N := 26) rfl ?_); (refine wpList_append_own_at _ rfl (.tmp 21) (.tmp 25) 166 rfl 0 207 q0 (.agg #[.int .i64 0, .slice none 0 0]) 2 32 Tryz.underlying166 hq hz0 hz1 hz2 rfl (by decide) _ _ _ rfl (HPa.out _) ⟨w1.heap.size, 0, none⟩ 1 1 [.int .i64 n, .slice (some ⟨g1, 0, none⟩) 256 c1] rfl ?c6 ?c1 ?c2 ?c3 ?c4 ?c5 ?_; (case c6 => rfl); (case c1 => (intro j u hj; rw [add_plain]; exact cell_alloc w1 _ _ j u (by simpa using hj))); (case c2 => simp [Value.oneCell']); (case c3 => (simp only [maxLen]; omega)); (case c4 => omega); (case c5 => exact Nat.zero_le _); intro v2 w2 hown2 hgrow2 _ hloc; clear hz0 hz1 hz2 hq; obtain ⟨g2, cap2, rfl⟩ := own_succ hown2; obtain ⟨hst2, hmn2, hmd2, hmod2, hrow2, hloc2⟩ := HF.out _ _ _ hgrow2 hloc; have HO2 := Aside0.mk hown2; have HST2 := Aside0.mk hst2; have HMN2 := Aside0.mk (fun u => hmn2.mod ((Mod.refl w2 (· = p)).set_own 2 u) (hst2.not_map hmn2)); have HMN0 := Aside0.mk hmn2; have HLOC := Aside0.mk hloc2; have HMD2 := Aside0.mk hmd2; have HMOD2 := Aside0.mk hmod2; have HROW2 := Aside0.mk hrow2; have hk23 := hst2.cell 3 _ rfl; have hk22 := hst2.cell 2 _ rfl; have hf22 := hst2.free 2; have hpl2 := hst2.lt; clear hloc hloc2 hown2 hgrow2 hst2 hmn2 hmd2 hmod2 hrow2))
    | (at_mapUpdate; (refine im_store _ rfl _ _ _ rfl Tryz.underlying3 Tryz.underlying98 (by decide) rfl (HMN2.out _) n (by omega) rfl _ rfl ?_; intro w4 hmn4 hmod4 hsz4; have HST4 := Aside0.mk ((HST2.out.set 2 (.slice (some ⟨g2, 0, none⟩) (pend.length + 1) cap2)).mod hmod4 (fun e => (HST2.out.set 2 (.slice (some ⟨g2, 0, none⟩) (pend.length + 1) cap2)).not_map (HMN2.out _) e.symm)); have hk44 := HST4.out.cell 4 _ rfl; have hf44 := HST4.out.free 4; have hpl4 := HST4.out.lt; have HMN4 := Aside0.mk hmn4; have HMOD4 := Aside0.mk hmod4; clear hmn4 hmod4)))
  go_ret
  obtain ⟨x, hx⟩ : ∃ x, wrap64 (ops + 1) = x := ⟨_, rfl⟩
  rw [hx]
  have hf := HST4.out.set 4 (.int .i64 x)
  have hms : Mod w4 (w4.setCell ⟨p, 4, none⟩ (.int .i64 x)) (· = p) := (Mod.refl _ _).set_own 4 _
  have hm24 : Mod w2 w4 (fun k => k = p ∨ k = bn) := (((Mod.refl w2 (fun k => k = p ∨ k = bn)).setCell (p := ⟨p, 2, none⟩) (fun _ => .inl rfl) _).trans HMOD4.out (fun _ _ e => .inr e))
  have hm25 := hm24.trans hms (fun _ _ e => .inl e)
  have hnp : bn ≠ p := HST4.out.not_map HMN4.out
  have hdp : bd ≠ p := HST2.out.not_map HMD2.out
  have hne3 : (5 : TypeId) ≠ 168 := by decide
  have hr25 : ∀ g l, Row w1 .u8 g 5 l → Row (w4.setCell ⟨p, 4, none⟩ (.int .i64 x)) .u8 g 5 l := fun g l hr => (HROW2.out g l hr).mod hm25 (by
    have h2 := HROW2.out g l hr
    rintro (rfl | rfl)
    · exact HST2.out.not_row h2 hne3.symm rfl
    · exact h2.not_map HMN0.out rfl)
  refine ⟨rfl, ⟨bd, bn, .slice (some ⟨g2, 0, none⟩) (pend.length + 1) cap2, x, fd, fun i => if i = (n : Int) then some (.slice (some ⟨g1, 0, none⟩) 256 c1) else fn i, pend ++ [(n, .slice (some ⟨g1, 0, none⟩) 256 c1)], ?_⟩, ?_⟩
  · refine ⟨?_, .inl HH.out.dp, .inl HH.out.dd, .inl HH.out.dn, HH.out.ne, HMD2.out.mod hm25 (by rintro (e | e); exact hdp e; exact HH.out.ne e), HMN4.out.mod hms hnp, ?_, ?_, by simpa using hlo, by simpa using hhi, ?_, ?_, ?_, by omega, ?_⟩
    · rw [List.length_set]; exact hf
    · rw [List.length_append, List.flatMap_append]
      have ho := own_mod HO2.out hm25 (fun g hg => by
        rintro (rfl | rfl)
        · exact own_not_strc HO2.out HST2.out hne1 hg
        · exact own_not_map HO2.out HMN0.out hg)
      simpa [wcells] using ho
    · intro g hg
      have hlt := own_lt HO2.out g hg
      exact (HLOC.out g hg).imp id (fun h => ⟨h, Nat.lt_of_lt_of_le hlt hm25.size⟩)
    · intro y
      rw [putAll_snoc]
      dsimp only
      split
      · rfl
      · exact HH.out.new y
    · intro k hk
      rw [List.length_set] at hk
      by_cases e : k = n
      · subst e
        simp only [if_true, Option.some_or]
        rw [show (L.set k b).getD k [] = b by simp [List.getD_eq_getElem?_getD, hk]]
        exact ⟨g1, c1, rfl, .inr ⟨hg1, (hr25 _ _ HR1.out).lt⟩, hc1, hr25 _ _ HR1.out, HBL.out, HBA.out⟩
      · rw [if_neg (by omega), show (L.set n b).getD k [] = L.getD k [] by simp [List.getD_eq_getElem?_getD, List.getElem?_set, Ne.symm e]]
        refine Blk.mono ?_ (D := D) (fun _ => .inl)
        have h0 := HH.out.cont k hk
        generalize (fn ↑k).or (fd ↑k) = ov at h0
        cases ov with
        | none => exact h0
        | some v =>
          obtain ⟨g, c', rfl, hd, hc', hr, hrest⟩ := h0
          exact ⟨g, c', rfl, hd, hc', hr25 _ _ (hr.below HB1.out), hrest⟩
    · rw [List.length_append]
      have := HH.out.short
      simpa using this
    · intro q hq
      rw [List.length_set]
      rcases List.mem_append.1 hq with h | h
      · exact HH.out.pok q h
      · simp at h
        subst h
        exact ⟨hn, _, _, _, rfl⟩
  · exact HMOD2.out.trans hm25 (fun i _ e => by
      rcases e with rfl | rfl
      · exact HH.out.dp
      · exact HH.out.dn)
theorem flush1_calls (i : Int) (w : World) : Calls Tryz.prog 162 #[.int .i64 i] w fun e w' => e = .returned (.bool true) ∧ w = w' := by
  go_enter Tryz.func162, Tryz.ntmps162
  go_wp2
  go_ret
  exact ⟨rfl, rfl⟩
set_option maxHeartbeats 2000000 in
set_option maxRecDepth 100000 in
theorem settle_calls {D : Nat → Prop} {p : Nat} {L : List (List Int)} {m : Nat} (w : World) (h : DiskIs w D p L m) :
    Calls Tryz.prog 161 #[.pointer (some ⟨p, 0, none⟩), .func (.func 162) #[] #[]] w fun e w' => e = .returned (.tuple #[]) ∧ DiskIs w' D p L 0 ∧ Mod w w' D := by
  obtain ⟨bd, bn, pv, ops, fd, fn, pend, h⟩ := h
  have hlo := h.lo
  have hhi := h.hi
  obtain ⟨A, c, rfl, hc, _, hA0, hA⟩ := own_shape h.row
  have hk1 := h.st.cell 1 _ rfl
  have hk2 := h.st.cell 2 _ rfl
  have HH := Aside0.mk h
  have HA := Aside0.mk hA
  have HA0 := Aside0.mk hA0
  have hps := h.short
  have hpm := h.most
  have hnp : bd ≠ p := h.st.not_map h.md
  have hnb := h.ne
  have HKEEP := Aside0.mk (show ∀ w', Mod w w' (· = bd) → Strc w' p 168 [.int .i64 L.length, .map (some bd), .slice A pend.length c, .map (some bn), .int .i64 ops] from fun w' hm => h.st.mod hm (Ne.symm hnp))
  have HKC := Aside0.mk (show ∀ w' ad i u, Mod w w' (· = bd) → A = some ad → (pend.flatMap wcells)[i]? = some u → w'.cell? (ad.add i) = some u from fun w' ad i u hm e hi => by
    have h1 := hA ad e i u hi
    refine hm.cell h1 ?_
    rintro e2
    have h2 : (Value.slice A pend.length c).ownBlock = some bd := by
      subst e
      have h3 : (ad.add i).block = ad.block := by unfold Addr.add; split <;> rfl
      rw [h3] at e2
      rw [← e2]
      rfl
    exact own_not_map h.row h.md h2)
  clear h hA hA0
  go_enter Tryz.func161, Tryz.ntmps161
  go_wp2
  go_loopg [11] pend.length (fun g i wr => ∃ k : Nat, k + g = pend.length ∧ i = .int .i64 k ∧ Aside0 (Mod w wr (· = bd)) ∧ Aside0 (IM Tryz.prog 3 wr bd 4096 (putAll fd (pend.take k))))
  case atStart => exact ⟨0, by omega, rfl, ⟨Mod.refl _ _⟩, ⟨HH.out.md⟩⟩
  case round =>
    obtain ⟨k, hk, rfl, HM, HD⟩ := hrel
    cases gk with
    | zero =>
      obtain rfl : k = pend.length := by omega
      have hst := HKEEP.out _ HM.out
      have hr3 := hst.cell 3 _ rfl
      have hr2 := hst.cell 2 _ rfl
      have hf2 := hst.free 2
      have hl2 := hst.lt
      have HST := Aside0.mk hst
      have HMN := Aside0.mk (fun u => (HH.out.mn.mod HM.out (Ne.symm hnb)).mod ((Mod.refl wr (· = p)).set_own 2 u) (HH.out.st.not_map HH.out.mn))
      clear hst
      go_wp2_with (first
        | ((with_reducible refine gate_builtin rfl ?_); fail)
        | ((refine im_clear _ rfl _ rfl Tryz.underlying98 rfl (HMN.out _) ?_; intro w4 hmn4 hmod4 hsz4; have HMN4 := Aside0.mk hmn4; have HMOD4 := Aside0.mk hmod4; clear hmn4 hmod4)))
      go_end0
      have hm12 : Mod wr w4 (fun k => k = p ∨ k = bn) := (((Mod.refl wr (fun k => k = p ∨ k = bn)).setCell (p := ⟨p, 2, none⟩) (fun _ => .inl rfl) _).trans HMOD4.out (fun _ _ e => .inr e))
      have hm04 : Mod w w4 (fun k => k = bd ∨ k = p ∨ k = bn) := (HM.out.mono (fun _ _ e => .inl e)).trans hm12 (fun _ _ e => .inr e)
      have hnn : bn ≠ p := HH.out.st.not_map HH.out.mn
      have hne3 : (5 : TypeId) ≠ 168 := by decide
      refine ⟨rfl, ⟨bd, bn, .slice none 0 0, ops, putAll fd pend, fun _ => none, [], ?_⟩, hm04.mono (fun k _ e => by rcases e with rfl | rfl | rfl; exact HH.out.dd; exact HH.out.dp; exact HH.out.dn)⟩
      refine ⟨(HST.out.set 2 (.slice none 0 0)).mod HMOD4.out (Ne.symm hnn), HH.out.dp, HH.out.dd, HH.out.dn, HH.out.ne, ?_, HMN4.out, own_nil _ _ _ _, by simp [Value.ownBlock], HH.out.lo, HH.out.hi, fun y => rfl, fun n hn => ?_, Nat.le_refl _, Nat.zero_le _, by simp⟩
      · have h1 := HD.out
        rw [List.take_length] at h1
        exact h1.mod hm12 (by rintro (e | e); exact hnp e; exact hnb e)
      · rw [Option.none_or, putAll_or, ← HH.out.new]
        exact (HH.out.cont n hn).kept (fun g hd hr => hm04.block g hr.lt (by
          rintro (rfl | rfl | rfl)
          · exact hr.not_map HH.out.md rfl
          · exact HH.out.st.not_row hr hne3.symm rfl
          · exact hr.not_map HH.out.mn rfl))
    | succ g =>
      have hkl : k < pend.length := by omega
      obtain ⟨q, hq⟩ : ∃ q, pend[k]? = some q := ⟨_, List.getElem?_eq_getElem hkl⟩
      have hqm : q ∈ pend := List.mem_of_getElem? hq
      obtain ⟨hql, qA, qn, qc, hqs⟩ := HH.out.pok q hqm
      have hsn : putAll fd (pend.take (k + 1)) = fun y => if y = (q.1 : Int) then some q.2 else putAll fd (pend.take k) y := by
        rw [List.take_add_one, hq]
        exact putAll_snoc _ _ _
      obtain ⟨q1, q2⟩ := q
      dsimp only at hql hsn hqs
      subst hqs
      obtain ⟨ad, rfl⟩ := HA0.out (by omega)
      obtain ⟨hc1, hc2⟩ := wcells_at pend k _ hq
      have hr1 := HKC.out wr ad _ _ HM.out rfl hc1
      have hr2 := HKC.out wr ad _ _ HM.out rfl hc2
      have HSN := Aside0.mk hsn
      have hst := HKEEP.out _ HM.out
      have hr1a : wr.cell? ⟨p, 1, none⟩ = some (.map (some bd)) := hst.cell 1 _ rfl
      have hl1 := hst.lt
      have HST := Aside0.mk hst
      rw [add_next ad (k * 2) 1 (by omega)] at hr2
      clear hsn hst hqm hq hc1 hc2
      have i1 : (k : Int) < (pend.length : Int) := by omega
      go_wp2_with (go_at_call 162; refine (flush1_calls _ _).mono ?_; rintro e w' ⟨rfl, rfl⟩)
      have ha1 : (wr.alloc (.cells #[.int .i64 q1, .slice qA qn qc] 207)).cell? ⟨p, 1, none⟩ = some (.map (some bd)) := (HST.out.below (below_alloc (Below.refl _ _) _)).cell 1 _ rfl
      have ha2 := cell_alloc wr #[.int .i64 q1, .slice qA qn qc] 207 0 _ rfl
      have ha3 := cell_alloc wr #[.int .i64 q1, .slice qA qn qc] 207 1 _ rfl
      have HDA := Aside0.mk (HD.out.below (below_alloc (Below.refl _ _) (.cells #[.int .i64 q1, .slice qA qn qc] 207)))
      have HMA := Aside0.mk (HM.out.alloc (.cells #[.int .i64 q1, .slice qA qn qc] 207))
      obtain ⟨W, hW⟩ : ∃ W, wr.alloc (.cells #[.int .i64 q1, .slice qA qn qc] 207) = W := ⟨_, rfl⟩
      rw [hW] at ha1 ha2 ha3 HDA HMA ⊢
      clear hW
      refine wp_region_in [0, 0, 0, 1, 0, 1, 0, 1, 3] [8] (fun w' => w'.cell? ⟨p, 1, none⟩ = some (.map (some bd)) ∧ w'.cell? ⟨wr.heap.size, 0, none⟩ = some (.int .i64 q1) ∧ w'.cell? ⟨wr.heap.size, 1, none⟩ = some (.slice qA qn qc)) (by kernel_rfl) rfl (by kernel_rfl) (fun _ _ _ _ h => h) ⟨ha1, ha2, ha3⟩ ?_
      iterate 8 (first
        | (refine in_off0 (by rfl) ?_; simp only [Act.put, stA, stZ, stS, i64_w, i32_w])
        | (refine in_off1 (by rfl) ?_; simp only [Act.put, stA, stZ, stS, i64_w, i32_w])
        | (refine in_0 (v := ?_) (by rfl) rfl ?_ (a' := ?_) ?_ ?_; rotate_left; (intro w'; go_simp; with_reducible rfl); rotate_left; (simp only [Act.put, stA, stZ, stS, i64_w, i32_w]; rfl))
        | (refine in_1 (v := ?_) (by rfl) rfl ?_ (a' := ?_) ?_ ?_; rotate_left; (rintro w' hs; go_split_ands; go_simp; with_reducible rfl); rotate_left; (simp only [Act.put, stA, stZ, stS, i64_w, i32_w]; rfl)))
      refine in_3 (by rfl) (fun K hK => ?_)
      refine wp_im_store _ _ _ _ rfl Tryz.underlying3 Tryz.underlying98 (by decide) rfl (HDA.out.kept (w1 := W.drew) rfl) q1 (by omega) rfl _ rfl ?_
      intro w4 hmd4 hmod4 hsz4
      refine hK _ _ ?_
      clear hK K
      try simp only [Act.put, stA, stZ, stS, i64_w, i32_w]
      refine out_nil ?_
      have HMD4 := Aside0.mk hmd4
      have HM4 := Aside0.mk (HMA.out.drew.trans hmod4 (fun _ _ e => e))
      clear hmd4 hmod4 ha1 ha2 ha3
      go_wp2
      go_roundg g
      case measure => omega
      case rel => exact ⟨k + 1, by omega, by go_num, HM4, ⟨by rw [HSN.out]; exact HMD4.out⟩⟩
theorem DiskIs.ops {w : World} {D : Nat → Prop} {p : Nat} {L : List (List Int)} {m : Nat} (h : DiskIs w D p L m) : ∃ x : Int, w.cell? ⟨p, 4, none⟩ = some (.int .i64 x) ∧ w.frozen? ⟨p, 4, none⟩ = false ∧ p < w.heap.size ∧ ∀ y : Int, DiskIs (w.setCell ⟨p, 4, none⟩ (.int .i64 y)) D p L m ∧ D p := by
  obtain ⟨bd, bn, pv, ops, fd, fn, pend, h⟩ := h
  refine ⟨ops, h.st.cell 4 _ rfl, h.st.free 4, h.st.lt, fun y => ⟨⟨bd, bn, pv, y, fd, fn, pend, ?_⟩, h.dp⟩⟩
  have hm : Mod w (w.setCell ⟨p, 4, none⟩ (.int .i64 y)) (· = p) := (Mod.refl _ _).set_own 4 _
  have hne1 : (168 : TypeId) ≠ 207 := by decide
  have hne3 : (5 : TypeId) ≠ 168 := by decide
  exact ⟨h.st.set 4 _, h.dp, h.dd, h.dn, h.ne, h.md.mod hm (h.st.not_map h.md), h.mn.mod hm (h.st.not_map h.mn), own_mod h.row hm (by rintro g hg rfl; exact own_not_strc h.row h.st hne1 hg), h.drow, h.lo, h.hi, h.new,
    fun n hn => (h.cont n hn).kept (fun g hd hr => hm.block g hr.lt (h.st.not_row hr hne3.symm)), h.short, h.most, h.pok⟩
theorem DiskIs.n {w : World} {D : Nat → Prop} {p : Nat} {L : List (List Int)} {m : Nat} (h : DiskIs w D p L m) : w.cell? ⟨p, 0, none⟩ = some (.int .i64 L.length) ∧ 128 ≤ L.length ∧ L.length ≤ 4096 ∧ D p ∧ p < w.heap.size := by
  obtain ⟨bd, bn, pv, ops, fd, fn, pend, h⟩ := h
  exact ⟨h.st.cell 0 _ rfl, h.lo, h.hi, h.dp, h.st.lt⟩
set_option maxHeartbeats 1000000 in
theorem flush_calls {D : Nat → Prop} {p : Nat} {L : List (List Int)} {m : Nat} (w : World) (h : DiskIs w D p L m) :
    Calls Tryz.prog 109 #[.pointer (some ⟨p, 0, none⟩)] w fun e w' => e = .returned (.tuple #[]) ∧ DiskIs w' D p L 0 ∧ Mod w w' D := by
  obtain ⟨h0, hlo, hhi, _, _⟩ := h.n
  have H := Aside0.mk h
  clear h
  go_enter Tryz.func109, Tryz.ntmps109
  have hne : ((L.length : Int) == 0) = false := by rw [beq_eq_false_iff_ne]; omega
  go_wp2_with (first
    | (go_at_call 102; refine (dblocks_calls h0).mono ?_; rintro e w' ⟨rfl, rfl⟩)
    | (go_at_call 161; refine (settle_calls _ H.out).mono ?_; rintro e w1 ⟨rfl, hd1, hm1⟩; obtain ⟨x, hx1, hx2, hx3, hx4⟩ := hd1.ops; have HX := Aside0.mk hx4; have HM1 := Aside0.mk hm1; clear hd1 hx4 hm1))
  go_end0
  refine ⟨rfl, (HX.out _).1, HM1.out.setCell (fun _ => (HX.out 0).2) _⟩
set_option maxHeartbeats 1000000 in
theorem dnew_calls (n : Nat) (w : World) (h0 : 128 ≤ n) (h1 : n ≤ 4096) :
    Calls Tryz.prog 45 #[.int .i64 n] w fun e w' => ∃ p, e = .returned (.tuple #[.pointer (some ⟨p, 0, none⟩), .int .i64 0]) ∧ DiskIs w' (fun k => w.heap.size ≤ k ∧ k < w'.heap.size) p (List.replicate n zeros) 0 ∧ Below w.heap.size w w' := by
  have hmm := @run_makeMap Tryz.prog
  go_enter Tryz.func45, Tryz.ntmps45
  have i1 : ¬ (n : Int) < 128 := by omega
  have i2 : ¬ (n : Int) > 4096 := by omega
  go_wp2
  go_ret2
  have b1 : Below w.heap.size w (w.alloc (.map #[] 0)) := below_alloc (Below.refl _ _) _
  have b2 := below_alloc b1 (.map #[] 0)
  have m1 : IM Tryz.prog 3 (w.alloc (.map #[] 0)) w.heap.size 4096 (fun _ => none) := IM.made w
  have m2 : IM Tryz.prog 3 ((w.alloc (.map #[] 0)).alloc (.map #[] 0)) (w.heap.size + 1) 4096 (fun _ => none) := by
    have := IM.made (P := Tryz.prog) (kt := 3) (N := 4096) (w.alloc (.map #[] 0))
    rwa [World.size_alloc] at this
  have m1' := m1.below (below_alloc (Below.refl _ _) (.map #[] 0))
  refine ⟨w.heap.size + 1 + 1, rfl, ⟨w.heap.size, w.heap.size + 1, .slice none 0 0, 0, fun _ => none, fun _ => none, [], ?_⟩, below_alloc b2 _⟩
  have hz : ∀ k, k < n → (List.replicate n zeros).getD k [] = zeros := fun k hk => by simp [List.getD_eq_getElem?_getD, hk]
  refine ⟨?_, ⟨by omega, by simp⟩, ⟨Nat.le_refl _, by simp; omega⟩, ⟨by omega, by simp⟩, by omega, m1'.below (below_alloc (Below.refl _ _) _), m2.below (below_alloc (Below.refl _ _) _), own_nil _ _ _ _, by simp [Value.ownBlock], by simpa using h0, by simpa using h1, fun _ => rfl, fun k hk => ?_, Nat.le_refl _, by omega, by simp⟩
  · rw [List.length_replicate]
    exact alloc_at _ _ _ (by simp)
  · rw [List.length_replicate] at hk
    exact hz k hk
theorem forget1_calls (k x : Int) (p : Addr) (w : World) (hp : w.cell? p = some (.int .i64 x)) : Calls Tryz.prog 149 #[.int .i64 k, .pointer (some p)] w fun e w' => e = .returned (.bool (k == x)) ∧ w = w' := by
  go_enter Tryz.func149, Tryz.ntmps149
  go_wp2
  go_ret
  exact ⟨rfl, rfl⟩
set_option maxHeartbeats 1000000 in
set_option maxRecDepth 100000 in
theorem indexf_calls (A : Option Addr) (c : Nat) (l : List Int) (x : Int) (p : Addr) (w : World) (hl : Kd.C (Kd.int .i64) w A l.length l) (hn : l.length ≤ 1000) (hp : w.cell? p = some (.int .i64 x)) :
    Calls Tryz.prog 180 #[.slice A l.length c, .func (.func 149) #[] #[.pointer (some p)]] w fun e w' => ∃ r : Int, e = .returned (.int .i64 r) ∧ w = w' ∧ ((r = -1 ∧ ∀ j, j < l.length → l.getD j 0 ≠ x) ∨ ∃ i : Nat, r = i ∧ i < l.length) := by
  have HL := Aside0.mk hl
  clear hl
  go_enter Tryz.func180, Tryz.ntmps180
  go_wp2
  go_loopg [5, 8] l.length (fun g u i wr => ∃ k : Nat, k + g = l.length ∧ i = .int .i64 k ∧ Aside0 (∀ j, j < k → l.getD j 0 ≠ x) ∧ w = wr)
  case atStart => exact ⟨0, by omega, rfl, ⟨fun j hj => absurd hj (by omega)⟩, rfl⟩
  case round =>
    obtain ⟨k, hk, rfl, HN, rfl⟩ := hrel
    cases gk with
    | zero =>
      obtain rfl : k = l.length := by omega
      go_wp2
      go_ret
      exact ⟨-1, rfl, rfl, .inl ⟨rfl, HN.out⟩⟩
    | succ g =>
      obtain ⟨ad, rfl, hc⟩ := C_int_at HL.out k (by omega)
      obtain ⟨y, hy⟩ : ∃ y, l.getD k 0 = y := ⟨_, rfl⟩
      rw [hy] at hc
      have HY := Aside0.mk hy
      have i1 : (k : Int) < (l.length : Int) := by omega
      have i2 : k < l.length := by omega
      clear hy
      by_cases hyx : y = x
      · subst hyx
        have hb : (y == y) = true := by simp
        go_wp2_with (go_at_call 149; refine (forget1_calls _ _ _ _ hp).mono ?_; rintro e w' ⟨rfl, rfl⟩)
        go_ret
        exact ⟨k, rfl, rfl, .inr ⟨k, rfl, i2⟩⟩
      · have hb : (y == x) = false := by simpa using hyx
        go_wp2_with (go_at_call 149; refine (forget1_calls _ _ _ _ hp).mono ?_; rintro e w' ⟨rfl, rfl⟩)
        go_roundg g
        case measure => omega
        case rel => exact ⟨k + 1, by omega, by go_num, ⟨fun j hj => by
          by_cases e : j = k
          · subst e
            rw [HY.out]
            exact hyx
          · exact HN.out j (by omega)⟩, rfl⟩
theorem own_set {w : World} {base e g n c : Nat} {k : IntKind} {l : List Int} (h : w.ownsRow base e 1 (.slice (some ⟨g, 0, none⟩) n c) n (nums k l)) (j : Nat) (x : Int) (hj : j < n) : (w.setCell ⟨g, j, none⟩ (.int k x)).ownsRow base e 1 (.slice (some ⟨g, 0, none⟩) n c) n (nums k (l.set j x)) := by
  have hl : (nums k l).length = n * 1 := h.1
  refine ⟨by rw [nums_length, List.length_set]; rw [nums_length] at hl; exact hl, ?_⟩
  rcases h.2 with ⟨h0, _⟩ | ⟨g', cap, cur, hv, hb, hh, h1, h2, h3, h4⟩
  · cases h0
  · cases hv
    refine .inr ⟨g, c, cur.setIfInBounds j (.int k x), rfl, hb, ?_, h1, h2, by simpa using h3, ?_⟩
    · unfold World.setCell
      simp only [Array.getElem?_modify, if_true, hh, Option.map_some]
      simp
    · rw [Array.toList_setIfInBounds, List.take_set, h4]
      simp [nums, List.map_set]
theorem own_take {w : World} {base e g n c : Nat} {k : IntKind} {l : List Int} (h : w.ownsRow base e 1 (.slice (some ⟨g, 0, none⟩) n c) n (nums k l)) (i : Nat) (hi : i ≤ n) : w.ownsRow base e 1 (.slice (some ⟨g, 0, none⟩) i c) i (nums k (l.take i)) := by
  have hl : (nums k l).length = n * 1 := h.1
  refine ⟨by rw [nums_length, List.length_take]; rw [nums_length] at hl; omega, ?_⟩
  rcases h.2 with ⟨h0, _⟩ | ⟨g', cap, cur, hv, hb, hh, h1, h2, h3, h4⟩
  · cases h0
  · cases hv
    refine .inr ⟨g, c, cur, rfl, hb, hh, by omega, h2, h3, ?_⟩
    have : cur.toList.take (i * 1) = (cur.toList.take (n * 1)).take (i * 1) := by rw [List.take_take, Nat.min_eq_left (by omega)]
    rw [this, h4, Nat.mul_one]
    simp [nums, List.map_take]
theorem own_sets {base e g n c : Nat} {k : IntKind} (x : Int) (m : Nat) : ∀ (o : Nat) (w : World) (l : List Int), w.ownsRow base e 1 (.slice (some ⟨g, 0, none⟩) n c) n (nums k l) → o + m ≤ n →
    (∃ l', (w.setCells g o (List.replicate m (.int k x))).ownsRow base e 1 (.slice (some ⟨g, 0, none⟩) n c) n (nums k l') ∧ l'.length = l.length ∧ l'.take o = l.take o) ∧ Mod w (w.setCells g o (List.replicate m (.int k x))) (· = g) := by
  induction m with
  | zero => intro o w l h _; exact ⟨⟨l, h, rfl, rfl⟩, Mod.refl _ _⟩
  | succ m ih =>
    intro o w l h ho
    have h1 := own_set h o x (by omega)
    obtain ⟨⟨l', h2, h3, h4⟩, hm⟩ := ih (o + 1) _ _ h1 (by omega)
    refine ⟨⟨l', h2, by rw [h3, List.length_set], ?_⟩, ((Mod.refl w (· = g)).set_own o _).trans hm (fun _ _ e => e)⟩
    have h5 : (l'.take (o + 1)).take o = ((l.set o x).take (o + 1)).take o := by rw [h4]
    rw [List.take_take, List.take_take, Nat.min_eq_left (by omega)] at h5
    rw [h5, List.take_set_of_le (by omega)]
theorem infoIntS : (Tryz.prog.info? 3).map (fun i => (i.zero, i.size, i.bytes)) = some (some (.int .i64 0), 1, 8) := by kernel_rfl
theorem zero_int (w : World) : (zeroValue 3).run Tryz.prog w = .ok (.int .i64 0) w := by kernel_rfl
set_option maxHeartbeats 2000000 in
set_option maxRecDepth 100000 in
theorem deletef_calls (base : Nat) (v : Value) (l : List Int) (x : Int) (p : Addr) (w : World) (h : w.ownsRow base 3 1 v l.length (nums .i64 l)) (hn : l.length ≤ 1000) (hp : w.cell? p = some (.int .i64 x)) (hpb : v.ownBlock ≠ some p.block) :
    Calls Tryz.prog 148 #[v, .func (.func 149) #[] #[.pointer (some p)]] w fun e w' => ∃ v' l', e = .returned v' ∧ w'.ownsRow base 3 1 v' l'.length (nums .i64 l') ∧ l'.length ≤ l.length ∧ (0 < l.length → l.getD 0 0 = x → l'.length < l.length) ∧ (∀ x ∈ l', x ∈ l) ∧ (∀ g, v'.ownBlock = some g → v.ownBlock = some g) ∧ Mod w w' (fun k => v.ownBlock = some k) := by
  obtain ⟨A, c, rfl, hc, hA, _, _⟩ := own_shape h
  have hrd : Kd.C (Kd.int .i64) w A l.length l := by
    obtain ⟨A', c', e, _, hk⟩ := Own.reads (k := .i64) (show Own w base 3 .i64 (.slice A l.length c) l from h)
    cases e
    exact hk
  have HIX := Aside0.mk (indexf_calls A c l x p w hrd hn hp)
  have H := Aside0.mk h
  clear hrd h
  go_enter Tryz.func148, Tryz.ntmps148
  go_wp2_with fail
  refine HIX.out.mono ?_
  rintro e w' ⟨r, rfl, rfl, hr⟩
  dsimp only
  rcases hr with ⟨rfl, hno⟩ | ⟨i0, rfl, hi0⟩
  · go_wp2
    go_ret
    exact ⟨_, l, rfl, H.out, Nat.le_refl _, fun h0 h1 => absurd h1 (hno 0 h0), fun _ => id, fun _ => id, Mod.refl _ _⟩
  · have hneg : ((i0 : Int) == -1) = false := by rw [beq_eq_false_iff_ne]; omega
    obtain ⟨gb, rfl⟩ : ∃ gb, A = some ⟨gb, 0, none⟩ := by
      rcases H.out.2 with ⟨h0, h1⟩ | ⟨gb, cap, cur, h0, _⟩
      · omega
      · cases h0; exact ⟨gb, rfl⟩
    have hpg : ¬ p.block = gb := fun e => hpb (by rw [e]; rfl)
    go_wp2
    go_loopg [5, 6, 7] (l.length - i0 - 1) (fun g i j v wr => ∃ (ii jj : Nat) (lr : List Int), i = .int .i64 ii ∧ j = .int .i64 jj ∧ ii < jj ∧ jj + g = l.length ∧ Aside0 (∀ x ∈ lr, x ∈ l) ∧ Aside0 (wr.ownsRow base 3 1 (.slice (some ⟨gb, 0, none⟩) l.length c) l.length (nums .i64 lr)) ∧ Aside0 (Mod w wr (· = gb)))
    case atStart => exact ⟨i0, i0 + 1, l, rfl, by go_num, by omega, by omega, ⟨fun _ => id⟩, H, ⟨Mod.refl _ _⟩⟩
    case round =>
      obtain ⟨ii, jj, lr, rfl, rfl, hij, hjg, HIN, HO, HM⟩ := hrel
      have hlr : lr.length = l.length := by have := HO.out.1; rw [nums_length, Nat.mul_one] at this; exact this
      have HLR := Aside0.mk hlr
      clear hlr
      cases gk with
      | zero =>
        obtain rfl : jj = l.length := by omega
        have hrow := HO.out
        have hcl : ∀ ty, (Builtin.clear_ #[105] ty #[.slice (some ⟨gb, ii, none⟩) (l.length - ii) (c - ii)]).run Tryz.prog wr = .ok (.tuple #[]) (wr.setCells gb ii (List.replicate (l.length - ii) (.int .i64 0))) := fun ty => by
          obtain ⟨_, h2⟩ := hrow
          rcases h2 with ⟨h0, _⟩ | ⟨g', cap, cur, hv, hb, hh, h1, h2, h3, h4⟩
          · cases h0
          · cases hv
            refine Lib.run_clear_slice wr 105 3 ty (.int .i64 0) Tryz.underlying105 zero_int rfl rfl gb ii _ _ (by omega) (fun j hj => ?_) (fun j hj => ?_)
            · rw [cell_of_row wr gb _ cur _ _ hh]
              simp
              omega
            · simp [World.frozen?, hh]
        obtain ⟨⟨l', ho', hl', htk⟩, hm'⟩ := own_sets (x := 0) (l.length - ii) ii wr lr hrow (by omega)
        have HO2 := Aside0.mk (own_take ho' ii (by omega))
        have HM2 := Aside0.mk (HM.out.trans hm' (fun _ _ e => e))
        have hln : (l'.take ii).length = ii := by rw [List.length_take, hl', HLR.out]; omega
        have HLN := Aside0.mk hln
        have HSUB := Aside0.mk (show ∀ x ∈ l'.take ii, x ∈ l from fun x hx => HIN.out x (by rw [htk] at hx; exact List.mem_of_mem_take hx))
        clear ho' hm' hrow hl' hln htk
        go_wp2
        go_ret
        exact ⟨_, l'.take ii, rfl, by rw [HLN.out]; exact HO2.out, by rw [HLN.out]; omega, fun _ _ => by rw [HLN.out]; omega, HSUB.out, fun g hg => hg, HM2.out.mono (fun k _ e => by rw [e]; rfl)⟩
      | succ g =>
        have hy0 : wr.cell? ⟨gb, jj, none⟩ = some (.int .i64 (lr.getD jj 0)) := by
          have := HO.out.cells (g := gb) rfl jj (.int .i64 (lr.getD jj 0)) (by simp [nums, List.getD_eq_getElem?_getD, HLR.out, show jj < l.length by omega])
          rwa [add_plain] at this
        have hy1 : (wr.cell? ⟨gb, ii, none⟩).isSome = true := by
          have := HO.out.cells (g := gb) rfl ii (.int .i64 (lr.getD ii 0)) (by simp [nums, List.getD_eq_getElem?_getD, HLR.out, show ii < l.length by omega])
          rw [add_plain] at this
          rw [this]
          rfl
        have hy2 : wr.cell? ⟨gb, ii, none⟩ = some (.int .i64 (lr.getD ii 0)) := by
          have := HO.out.cells (g := gb) rfl ii (.int .i64 (lr.getD ii 0)) (by simp [nums, List.getD_eq_getElem?_getD, HLR.out, show ii < l.length by omega])
          rwa [add_plain] at this
        have hfz : wr.frozen? ⟨gb, ii, none⟩ = false := by
          rcases HO.out.2 with ⟨h0, _⟩ | ⟨g', cap, cur, hv, hb, hh, h1, h2, h3, h4⟩
          · cases h0
          · cases hv; simp [World.frozen?, hh]
        have hpp := HM.out.cell hp hpg
        obtain ⟨y, hy⟩ : ∃ y, lr.getD jj 0 = y := ⟨_, rfl⟩
        obtain ⟨z, hz⟩ : ∃ z, lr.getD ii 0 = z := ⟨_, rfl⟩
        rw [hy] at hy0
        rw [hz] at hy2
        have HSET := Aside0.mk (own_set HO.out ii y (by omega))
        have HYM := Aside0.mk (show y ∈ l from HIN.out y (by rw [← hy, List.getD_eq_getElem?_getD, List.getElem?_eq_getElem (by rw [HLR.out]; omega)]; exact List.getElem_mem _))
        have i1 : (jj : Int) < (l.length : Int) := by omega
        have i2 : jj < l.length := by omega
        have i3 : (ii : Int) < (l.length : Int) := by omega
        have i4 : ii < l.length := by omega
        clear hy hz
        cases hyx : (y == x)
        · go_wp2_with (go_at_call 149; (refine (forget1_calls _ _ _ _ hpp).mono ?_; rintro e w' ⟨rfl, rfl⟩; rw [hyx]))
          go_roundg g
          case measure => omega
          case rel => exact ⟨ii + 1, jj + 1, lr.set ii y, by go_num, by go_num, by omega, by omega, ⟨fun x hx => (List.mem_or_eq_of_mem_set hx).elim (HIN.out x) (fun e => e ▸ HYM.out)⟩, HSET, ⟨HM.out.set_own _ _⟩⟩
        · go_wp2_with (go_at_call 149; (refine (forget1_calls _ _ _ _ hpp).mono ?_; rintro e w' ⟨rfl, rfl⟩; rw [hyx]))
          go_roundg g
          case measure => omega
          case rel => exact ⟨ii, jj + 1, lr, rfl, by go_num, by omega, by omega, HIN, HO, HM⟩
set_option maxHeartbeats 2000000 in
set_option maxRecDepth 100000 in
theorem forget_calls (gs o mb N : Nat) (cs : List Value) (ov : Value) (ol : List Int) (n : Nat) (f : Int → Option Value) (w : World) (hst : Strc w gs 107 cs) (h0 : cs[o]? = some ov) (h1 : cs[o + 1]? = some (.map (some mb)))
    (hov : w.ownsRow 0 3 1 ov ol.length (nums .i64 ol)) (hl : ol.length ≤ 1000) (hm : IM Tryz.prog 3 w mb N f) (hn : n < 9223372036854775808) :
    Calls Tryz.prog 86 #[.pointer (some ⟨gs, o, none⟩), .int .i64 n] w fun e w' => ∃ ov' ol', e = .returned (.tuple #[]) ∧ Strc w' gs 107 (cs.set o ov') ∧ w'.ownsRow 0 3 1 ov' ol'.length (nums .i64 ol') ∧ ol'.length ≤ ol.length ∧ (0 < ol.length → ol.getD 0 0 = n → ol'.length < ol.length) ∧ (∀ x ∈ ol', x ∈ ol) ∧ (∀ g, ov'.ownBlock = some g → ov.ownBlock = some g) ∧
      IM Tryz.prog 3 w' mb N (fun y => if y = (n : Int) then none else f y) ∧ Mod w w' (fun k => k = gs ∨ k = mb ∨ ov.ownBlock = some k) := by
  obtain ⟨A, c, rfl, hc, hA, _, _⟩ := own_shape hov
  have hne1 : (107 : TypeId) ≠ 3 := by decide
  have hng : mb ≠ gs := hst.not_map hm
  have hnm : (Value.slice A ol.length c).ownBlock ≠ some mb := own_not_map hov hm
  have hns : (Value.slice A ol.length c).ownBlock ≠ some gs := own_not_strc hov hst hne1
  have hbox := cell_alloc w #[.int .i64 n] 3 0 _ rfl
  have hb1 : Below w.heap.size w (w.alloc (.cells #[.int .i64 n] 3)) := below_alloc (Below.refl _ _) _
  have hst1 := hst.below hb1
  have hov1 := own_mod hov (Mod.of_below hb1 (fun _ => False)) (fun _ _ => id)
  have hm1 := hm.below hb1
  have hgl := hst.lt
  have hml := hm.lt
  have hol := own_lt hov
  have k0 := hst1.cell o _ h0
  have k1 := hst1.cell (o + 1) _ h1
  have HB1 := Aside0.mk hb1
  have HST1 := Aside0.mk hst1
  have HOV1 := Aside0.mk hov1
  have HM1 := Aside0.mk hm1
  have HC := Aside0.mk (And.intro h0 h1)
  clear hst h0 h1 hov hm hst1 hov1 hm1 hb1
  go_enter Tryz.func86, Tryz.ntmps86
  go_wp2
  generalize hW : w.alloc (.cells #[.int .i64 n] 3) = W at hbox k0 k1 HB1 HST1 HOV1 HM1 ⊢
  have hbl : w.heap.size < W.heap.size := by rw [← hW, World.size_alloc]; omega
  clear hW
  refine wp_region_in [0, 0, 0, 1, 1, 3] [5] (fun w' => w'.cell? ⟨gs, o + 1, none⟩ = some (.map (some mb)) ∧ w'.cell? ⟨w.heap.size, 0, none⟩ = some (.int .i64 n)) (by kernel_rfl) rfl (by kernel_rfl) (fun _ _ _ _ h => h) ⟨k1, hbox⟩ ?_
  iterate 5 (first
    | (refine in_off0 (by rfl) ?_; simp only [Act.put, stA, stZ, stS, i64_w, i32_w])
    | (refine in_off1 (by rfl) ?_; simp only [Act.put, stA, stZ, stS, i64_w, i32_w])
    | (refine in_0 (v := ?_) (by rfl) rfl ?_ (a' := ?_) ?_ ?_; rotate_left; (intro w'; go_simp; with_reducible rfl); rotate_left; (simp only [Act.put, stA, stZ, stS, i64_w, i32_w]; rfl))
    | (refine in_1 (v := ?_) (by rfl) rfl ?_ (a' := ?_) ?_ ?_; rotate_left; (rintro w' hs; go_split_ands; go_simp; with_reducible rfl); rotate_left; (simp only [Act.put, stA, stZ, stS, i64_w, i32_w]; rfl)))
  refine in_3 (by rfl) (fun K hK => ?_)
  refine wp_im_drop _ _ _ rfl Tryz.underlying3 Tryz.underlying98 rfl (HM1.out.kept (w1 := W.drew) rfl) n hn rfl ?_
  intro w2 hm2 hmod2 hsz2
  refine hK _ _ ?_
  clear hK K
  try simp only [Act.put, stA, stZ, stS, i64_w, i32_w]
  refine out_nil ?_
  have hmod2' : Mod W w2 (· = mb) := (Mod.refl W (· = mb)).drew.trans hmod2 (fun _ _ e => e)
  have hst2 := HST1.out.mod hmod2' (fun e => hng e.symm)
  have hov2 := own_mod HOV1.out hmod2' (fun g hg e => hnm (e ▸ hg))
  have hbx2 := hmod2'.cell hbox (show ¬ w.heap.size = mb by omega)
  have HM2 := Aside0.mk hm2
  have HST2 := Aside0.mk hst2
  have HMOD2 := Aside0.mk hmod2'
  have k20 := hst2.cell o _ HC.out.1
  have HDF := Aside0.mk (deletef_calls 0 (.slice A ol.length c) ol n ⟨w.heap.size, 0, none⟩ w2 hov2 hl hbx2 (fun e => by have := hol _ e; simp at this))
  clear hm2 hmod2 hmod2' hst2 hov2 hbx2 k0 k1 hbox
  go_wp2_with fail
  refine HDF.out.mono ?_
  rintro e w3 ⟨v3, l3, rfl, ho3, hle3, hlt3, hsb3, hob3, hm3⟩
  obtain ⟨A3, c3, rfl, _, _, _, _⟩ := own_shape ho3
  have hst3 := HST2.out.mod hm3 hns
  have hz3 := hst3.free o
  have hk3 := hst3.cell o _ HC.out.1
  have hl3 := hst3.lt
  have HST3 := Aside0.mk hst3
  have HO3 := Aside0.mk ho3
  have HM3 := Aside0.mk hm3
  have HP := Aside0.mk (And.intro hle3 (And.intro hlt3 (And.intro hsb3 hob3)))
  clear hst3 ho3 hm3 hle3 hlt3 hsb3 hob3 k20
  dsimp only
  go_wp2
  go_end0
  have hfm : Mod w3 (w3.setCell ⟨gs, o, none⟩ (.slice A3 l3.length c3)) (· = gs) := (Mod.refl _ _).set_own o _
  refine ⟨_, l3, rfl, HST3.out.set o _, own_mod HO3.out hfm (fun g hg e => by subst e; exact hns (HP.out.2.2.2 g hg)), HP.out.1, HP.out.2.1, HP.out.2.2.1, HP.out.2.2.2, (HM2.out.mod HM3.out (fun e => hnm e)).mod hfm hng, ?_⟩
  exact (((Mod.of_below HB1.out _).trans HMOD2.out (fun i _ e => .inr (.inl e))).trans HM3.out (fun i _ e => .inr (.inr e))).trans hfm (fun i _ e => .inl e)
structure ShardAt (w : World) (M R : Nat → Prop) (L : List (List Int)) (room : Nat) (X : Nat → Prop) (cs : List Value) (i : Nat) (ov : Value) (ol : List Int) (mb : Nat) (f : Int → Option Value) : Prop where
  h0 : cs[2 * i]? = some ov
  h1 : cs[2 * i + 1]? = some (.map (some mb))
  own : w.ownsRow 0 3 1 ov ol.length (nums .i64 ol)
  len : ol.length ≤ room
  rng : ∀ x ∈ ol, 0 ≤ x ∧ x < 4096
  mo : ∀ g, ov.ownBlock = some g → M g
  mm : M mb
  nx : ¬ X mb
  map : IM Tryz.prog 3 w mb 4096 f
  good : ∀ x v, f x = some v → HB w R v (L.getD x.toNat [])
def Apart (ns : Nat) (cs : List Value) : Prop := ∀ i j, i < ns → j < ns → i ≠ j → ∀ g oi oj, cs[2 * i]? = some oi → cs[2 * j]? = some oj → oi.ownBlock = some g → oj.ownBlock ≠ some g
def Cache (w : World) (M R : Nat → Prop) (L : List (List Int)) (room ns gs : Nat) (X : Nat → Prop) : Prop :=
  ∃ cs, Strc w gs 107 cs ∧ 2 * ns ≤ cs.length ∧ (∀ i, i < ns → ∃ ov ol mb f, ShardAt w M R L room X cs i ov ol mb f) ∧ Apart ns cs
theorem HB.mod {w w1 : World} {R S : Nat → Prop} {v : Value} {l : List Int} (h : HB w R v l) (hm : Mod w w1 S) (hn : ∀ k, R k → ¬ S k) : HB w1 R v l :=
  h.kept (fun g hd hr => hm.block g hr.lt (hn g hd))
theorem Cache.mod {w w1 : World} {M R S : Nat → Prop} {L : List (List Int)} {room ns gs : Nat} {X : Nat → Prop} (h : Cache w M R L room ns gs X) (hm : Mod w w1 S) (hn : ∀ k, M k → ¬ S k) (hr : ∀ k, R k → ¬ S k) (hg : ¬ S gs) : Cache w1 M R L room ns gs X := by
  obtain ⟨cs, h1, h2, h3, h4⟩ := h
  refine ⟨cs, h1.mod hm hg, h2, fun i hi => ?_, h4⟩
  obtain ⟨ov, ol, mb, f, h⟩ := h3 i hi
  exact ⟨ov, ol, mb, f, ⟨h.h0, h.h1, own_mod h.own hm (fun g hg => hn g (h.mo g hg)), h.len, h.rng, h.mo, h.mm, h.nx, h.map.mod hm (hn _ h.mm), fun x v hx => (h.good x v hx).mod hm hr⟩⟩
set_option maxHeartbeats 1000000 in
set_option maxRecDepth 100000 in
theorem of_calls (s0 gs ns cap n : Nat) (w : World) (h6 : w.cell? ⟨s0, 6, none⟩ = some (.slice (some ⟨gs, 0, none⟩) ns cap)) (h0 : 0 < ns) (h16 : ns ≤ 16) (hn : n < 9223372036854775808) :
    Calls Tryz.prog 55 #[.pointer (some ⟨s0, 0, none⟩), .int .i64 n] w fun e w' => e = .returned (.pointer (some ⟨gs, 2 * (n % ns), none⟩)) ∧ w.drew = w' := by
  obtain ⟨i, hi⟩ : ∃ i, n % ns = i := ⟨_, rfl⟩
  have hil : i < ns := by rw [← hi]; exact Nat.mod_lt _ h0
  have ht : (n : Int).tmod (ns : Int) = (i : Int) := by rw [Int.tmod_eq_emod_of_nonneg (by omega), ← hi]; omega
  have HT := Aside0.mk ht
  rw [hi]
  have i0 : ¬ (ns : Int) = 0 := by omega
  have i1 : (i : Int) < (ns : Int) := by omega
  have i2 : ((ns : Int) == 0) = false := by rw [beq_eq_false_iff_ne]; omega
  have i3 : ¬ ns = 0 := by omega
  clear hi ht
  go_enter Tryz.func55, Tryz.ntmps55
  go_wp2
  have ht := HT.out
  refine wp_region_in [0, 0, 0, 1, 0, 0, 0, 0, 1, 0, 0, 0, 0] [] (fun w' => w'.cell? ⟨s0, 6, none⟩ = some (.slice (some ⟨gs, 0, none⟩) ns cap)) (by kernel_rfl) rfl (by kernel_rfl) (fun _ _ _ _ h => h) h6 ?_
  iterate 13 (first
    | (refine in_off0 (by rfl) ?_; simp only [Act.put, stA, stZ, stS, i64_w, i32_w])
    | (refine in_off1 (by rfl) ?_; simp only [Act.put, stA, stZ, stS, i64_w, i32_w])
    | (refine in_0 (v := ?_) (by rfl) rfl ?_ (a' := ?_) ?_ ?_; rotate_left; (intro w'; go_simp; with_reducible rfl); rotate_left; (simp only [Act.put, stA, stZ, stS, i64_w, i32_w]; rfl))
    | (refine in_1 (v := ?_) (by rfl) rfl ?_ (a' := ?_) ?_ ?_; rotate_left; (rintro w' hs; go_split_ands; go_simp; with_reducible rfl); rotate_left; (simp only [Act.put, stA, stZ, stS, i64_w, i32_w]; rfl)))
  refine in_nil ?_
  go_wp2
  go_ret
  refine ⟨?_, rfl⟩
  have : (⟨gs, 0, none⟩ : Addr).add (i * 2) = ⟨gs, 2 * i, none⟩ := by rw [add_plain, Nat.mul_comm]
  first
    | rfl
    | (rw [this])
    | simp [this]
end Go.Proofs.YtkmhilhfmfmckaaGreatDoor.Hand
