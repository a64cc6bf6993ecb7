/- Own texts and printed words of the kit, put together and trimmed by a program of mine (merge.py). -/
import Derived.Test.YtkmhilhfmfmckaaGreatDoorR02
import Derived.Maps.OwnSet
import Derived.Maps.AppendAt
import Derived.Deep.DeepCutAuto
import Derived.Deep.CutBlock
namespace Go.Proofs.YtkmhilhfmfmckaaGreatDoor.Hand
set_option linter.unusedSimpArgs false
set_option linter.unusedVariables false
open Go.Shelf Go.RowKit Go.Proofs.YtkmhilhfmfmckaaGreatDoorW.PrintWords Go.Proofs.YtkmhilhfmfmckaaGreatDoorW.PrintLast Go.Proofs.YtkmhilhfmfmckaaGreatDoorW.PrintMore
def orBit (b : List Int) (i : Nat) : List Int := b.set (i / 8) (Go.bits .or .u8 (b.getD (i / 8) 0) (2 ^ (i % 8)))
def orTo (b : List Int) (n : Nat) : Nat → List Int
 | 0 => b
 | g + 1 => orBit (orTo b n g) (n + g)
theorem orTo_length (b : List Int) (n g : Nat) : (orTo b n g).length = b.length := by
 induction g with
 | zero => rfl
 | succ g ih => simp [orTo, orBit, ih]
theorem bits_u8 (o : BinOp) (a b : Int) : 0 ≤ Go.bits o .u8 a b ∧ Go.bits o .u8 a b < 256 := by
 have h : ∀ n : Int, 0 ≤ IntKind.u8.wrap n ∧ IntKind.u8.wrap n < 256 := fun n => by simp only [IntKind.wrap, IntKind.bits, IntKind.signed]; simp; omega
 cases o <;> simp only [Go.bits] <;> exact h _
theorem allB_or {b : List Int} (h : allB b) (n g : Nat) : allB (orTo b n g) := by
 induction g with
 | zero => exact h
 | succ g ih => exact allB_set ih _ _ (bits_u8 _ _ _)
theorem pow_wrap (r : Nat) (h : r < 8) : IntKind.u8.wrap (2 ^ r) = 2 ^ r := by
 match r, h with
 | 0, _ => rfl
 | 1, _ => rfl
 | 2, _ => rfl
 | 3, _ => rfl
 | 4, _ => rfl
 | 5, _ => rfl
 | 6, _ => rfl
 | 7, _ => rfl
def newB (n : Nat) (s : Int) : List Int := sealL (orTo (List.replicate 256 0) n (2016 - n)) s
set_option maxHeartbeats 2000000 in
set_option maxRecDepth 100000 in
theorem new_calls (n : Nat) (s : Int) (w : World) (hn : n ≤ 2016) (hs0 : 0 ≤ s) (hs1 : s < 4294967296) :
  Calls Tryz.prog 104 #[.int .i64 n, .int .u32 s] w fun e w' => ∃ g, e = .returned (.tuple #[.slice (some ⟨g, 0, none⟩) 256 256, .int .i64 0]) ∧ w.heap.size ≤ g ∧ Row w' .u8 g 5 (newB n s) ∧ Below w.heap.size w w' := by
 have hmk : ∀ w : World, (Instr.makeSlice 23 (.int .i64 256) (.int .i64 256)).run Tryz.prog w = .ok (.slice (some ⟨w.heap.size, 0, none⟩) 256 256) (noughts w) := make256
 have HN := Aside0.mk (show Row (noughts w) .u8 w.heap.size 5 (List.replicate 256 0) from row_last _ _ _ _)
 have HB := Aside0.mk (show Below w.heap.size w (noughts w) from below_alloc (Below.refl _ _) _)
 have hab : allB (List.replicate 256 (0 : Int)) := fun x hx => by rw [List.eq_of_mem_replicate hx]; omega
 go_enter Tryz.func104, Tryz.ntmps104
 go_wp2
 obtain ⟨g0, hg0⟩ : ∃ g, w.heap.size = g := ⟨_, rfl⟩
 have hgs : w.heap.size ≤ g0 := by omega
 rw [show (⟨w.heap.size, 0, none⟩ : Addr) = ⟨g0, 0, none⟩ by rw [hg0]]
 rw [hg0] at HN
 clear hg0
 generalize noughts w = w1 at HN HB ⊢
 obtain ⟨z, hz⟩ : ∃ z, List.replicate 256 (0 : Int) = z := ⟨_, rfl⟩
 have hzl : z.length = 256 := by rw [← hz]; simp
 rw [hz] at HN hab
 have HZ := Aside0.mk hz
 have HZL := Aside0.mk hzl
 have HAB := Aside0.mk hab
 clear hz hzl hab hmk
 go_loopg [7] (2016 - n) (fun g i wr => ∃ k : Nat, k + g = 2016 - n ∧ i = .int .i64 ((n + k : Nat) : Int) ∧ Aside0 (Row wr .u8 g0 5 (orTo z n k)) ∧ Aside0 (Below w.heap.size w wr))
 case atStart => exact ⟨0, by omega, rfl, HN, HB⟩
 case round =>
  obtain ⟨k, hk, rfl, HR, HBr⟩ := hrel
  have hlen := orTo_length z n k
  obtain ⟨i, hi⟩ : ∃ i, n + k = i := ⟨_, rfl⟩
  rw [hi]
  cases gk with
  | zero =>
   have HI := Aside0.mk hi
   have hr := HR.out
   have hk2 : k = 2016 - n := by omega
   rw [hk2] at hr
   have hsc := seal_calls g0 252 256 s wr _ hr (by rw [orTo_length, HZL.out]) (by omega) (by omega) hs0 hs1
   have HSC := Aside0.mk hsc
   have i1 : ¬ (i : Int) < 2016 := by omega
   clear hr hsc hi hk2 hlen
   go_wp2_with fail
   refine HSC.out.mono ?_
   rintro e w2 ⟨rfl, hr2, hm2⟩
   dsimp only
   go_wp2
   go_ret2
   refine ⟨g0, rfl, hgs, ?_, below_mod HBr.out hm2 hgs⟩
   unfold newB
   rw [HZ.out]
   exact hr2
  | succ g =>
   have hlt : i < 2016 := by omega
   have hnext : orTo z n (k + 1) = (orTo z n k).set (i / 8) (Go.bits .or .u8 ((orTo z n k).getD (i / 8) 0) (2 ^ (i % 8))) := by rw [← hi]; rfl
   obtain ⟨q, hq⟩ : ∃ q, i / 8 = q := ⟨_, rfl⟩
   obtain ⟨r, hrr⟩ : ∃ r, i % 8 = r := ⟨_, rfl⟩
   have hr8 : r < 8 := by omega
   have HW := Aside0.mk (And.intro (w64 (x := (i : Int) / 8) (n := q) (by omega) (by omega)) (show (i : Int).tmod 8 = (r : Int) by rw [Int.tmod_eq_emod_of_nonneg (by omega)]; omega))
   have hpw := pow_wrap r hr8
   have i2 : q < 256 := by omega
   have i1 : (q : Int) < 256 := by omega
   rw [hq, hrr] at hnext
   have hc := HR.out.cell q (by rw [hlen, HZL.out]; omega)
   have hz0 := HR.out.free q
   have hset := HR.out.set q (Go.bits .or .u8 ((orTo z n k).getD q 0) (2 ^ r))
   rw [← hnext] at hset
   have hx1 := allB_get (allB_or HAB.out n k) q
   generalize (orTo z n k).getD q 0 = x at hc hset hx1
   have HSET := Aside0.mk hset
   have HI := Aside0.mk hi
   have hbs := below_set_new HBr.out hgs q (.int .u8 (Go.bits .or .u8 x (2 ^ r)))
   have HBS := Aside0.mk hbs
   clear hset hnext hi hlen hbs hq hrr
   go_wp2
   obtain ⟨hw1, hw3⟩ := HW.out
   refine wp_region_in [0, 0, 0, 0, 1, 0, 0, 0, 0, 0, 3] [10] (fun w' => w'.cell? ⟨g0, q, none⟩ = some (.int .u8 x) ∧ w'.frozen? ⟨g0, q, none⟩ = false) (by kernel_rfl) rfl (by kernel_rfl) (fun _ _ _ _ h => h) ⟨hc, hz0⟩ ?_
   iterate 10 (first
    | (refine in_off0 (by rfl) ?_; simp only [Act.put, stA, stZ, stS, i64_w, i32_w])
    | (refine in_off1 (by rfl) ?_; simp only [Act.put, stA, stZ, stS, i64_w, i32_w])
    | (refine in_0 (v := ?_) (by rfl) rfl ?_ (a' := ?_) ?_ ?_; rotate_left; (intro w'; go_simp; with_reducible rfl); rotate_left; (simp only [Act.put, stA, stZ, stS, i64_w, i32_w]; rfl))
    | (refine in_1 (v := ?_) (by rfl) rfl ?_ (a' := ?_) ?_ ?_; rotate_left; (rintro w' hs; go_split_ands; go_simp; with_reducible rfl); rotate_left; (simp only [Act.put, stA, stZ, stS, i64_w, i32_w]; rfl)))
   refine in_3 (by rfl) (fun K hK => ?_)
   go_simp
   refine hK _ _ ?_
   clear hK K
   try simp only [Act.put, stA, stZ, stS, i64_w, i32_w]
   refine out_nil ?_
   clear hw1 hw3 hc hz0
   go_wp2
   go_roundg g
   case measure => omega
   case rel => exact ⟨k + 1, by omega, by have := HI.out; go_num, ⟨HSET.out⟩, ⟨HBS.out.drew⟩⟩
def sealedI (b : List Int) (s : Int) : Bool := val (b.drop 252) == crcI s (b.take 252)
set_option maxHeartbeats 1000000 in
set_option maxRecDepth 100000 in
theorem sealedt_calls (A : Option Addr) (c : Nat) (b : List Int) (s : Int) (w : World) (hb : Kd.C (Kd.int .u8) w A b.length b) (hl : b.length = 256) (hc : b.length ≤ c) (hab : allB b) (hs0 : 0 ≤ s) (hs1 : s < 4294967296) :
  Calls Tryz.prog 172 #[.slice A b.length c, .int .u32 s] w fun e w' => e = .returned (.bool (sealedI b s)) ∧ Below w.heap.size w w' := by
 obtain ⟨ad, rfl, _⟩ := C_int_at hb 0 (by omega)
 have hd : (b.drop 252).length = 4 := by simp [hl]
 have ht : (b.take 252).length = 252 := by simp [hl]
 have hp1 := C_int_part hb 252 4 (by omega)
 rw [List.take_of_length_le (by omega)] at hp1
 have hp2 := C_int_pre hb 252 (by omega)
 have HN := Aside0.mk (fun (W : World) (hW : Below w.heap.size w W) => by
  have := number_calls (some (ad.add 252)) (c - 252) (b.drop 252) W (by rw [hd]; exact Kd.C_below hp1 hW) (by omega)
  rw [hd, numI_val (allB_drop hab 252) (by omega)] at this
  exact this)
 have HC := Aside0.mk (fun (W : World) (hW : Below w.heap.size w W) => by
  have := crc_calls s (some ad) c (b.take 252) W (by rw [ht]; exact Kd.C_below hp2 hW) hs0 hs1
  rw [ht] at this
  exact this)
 have hv := val_range (allB_drop hab 252)
 have hcr := crcI_range s (b.take 252)
 unfold sealedI
 obtain ⟨x, hx⟩ : ∃ x, val (b.drop 252) = x := ⟨_, rfl⟩
 obtain ⟨y, hy⟩ : ∃ y, crcI s (b.take 252) = y := ⟨_, rfl⟩
 rw [hx] at HN hv ⊢
 rw [hy] at HC hcr ⊢
 obtain ⟨hy0, hy1⟩ := hcr
 have hym : IntKind.u64.wrap y = y := by rw [wrap_u64]; omega
 rw [hl] at hc ⊢
 clear hb hab hd ht hp1 hp2 hx hy hl hv
 have hcut1 : ∀ W : World, (Instr.slice 23 (.slice (some ad) 256 c) (some (.int .i64 252)) none none).run Tryz.prog W = .ok (.slice (some (ad.add 252)) 4 (c - 252)) W := by
  intro W
  obtain ⟨j0, hj, hj0, hj1, hj2⟩ := info_parts infoU8
  have := cut_from (P := Tryz.prog) 23 5 .i64 (i := j0) rfl hj 1 hj1 (some ad) 256 c 252 (by omega) (by omega) W
  rw [this, if_neg (by omega), Nat.mul_one]
  rfl
 have hcut2 : ∀ W : World, (Instr.slice 23 (.slice (some ad) 256 c) none (some (.int .i64 252)) none).run Tryz.prog W = .ok (.slice (some ad) 252 c) W := by
  intro W
  obtain ⟨j0, hj, hj0, hj1, hj2⟩ := info_parts infoU8
  have := cut_to (P := Tryz.prog) 23 5 .i64 (i := j0) rfl hj (some ad) 256 c 252 (by omega) (by omega) hc W
  rw [this]
  rfl
 go_enter Tryz.func172, Tryz.ntmps172
 go_wp2
 refine wp_region_ord [0, 1, 2, 3, 4, 5, 7, 8, 9, 10, 6, 11, 12, 13, 14, 15] [0, 0, 0, 0, 0, 0, 0, 0, 0, 0, 2, 2, 0, 0, 0, 0] (fun w' => Below w.heap.size w w') (by kernel_rfl) rfl (by kernel_rfl) (fun _ _ _ _ h => h) (Below.refl _ _).drew ?_
 iterate 10 (first
  | (refine inQ_off0 (by rfl) (by rfl) ?_; simp only [Act.put, stA, stZ, stS, i64_w, i32_w])
  | (refine inQ_off1 (by rfl) (by rfl) ?_; simp only [Act.put, stA, stZ, stS, i64_w, i32_w])
  | (refine inQ_0 (v := ?_) (by rfl) (by rfl) rfl ?_ (a' := ?_) ?_ ?_; rotate_left; (intro w'; go_simp; with_reducible rfl); rotate_left; (simp only [Act.put, stA, stZ, stS, i64_w, i32_w]; rfl))
  | (refine inQ_1 (v := ?_) (by rfl) (by rfl) rfl ?_ (a' := ?_) ?_ ?_; rotate_left; (rintro w' hs; go_split_ands; go_simp; with_reducible rfl); rotate_left; (simp only [Act.put, stA, stZ, stS, i64_w, i32_w]; rfl)))
 refine inQ_2 (by rfl) (by rfl) (fun K hK => ?_)
 go_simp
 refine (HN.out _ (Below.refl _ _).drew).mono ?_
 rintro e w3 ⟨rfl, rfl⟩
 dsimp only
 refine hK _ _ (Below.refl _ _).drew ?_
 clear hK K
 try simp only [Act.put, stA, stZ, stS, i64_w, i32_w]
 refine inQ_2 (by rfl) (by rfl) (fun K hK => ?_)
 go_simp
 refine (HC.out _ (Below.refl _ _).drew).mono ?_
 rintro e w5 ⟨rfl, rfl⟩
 dsimp only
 refine hK _ _ (Below.refl _ _).drew ?_
 clear hK K
 try simp only [Act.put, stA, stZ, stS, i64_w, i32_w]
 iterate 4 (first
  | (refine inQ_off0 (by rfl) (by rfl) ?_; simp only [Act.put, stA, stZ, stS, i64_w, i32_w])
  | (refine inQ_off1 (by rfl) (by rfl) ?_; simp only [Act.put, stA, stZ, stS, i64_w, i32_w])
  | (refine inQ_0 (v := ?_) (by rfl) (by rfl) rfl ?_ (a' := ?_) ?_ ?_; rotate_left; (intro w'; go_simp; with_reducible rfl); rotate_left; (simp only [Act.put, stA, stZ, stS, i64_w, i32_w]; rfl))
  | (refine inQ_1 (v := ?_) (by rfl) (by rfl) rfl ?_ (a' := ?_) ?_ ?_; rotate_left; (rintro w' hs; go_split_ands; go_simp; with_reducible rfl); rotate_left; (simp only [Act.put, stA, stZ, stS, i64_w, i32_w]; rfl)))
 refine inP_nil ?_
 go_wp2
 go_ret
 exact ⟨rfl, (Below.refl _ _).drew⟩
def tailB (b : List Int) (n g : Nat) : Bool := (List.range g).all fun k => setI b ((n + k : Nat) : Int)
theorem tailB_snoc (b : List Int) (n g : Nat) : tailB b n (g + 1) = (tailB b n g && setI b ((n + g : Nat) : Int)) := by
 unfold tailB
 rw [List.range_succ, List.all_append]
 simp
theorem tailB_le {b : List Int} {n g m : Nat} (h : tailB b n m = true) (hg : g ≤ m) : tailB b n g = true := by
 unfold tailB at h ⊢
 rw [List.all_eq_true] at h ⊢
 intro k hk
 exact h k (by rw [List.mem_range] at hk ⊢; omega)
def chkB (b : List Int) (n : Nat) (s : Int) : Int := if b.length ≠ 256 ∨ sealedI b s = false then 117 else if tailB b n (2016 - n) = true then 0 else 117
set_option maxHeartbeats 1000000 in
set_option maxRecDepth 100000 in
theorem bchk_calls (A : Option Addr) (c : Nat) (b : List Int) (n : Nat) (s : Int) (w : World) (hb : Kd.C (Kd.int .u8) w A b.length b) (hc : b.length ≤ c) (hab : allB b) (hn : n ≤ 2016) (hs0 : 0 ≤ s) (hs1 : s < 4294967296) :
  Calls Tryz.prog 134 #[.slice A b.length c, .int .i64 n, .int .u32 s] w fun e w' => e = .returned (.int .i64 (chkB b n s)) ∧ Below w.heap.size w w' := by
 have hm := (C_int_len hb).2
 by_cases h256 : b.length = 256
 ·have HS := Aside0.mk (fun (W : World) (hW : Below w.heap.size w W) => sealedt_calls A c b s W (Kd.C_below hb hW) h256 hc hab hs0 hs1)
  have HT := Aside0.mk (fun (i : Int) (W : World) (hW : Below w.heap.size w W) (h0 : -9223372036854775808 ≤ i) (h1 : i ≤ 9223372036854775807) => set_calls A c b i W (Kd.C_below hb hW) hab h0 h1)
  have hck : chkB b n s = if sealedI b s = false then 117 else if tailB b n (2016 - n) = true then 0 else 117 := by unfold chkB; simp [h256]
  rw [h256] at HS HT ⊢
  obtain ⟨q, hq⟩ : ∃ q, sealedI b s = q := ⟨_, rfl⟩
  rw [hq] at HS hck
  have HC0 : q = false → chkB b n s = 117 := fun h => by rw [hck, if_pos h]
  have HC1 : q = true → tailB b n (2016 - n) = true → chkB b n s = 0 := fun h h2 => by rw [hck, if_neg (by rw [h]; simp), if_pos h2]
  have HC2 : q = true → ¬ tailB b n (2016 - n) = true → chkB b n s = 117 := fun h h2 => by rw [hck, if_neg (by rw [h]; simp), if_neg h2]
  obtain ⟨r, hr⟩ : ∃ r, chkB b n s = r := ⟨_, rfl⟩
  rw [hr] at HC0 HC1 HC2 ⊢
  clear hb hab h256 hc hm hq hck hr
  cases q
  ·have hr : r = 117 := HC0 rfl
   subst hr
   clear HC0 HC1 HC2
   go_enter Tryz.func134, Tryz.ntmps134
   go_wp2_with fail
   refine (HS.out w (Below.refl _ _)).mono ?_
   rintro e w1 ⟨rfl, hb1⟩
   dsimp only
   have HB1 := Aside0.mk hb1
   clear hb1
   go_wp2
   go_ret
   exact ⟨rfl, HB1.out⟩
  ·have HK1 := Aside0.mk (HC1 rfl)
   have HK2 := Aside0.mk (HC2 rfl)
   clear HC0 HC1 HC2
   go_enter Tryz.func134, Tryz.ntmps134
   go_wp2_with fail
   refine (HS.out w (Below.refl _ _)).mono ?_
   rintro e w1 ⟨rfl, hb1⟩
   dsimp only
   have HB1 := Aside0.mk hb1
   clear hb1
   go_wp2
   go_loopg [7] (2016 - n) (fun g i wr => ∃ k : Nat, k + g = 2016 - n ∧ i = .int .i64 ((n + k : Nat) : Int) ∧ Aside0 (tailB b n k = true) ∧ Aside0 (Below w.heap.size w wr))
   case atStart => exact ⟨0, by omega, rfl, ⟨rfl⟩, HB1⟩
   case round =>
    obtain ⟨k, hk, rfl, HTB, HBr⟩ := hrel
    obtain ⟨i, hi⟩ : ∃ i, n + k = i := ⟨_, rfl⟩
    rw [hi]
    have HI := Aside0.mk hi
    cases gk with
    | zero =>
     have hk2 : k = 2016 - n := by omega
     have i1 : ¬ (i : Int) < 2016 := by omega
     have HKZ := Aside0.mk hk2
     clear hi hk2
     go_wp2
     go_ret
     refine ⟨?_, HBr.out⟩
     have := HTB.out
     rw [HKZ.out] at this
     rw [HK1.out this]
     rfl
    | succ g =>
     have hst := HT.out (i : Int) wr HBr.out (by omega) (by omega)
     have hsn := tailB_snoc b n k
     rw [hi, HTB.out, Bool.true_and] at hsn
     obtain ⟨q, hq⟩ : ∃ q, setI b (i : Int) = q := ⟨_, rfl⟩
     rw [hq] at hst hsn
     have HST := Aside0.mk hst
     have HSN := Aside0.mk hsn
     have i1 : (i : Int) < 2016 := by omega
     clear hst hsn hq hi
     go_wp2_with fail
     refine HST.out.mono ?_
     rintro e w2 ⟨rfl, rfl⟩
     dsimp only
     cases q
     ·go_wp2
      go_ret
      have hf : ¬ tailB b n (2016 - n) = true := fun h => by
       have := tailB_le (g := k + 1) h (by omega)
       rw [HSN.out] at this
       cases this
      exact ⟨by rw [HK2.out hf]; rfl, HBr.out⟩
     ·go_wp2
      go_roundg g
      case measure => omega
      case rel => exact ⟨k + 1, by omega, by have := HI.out; go_num, HSN, HBr⟩
 ·have hck : chkB b n s = 117 := by unfold chkB; rw [if_pos (.inl h256)]
  rw [hck]
  have hne : ((b.length : Int) != 256) = true := by rw [bne_iff_ne]; omega
  clear hb hab hck
  go_enter Tryz.func134, Tryz.ntmps134
  go_wp2
  go_ret
  exact ⟨rfl, Below.refl _ _⟩
theorem nonnil_eql (ad : Addr) (n c : Nat) (W : World) : (binOp .eql 23 (.slice (some ad) n c) (.slice none 0 0)).run Tryz.prog W = .ok (.bool false) W := by kernel_rfl
theorem nil_eql (W : World) : (binOp .eql 23 (.slice none 0 0) (.slice none 0 0)).run Tryz.prog W = .ok (.bool true) W := by kernel_rfl
set_option maxHeartbeats 1000000 in
set_option maxRecDepth 100000 in
theorem clone_calls (ad : Addr) (c : Nat) (b : List Int) (w : World) (hb : Kd.C (Kd.int .u8) w (some ad) b.length b) (hm : b.length ≤ 140737488351232) :
  Calls Tryz.prog 42 #[.slice (some ad) b.length c] w fun e w' => ∃ v, e = .returned v ∧ Own w' w.heap.size 5 .u8 v b ∧ Below w.heap.size w w' := by
 have HB := Aside0.mk hb
 have hrx : RowX (w.alloc (.cells #[] 5)) .u8 w.heap.size 5 [] := alloc_last _ _
 have HO := Aside0.mk (own_of_row (n := 0) (base := w.heap.size) hrx rfl (Nat.le_refl _) (by simp [maxLen]))
 have HBa := Aside0.mk (fun o => below_alloc (Below.refl w.heap.size w) o)
 clear hb hrx
 obtain ⟨i0, hi, hz0, hz1, hz2⟩ := info_parts infoU8
 have hnil := nonnil_eql ad b.length c
 go_enter Tryz.func42, Tryz.ntmps42
 go_wp2_with ((with_reducible refine gate_dst (N := 7) rfl ?_); refine wpList_append_own _ rfl (.tmp 5) (.tmp 6) 23 rfl w.heap.size 5 i0 (.int .u8 0) 1 1 Tryz.underlying23 hi hz0 hz1 hz2 rfl (by decide) _ _ _ rfl HO.out ad b.length c (nums .u8 b) ?c6 ?c7 ?c1 ?c2 ?c3 ?c4 ?c5 ?_; (case c6 => rfl); (case c7 => (first | rfl | simp [nums_length])); (case c1 => (intro j u hj; obtain ⟨hjl, e⟩ := List.getElem?_eq_some_iff.1 hj; rw [nums_length] at hjl; obtain ⟨ad', e', hc'⟩ := C_int_at (Kd.C_below HB.out (HBa.out _)) j hjl; cases e'; rw [hc', ← e]; simp [nums, List.getD_eq_getElem?_getD, hjl])); (case c2 => (intro u hu; simp only [nums, List.mem_map] at hu; obtain ⟨x, _, rfl⟩ := hu; rfl)); (case c3 => (simp only [maxLen, List.length_nil]; omega)); (case c4 => (simp only [List.length_nil]; omega)); (case c5 => exact (HBa.out _).size); intro v1 w5 hown1 hgrow1 _; have HO5 := Aside0.mk (own_snoc (l := []) (ys := b) hown1 rfl rfl); have HB5 := Aside0.mk (pw_below_grown (HBa.out _) _ (HBa.out _).size hgrow1 (fun g hg => HO.out.base g hg)); clear hown1 hgrow1 hz0 hz1 hz2 hi)
 go_ret
 exact ⟨_, rfl, HO5.out, HB5.out⟩
def flipB (b : List Int) (i : Nat) : List Int := b.set (i / 8) (Go.bits .xor .u8 (b.getD (i / 8) 0) (2 ^ (i % 8)))
theorem flipB_length (b : List Int) (i : Nat) : (flipB b i).length = b.length := by simp [flipB]
theorem allB_flip {b : List Int} (h : allB b) (i : Nat) : allB (flipB b i) := allB_set h _ _ (bits_u8 _ _ _)
def turnGo (on : Bool) : Nat → Nat → List Int → Option (List Int)
 | 0, _, b => some b
 | g + 1, i, b => if (setI b (i : Int) == on) = true then none else turnGo on g (i + 1) (flipB b i)
def turnI (b : List Int) (n : Nat) (from_ count : Int) (on : Bool) (s : Int) : List Int × Int :=
 if chkB b n s ≠ 0 then ([], chkB b n s) else
 if count < 1 ∨ from_ < 0 ∨ (n : Int) < from_ ∨ (n : Int) - from_ < count then ([], 22) else
 match turnGo on count.toNat from_.toNat b with
 | none => ([], 117)
 | some out => (sealL out s, 0)
theorem chkB_len {b : List Int} {n : Nat} {s : Int} (h : chkB b n s = 0) : b.length = 256 := by
 unfold chkB at h
 by_cases h1 : b.length ≠ 256 ∨ sealedI b s = false
 ·rw [if_pos h1] at h; cases h
 ·exact Classical.not_not.1 (fun h2 => h1 (.inl h2))
theorem turnGo_len (on : Bool) : ∀ (g i : Nat) (b out : List Int), turnGo on g i b = some out → out.length = b.length
 | 0, _, b, out, h => by simp only [turnGo, Option.some.injEq] at h; rw [h]
 | g + 1, i, b, out, h => by
  rw [turnGo] at h
  split at h
  ·cases h
  ·rw [turnGo_len on g (i + 1) _ out h, flipB_length]
theorem turnGo_allB (on : Bool) : ∀ (g i : Nat) (b out : List Int), allB b → turnGo on g i b = some out → allB out
 | 0, _, b, out, hb, h => by simp only [turnGo, Option.some.injEq] at h; rw [← h]; exact hb
 | g + 1, i, b, out, hb, h => by
  rw [turnGo] at h
  split at h
  ·cases h
  ·exact turnGo_allB on g (i + 1) _ out (allB_flip hb i) h
def BytesPost (r : List Int × Int) (w : World) (e : Ending) (w' : World) : Prop :=
 ∃ v, e = .returned (.tuple #[v, .int .i64 r.2]) ∧ Below w.heap.size w w' ∧ (r.2 = 0 → ∃ g c, v = .slice (some ⟨g, 0, none⟩) r.1.length c ∧ w.heap.size ≤ g ∧ r.1.length ≤ c ∧ Row w' .u8 g 5 r.1) ∧ (r.2 ≠ 0 → v = .slice none 0 0)
theorem bytesPost_bad {r : List Int × Int} {w w' : World} {e : Ending} {c : Int} (hr : r.2 = c) (hc : c ≠ 0) (he : e = .returned (.tuple #[.slice none 0 0, .int .i64 c])) (hb : Below w.heap.size w w') : BytesPost r w e w' :=
 ⟨.slice none 0 0, by rw [hr]; exact he, hb, fun h => absurd (hr.symm.trans h) hc, fun _ => rfl⟩
set_option maxHeartbeats 4000000 in
set_option maxRecDepth 100000 in
theorem turn_calls (A : Option Addr) (c : Nat) (b : List Int) (n : Nat) (fr ct : Int) (on : Bool) (s : Int) (w : World) (hb : Kd.C (Kd.int .u8) w A b.length b) (hc : b.length ≤ c) (hab : allB b) (hn : n ≤ 2016) (hs0 : 0 ≤ s) (hs1 : s < 4294967296)
  (hf0 : -9223372036854775808 ≤ fr) (hf1 : fr < 9223372036854775808) (hc0 : -9223372036854775808 ≤ ct) (hc1 : ct < 9223372036854775808) :
  Calls Tryz.prog 105 #[.slice A b.length c, .int .i64 n, .int .i64 fr, .int .i64 ct, .bool on, .int .u32 s] w (BytesPost (turnI b n fr ct on s) w) := by
 have hm := (C_int_len hb).2
 have HCK := Aside0.mk (bchk_calls A c b n s w hb hc hab hn hs0 hs1)
 have hlen := chkB_len (b := b) (n := n) (s := s)
 have hbad0 : chkB b n s ≠ 0 → (turnI b n fr ct on s).2 = chkB b n s := fun h => by unfold turnI; rw [if_pos h]
 have hbad1 : chkB b n s = 0 → (ct < 1 ∨ fr < 0 ∨ (n : Int) < fr ∨ (n : Int) - fr < ct) → (turnI b n fr ct on s).2 = 22 := fun h h2 => by unfold turnI; rw [if_neg (fun h' => h' h), if_pos h2]
 have hgood : chkB b n s = 0 → ¬ (ct < 1 ∨ fr < 0 ∨ (n : Int) < fr ∨ (n : Int) - fr < ct) → turnI b n fr ct on s = match turnGo on ct.toNat fr.toNat b with | none => ([], 117) | some out => (sealL out s, 0) := fun h h2 => by unfold turnI; rw [if_neg (fun h' => h' h), if_neg h2]
 obtain ⟨q, hq⟩ : ∃ q, chkB b n s = q := ⟨_, rfl⟩
 rw [hq] at HCK hbad0 hbad1 hgood hlen
 obtain ⟨r, hr⟩ : ∃ r, turnI b n fr ct on s = r := ⟨_, rfl⟩
 rw [hr] at hbad0 hbad1 hgood ⊢
 have HBC := Aside0.mk hb
 have HAB := Aside0.mk hab
 clear hb hab hq hr
 by_cases hq0 : q = 0
 ·subst hq0
  have hl := hlen rfl
  clear hlen hbad0
  by_cases hbd : ct < 1 ∨ fr < 0 ∨ (n : Int) < fr ∨ (n : Int) - fr < ct
  ·have HB1 := Aside0.mk (hbad1 rfl hbd)
   clear hbad1 hgood hl
   by_cases d1 : ct < 1
   ·clear hbd
    go_enter Tryz.func105, Tryz.ntmps105
    go_wp2_with fail
    refine HCK.out.mono ?_
    rintro e w1 ⟨rfl, hb1⟩
    have HB := Aside0.mk hb1
    clear hb1
    dsimp only
    go_wp2
    go_ret2
    exact bytesPost_bad HB1.out (by decide) rfl HB.out
   ·by_cases d2 : fr < 0
    ·clear hbd
     go_enter Tryz.func105, Tryz.ntmps105
     go_wp2_with fail
     refine HCK.out.mono ?_
     rintro e w1 ⟨rfl, hb1⟩
     have HB := Aside0.mk hb1
     clear hb1
     dsimp only
     go_wp2
     go_ret2
     exact bytesPost_bad HB1.out (by decide) rfl HB.out
    ·by_cases d3 : (n : Int) < fr
     ·clear hbd
      go_enter Tryz.func105, Tryz.ntmps105
      go_wp2_with fail
      refine HCK.out.mono ?_
      rintro e w1 ⟨rfl, hb1⟩
      have HB := Aside0.mk hb1
      clear hb1
      dsimp only
      go_wp2
      go_ret2
      exact bytesPost_bad HB1.out (by decide) rfl HB.out
     ·have d4 : (n : Int) - fr < ct := by omega
      clear hbd
      go_enter Tryz.func105, Tryz.ntmps105
      go_wp2_with fail
      refine HCK.out.mono ?_
      rintro e w1 ⟨rfl, hb1⟩
      have HB := Aside0.mk hb1
      clear hb1
      dsimp only
      go_wp2
      go_ret2
      exact bytesPost_bad HB1.out (by decide) rfl HB.out
  ·obtain ⟨f, rfl⟩ : ∃ f : Nat, fr = f := ⟨fr.toNat, by omega⟩
   obtain ⟨k0, rfl⟩ : ∃ k : Nat, ct = k := ⟨ct.toNat, by omega⟩
   have hg := hgood rfl hbd
   rw [Int.toNat_natCast, Int.toNat_natCast] at hg
   have HG := Aside0.mk hg
   clear hbad1 hgood hg
   have e1 : 1 ≤ k0 := by omega
   have e2 : f + k0 ≤ n := by omega
   have e3 : ¬ n < f := by omega
   clear hbd hf0 hf1 hc0 hc1
   obtain ⟨ad, rfl, _⟩ := C_int_at HBC.out 0 (by omega)
   have HCL := Aside0.mk (fun (W : World) (hW : Below w.heap.size w W) => clone_calls ad c b W (Kd.C_below HBC.out hW) (by omega))
   rw [hl] at hc HCL HCK ⊢
   have HLL := Aside0.mk hl
   clear hl
   go_enter Tryz.func105, Tryz.ntmps105
   go_wp2_with fail
   refine HCK.out.mono ?_
   rintro e w1 ⟨rfl, hb1⟩
   have HB := Aside0.mk hb1
   clear hb1
   dsimp only
   go_wp2_with fail
   refine (HCL.out w1 HB.out).mono ?_
   rintro e w2 ⟨v2, rfl, ho2, hb2⟩
   obtain ⟨g0, cc, rfl, hg0, hcc, hr2⟩ := ho2.row (by rw [HLL.out]; omega)
   rw [HLL.out] at hcc ⊢
   have HB2 := Aside0.mk (below_then HB.out HB.out.size hb2)
   have hgs : w.heap.size ≤ g0 := Nat.le_trans HB.out.size hg0
   have HR2 := Aside0.mk hr2
   clear hb2 ho2 hg0 hr2
   dsimp only
   go_wp2
   go_loopg [16] k0 (fun g i wr => ∃ (k : Nat) (out : List Int), k + g = k0 ∧ i = .int .i64 ((f + k : Nat) : Int) ∧ out.length = 256 ∧ Aside0 (allB out) ∧ Aside0 (turnGo on k0 f b = turnGo on g (f + k) out) ∧ Aside0 (Row wr .u8 g0 5 out) ∧ Aside0 (Below w.heap.size w wr))
   case atStart => exact ⟨0, b, by omega, rfl, HLL.out, HAB, ⟨rfl⟩, HR2, HB2⟩
   case round =>
    obtain ⟨k, out, hk, rfl, hol, HOA, HT, HR, HBr⟩ := hrel
    obtain ⟨i, hi⟩ : ∃ i, f + k = i := ⟨_, rfl⟩
    rw [hi] at HT ⊢
    cases gk with
    | zero =>
     have i1 : i = f + k0 := by omega
     have i2 : ¬ (i : Int) < (f : Int) + (k0 : Int) := by omega
     have ht : turnGo on k0 f b = some out := HT.out
     have hgd := HG.out
     rw [ht] at hgd
     have HGD := Aside0.mk (show r = (sealL out s, 0) from hgd)
     have HSC := Aside0.mk (seal_calls g0 252 cc s wr out HR.out (by omega) (by omega) (by omega) hs0 hs1)
     have hsl : (sealL out s).length = 256 := by unfold sealL; rw [layL_length]; exact hol
     have HSL := Aside0.mk hsl
     clear ht hgd hsl hi i1
     go_wp2_with fail
     refine HSC.out.mono ?_
     rintro e w3 ⟨rfl, hr3, hm3⟩
     dsimp only
     go_wp2
     go_ret2
     rw [HGD.out]
     exact ⟨_, rfl, below_mod HBr.out hm3 hgs, fun _ => ⟨g0, cc, by rw [HSL.out]; rfl, hgs, by rw [HSL.out]; exact hcc, hr3⟩, fun h => absurd rfl h⟩
    | succ g =>
     have hlt : i < n := by omega
     have hreads := HR.out.reads (by omega)
     have hst := set_calls (some ⟨g0, 0, none⟩) cc out (i : Int) wr hreads HOA.out (by omega) (by omega)
     rw [hol] at hst
     have htg : turnGo on (g + 1) i out = if (setI out (i : Int) == on) = true then none else turnGo on g (i + 1) (flipB out i) := rfl
     obtain ⟨t, ht⟩ : ∃ t, setI out (i : Int) = t := ⟨_, rfl⟩
     rw [ht] at hst htg
     have HST := Aside0.mk hst
     have HTG := Aside0.mk (HT.out.trans htg)
     have i2 : (i : Int) < (f : Int) + (k0 : Int) := by omega
     have HI := Aside0.mk hi
     clear hreads hst htg ht hi
     by_cases hto : t = on
     ·subst hto
      have hz : turnGo t k0 f b = none := HTG.out.trans (if_pos (by simp))
      have hgd := HG.out
      rw [hz] at hgd
      have HGD := Aside0.mk (show r = ([], 117) from hgd)
      clear hz hgd
      go_wp2_with fail
      refine HST.out.mono ?_
      rintro e w3 ⟨rfl, rfl⟩
      dsimp only
      go_wp2
      go_ret2
      exact bytesPost_bad (by rw [HGD.out]) (by decide) rfl HBr.out
     ·have htb : (t == on) = false := by simpa using hto
      have HTN := Aside0.mk (HTG.out.trans (if_neg (by rw [htb]; simp)))
      clear hto
      obtain ⟨q, hq⟩ : ∃ q, i / 8 = q := ⟨_, rfl⟩
      obtain ⟨rr, hrr⟩ : ∃ r, i % 8 = r := ⟨_, rfl⟩
      have hr8 : rr < 8 := by omega
      have hpw := pow_wrap rr hr8
      have HW := Aside0.mk (And.intro (w64 (x := (i : Int) / 8) (n := q) (by omega) (by omega)) (show (i : Int).tmod 8 = (rr : Int) by rw [Int.tmod_eq_emod_of_nonneg (by omega)]; omega))
      have i4 : q < 256 := by omega
      have i5 : (q : Int) < 256 := by omega
      have hfl : flipB out i = out.set q (Go.bits .xor .u8 (out.getD q 0) (2 ^ rr)) := by unfold flipB; rw [hq, hrr]
      have hc9 := HR.out.cell q (by omega)
      have hz9 := HR.out.free q
      have hset := HR.out.set q (Go.bits .xor .u8 (out.getD q 0) (2 ^ rr))
      rw [← hfl] at hset
      have HAF := Aside0.mk (allB_flip HOA.out i)
      have HLF := Aside0.mk ((flipB_length out i).trans hol)
      obtain ⟨x, hx⟩ : ∃ x, out.getD q 0 = x := ⟨_, rfl⟩
      rw [hx] at hc9 hset
      have HSET := Aside0.mk hset
      have HBS := Aside0.mk (below_set_new HBr.out hgs q (.int .u8 (Go.bits .xor .u8 x (2 ^ rr))))
      clear hset hfl hq hrr hx
      go_wp2_with fail
      refine HST.out.mono ?_
      rintro e w3 ⟨rfl, rfl⟩
      dsimp only
      go_wp2
      obtain ⟨hw1, hw3⟩ := HW.out
      refine wp_region_in [0, 0, 0, 0, 1, 0, 0, 0, 0, 0, 3] [10] (fun w' => w'.cell? ⟨g0, q, none⟩ = some (.int .u8 x) ∧ w'.frozen? ⟨g0, q, none⟩ = false) (by kernel_rfl) rfl (by kernel_rfl) (fun _ _ _ _ h => h) ⟨hc9, hz9⟩ ?_
      iterate 10 (first
       | (refine in_off0 (by rfl) ?_; simp only [Act.put, stA, stZ, stS, i64_w, i32_w])
       | (refine in_off1 (by rfl) ?_; simp only [Act.put, stA, stZ, stS, i64_w, i32_w])
       | (refine in_0 (v := ?_) (by rfl) rfl ?_ (a' := ?_) ?_ ?_; rotate_left; (intro w'; go_simp; with_reducible rfl); rotate_left; (simp only [Act.put, stA, stZ, stS, i64_w, i32_w]; rfl))
       | (refine in_1 (v := ?_) (by rfl) rfl ?_ (a' := ?_) ?_ ?_; rotate_left; (rintro w' hs; go_split_ands; go_simp; with_reducible rfl); rotate_left; (simp only [Act.put, stA, stZ, stS, i64_w, i32_w]; rfl)))
      refine in_3 (by rfl) (fun K hK => ?_)
      go_simp
      refine hK _ _ ?_
      clear hK K
      try simp only [Act.put, stA, stZ, stS, i64_w, i32_w]
      refine out_nil ?_
      clear hw1 hw3 hc9 hz9
      go_wp2
      go_roundg g
      case measure => omega
      case rel => exact ⟨k + 1, flipB out i, by omega, by have := HI.out; go_num, HLF.out, HAF, ⟨by rw [HTN.out, ← HI.out]; rfl⟩, ⟨HSET.out⟩, ⟨HBS.out.drew⟩⟩
 ·have HB0 := Aside0.mk (hbad0 hq0)
  have hqb : (q != 0) = true := by simpa using hq0
  have HQ0 := Aside0.mk hq0
  clear hbad0 hbad1 hgood hlen hq0
  go_enter Tryz.func105, Tryz.ntmps105
  go_wp2_with fail
  refine HCK.out.mono ?_
  rintro e w1 ⟨rfl, hb1⟩
  have HB := Aside0.mk hb1
  clear hb1
  dsimp only
  go_wp2
  go_ret2
  exact bytesPost_bad HB0.out HQ0.out rfl HB.out
end Go.Proofs.YtkmhilhfmfmckaaGreatDoor.Hand
namespace Go.Proofs.YtkmhilhfmfmckaaGreatDoor.Hand
set_option linter.unusedSimpArgs false
set_option linter.unusedVariables false
open Go.Maps (Keyed int_keyed keyOf_int_mk)
open Go.RowKit Go.Proofs.YtkmhilhfmfmckaaGreatDoorW.PrintWords Go.Proofs.YtkmhilhfmfmckaaGreatDoorW.PrintLast Go.Proofs.YtkmhilhfmfmckaaGreatDoorW.PrintMore
open Go.WideElems (Fit rd rg pl rd_key rd_val rg_of rd_mk)
section
variable {P : Program} {kt t e : TypeId} {w : World} {b N : Nat} {f : Int → Option Value}
def asIs (v : Value) : Option (DataW Value × List MemPlace) := some (.held v, [])
structure IMat (P : Program) (kt : TypeId) (N : Nat) (f : Int → Option Value) (es : Array MapEntry) (clock : Nat) : Prop where
 fit : Fit P kt asIs es clock
 keys : ∀ x ∈ es.toList, ∃ k : Nat, k < N ∧ x.key = .int .i64 k
 is : ∀ x v, f x = some v ↔ (Lit.int .i64 x, DataW.held v) ∈ es.toList.map (rg P kt asIs)
def IM (P : Program) (kt : TypeId) (w : World) (b N : Nat) (f : Int → Option Value) : Prop := ∃ es clock, w.heap[b]? = some (.map es clock) ∧ IMat P kt N f es clock
theorem nodup_bound : ∀ (N : Nat) (l : List Nat), l.Nodup → (∀ x ∈ l, x < N) → l.length ≤ N := by
 intro N
 induction N with
 | zero =>
  intro l _ h
  cases l with
  | nil => simp
  | cons x r => exact absurd (h x (by simp)) (by omega)
 | succ N ih =>
  intro l hn h
  have h1 := ih (l.erase N) (hn.erase N) (fun x hx => by
   have h2 := (hn.mem_erase_iff.1 hx)
   have := h x h2.2
   omega)
  rw [List.length_erase] at h1
  split at h1 <;> omega
theorem IMat.size {es : Array MapEntry} {clock : Nat} (h : IMat P kt N f es clock) : es.size ≤ N := by
 have hn : es.toList.Pairwise (fun x y => x.key ≠ y.key) := ((MapKept.stamped_iff es clock).1 h.fit.stamped).2.2
 have hl : (es.toList.map (fun x => match x.key with | .int _ n => n.toNat | _ => 0)).Nodup := by
  rw [List.Nodup, List.pairwise_map]
  refine List.Pairwise.imp_of_mem ?_ hn
  intro x y hx hy hne
  obtain ⟨i, _, ei⟩ := h.keys x hx
  obtain ⟨j, _, ej⟩ := h.keys y hy
  rw [ei, ej] at hne ⊢
  intro e0
  simp at e0
  exact hne (by rw [e0])
 have := nodup_bound N _ hl (fun z hz => by
  obtain ⟨x, hx, rfl⟩ := List.mem_map.1 hz
  obtain ⟨i, hi, ei⟩ := h.keys x hx
  rw [ei]
  simpa using hi)
 simpa using this
theorem IM.lt (h : IM P kt w b N f) : b < w.heap.size := by
 obtain ⟨es, c, hb, _⟩ := h
 exact lt_of_obj hb
theorem IM.kept {w1 : World} (h : IM P kt w b N f) (hk : w1.heap[b]? = w.heap[b]?) : IM P kt w1 b N f := by
 obtain ⟨es, c, hb, h⟩ := h
 exact ⟨es, c, hk.trans hb, h⟩
theorem IM.mod {w1 : World} {S : Nat → Prop} (h : IM P kt w b N f) (hm : Mod w w1 S) (hn : ¬ S b) : IM P kt w1 b N f := h.kept (hm.block b h.lt hn)
theorem IM.below {w1 : World} (h : IM P kt w b N f) (hm : Below w.heap.size w w1) : IM P kt w1 b N f := h.kept (hm.block b h.lt)
theorem IM.ext {g : Int → Option Value} (h : IM P kt w b N f) (hg : ∀ x, g x = f x) : IM P kt w b N g := by rwa [show g = f from funext hg]
theorem IM.made (w : World) : IM P kt (w.alloc (.map #[] 0)) w.heap.size N (fun _ => none) :=
 ⟨#[], 0, (MapKept.heap_alloc w _).1, ⟨⟨by simp, MapKept.stamped_empty 0, by simp⟩, by simp, by simp⟩⟩
theorem wf_nat {x : Nat} (hx : x < 9223372036854775808) : (Lit.int .i64 (x : Int)).wf = true := WalkArith.wf_i64 (by omega)
theorem IM.look {z : Value} (h : IM P kt w b N f) (hk : P.underlying kt = some (.int .i64)) (ht : P.underlying t = some (.map kt e)) (hz : (zeroValue e).run P w = .ok z w) {x : Nat} (hx : x < 9223372036854775808) :
  (Instr.lookup t (.map (some b)) (.int .i64 x) false).run P w = .ok ((f x).getD z) w := by
 obtain ⟨es, c, hb, h⟩ := h
 have hkey := keyOf_int_mk hk (wf_nat hx)
 rcases Maps.fit_look false (int_keyed hk) ht hz hb h.fit hkey with ⟨hrun, hno, _⟩ | ⟨e0, y, he, hek, hrun, hR, hat, _⟩
 ·have : f x = none := by
   cases hf : f x with
   | none => rfl
   | some v =>
    obtain ⟨y, hy, ey⟩ := List.mem_map.1 ((h.is x v).1 hf)
    obtain ⟨q, hq⟩ := h.fit.reads y hy
    rw [rg_of hq] at ey
    have h1 := rd_key hq
    rw [ey] at h1
    exact absurd ((int_keyed hk).inj h1 hkey) (hno y hy)
  rw [this]
  exact hrun
 ·obtain ⟨q, hq⟩ := h.fit.reads e0 he
  obtain ⟨zv, hzv, hd⟩ := rd_val hq
  have h1 := rd_key hq
  rw [hek, hkey] at h1
  have h2 : asIs e0.val = some (.held e0.val, []) := rfl
  have : f x = some e0.val := (h.is x e0.val).2 (List.mem_map.2 ⟨e0, he, by
   rw [rg_of hq]
   rw [h2] at hzv
   cases hzv
   exact Prod.ext (Option.some.inj h1).symm hd⟩)
  rw [this]
  exact hrun
theorem mod_setBlock {w : World} {b : Nat} {o o' : Obj} (hb : w.heap[b]? = some o) : Mod w (ChangeMaps.setBlock w b o') (· = b) := by
 refine ⟨rfl, rfl, rfl, by simp [ChangeMaps.setBlock], fun i hi hn => ?_⟩
 simp only [ChangeMaps.setBlock]
 rw [Array.getElem?_setIfInBounds_ne (fun e => hn e.symm)]
theorem IM.store {v : Value} (h : IM P kt w b N f) (hk : P.underlying kt = some (.int .i64)) (ht : P.underlying t = some (.map kt e)) (hN : N < 9223372036854775807) {x : Nat} (hx : x < N) :
  ∃ w', (Instr.mapUpdate t (.map (some b)) (.int .i64 x) v).run P w = .ok () w' ∧ IM P kt w' b N (fun y => if y = x then some v else f y) ∧ Mod w w' (· = b) ∧ w'.heap.size = w.heap.size := by
 obtain ⟨es, c, hb, h⟩ := h
 have hx63 : x < 9223372036854775808 := by omega
 have hkey := keyOf_int_mk hk (wf_nat hx63)
 have hsz := h.size
 obtain ⟨es', c', hrun, F', hput, _, _, hwho⟩ := Maps.fit_store (R' := asIs) (int_keyed hk) ht hb h.fit (by simp only [maxLen]; omega) (fun _ _ _ _ hz => hz) hkey (yv := (.held v, [])) rfl
 refine ⟨_, hrun, ⟨es', c', ChangeMaps.heap_setBlock_same hb _, F', ?_, ?_⟩, mod_setBlock hb, by simp [ChangeMaps.setBlock]⟩
 ·intro y hy
  rcases hwho y hy with ⟨h1, _⟩ | ⟨h1, _⟩
  ·exact h.keys y h1
  ·exact ⟨x, hx, h1⟩
 ·intro y u
  have hp : ∀ p, p ∈ es'.toList.map (rg P kt asIs) ↔ p ∈ ChangeMaps.putKey (Lit.int .i64 (x : Int)) (DataW.held v) ((es.toList.map (rg P kt asIs)).foldr DataW.insert []) := fun p => by
   rw [← hput]; exact ((WideShapes.sorted_perm _).mem_iff).symm
  rw [hp]
  unfold ChangeMaps.putKey
  rw [ChangeMaps.mem_insert_iff, List.mem_filter, (WideShapes.sorted_perm _).mem_iff, ← h.is]
  rw [show ChangeMaps.notKey (Lit.int .i64 (x : Int)) (Lit.int .i64 y, DataW.held u) = true ↔ (Lit.int .i64 y ≠ Lit.int .i64 (x : Int)) from Maps.notKey_iff ((int_keyed hk).key hkey)]
  by_cases e0 : y = x
  ·subst e0
   simp [eq_comm]
  ·simp [e0]
theorem IM.drop {ty : TypeId} (h : IM P kt w b N f) (hk : P.underlying kt = some (.int .i64)) (ht : P.underlying t = some (.map kt e)) {x : Nat} (hx : x < 9223372036854775808) :
  ∃ w', (Builtin.delete_ #[t, kt] ty #[.map (some b), .int .i64 x]).run P w = .ok (.tuple #[]) w' ∧ IM P kt w' b N (fun y => if y = x then none else f y) ∧ Mod w w' (· = b) ∧ w'.heap.size = w.heap.size := by
 obtain ⟨es, c, hb, h⟩ := h
 have hkey := keyOf_int_mk hk (wf_nat hx)
 obtain ⟨es', hrun, F', _, hput, _⟩ := Maps.fit_drop (ty := ty) (int_keyed hk) ht hb h.fit hkey
 have hp : ∀ p, p ∈ es'.toList.map (rg P kt asIs) ↔ p ∈ ChangeMaps.delKey (Lit.int .i64 (x : Int)) ((es.toList.map (rg P kt asIs)).foldr DataW.insert []) := fun p => by
  rw [← hput]; exact ((WideShapes.sorted_perm _).mem_iff).symm
 have hin : ∀ p, p ∈ es'.toList.map (rg P kt asIs) ↔ p ∈ es.toList.map (rg P kt asIs) ∧ p.1 ≠ Lit.int .i64 (x : Int) := fun p => by
  rw [hp]
  unfold ChangeMaps.delKey
  rw [List.mem_filter, (WideShapes.sorted_perm _).mem_iff, Maps.notKey_iff ((int_keyed hk).key hkey)]
 refine ⟨_, hrun, ⟨es', c, ChangeMaps.heap_setBlock_same hb _, F', ?_, ?_⟩, mod_setBlock hb, by simp [ChangeMaps.setBlock]⟩
 ·intro y hy
  obtain ⟨q, hq⟩ := F'.reads y hy
  have h1 := ((hin q).1 (by rw [← rg_of hq]; exact List.mem_map.2 ⟨y, hy, rfl⟩)).1
  obtain ⟨y0, hy0, e1⟩ := List.mem_map.1 h1
  obtain ⟨q0, hq0⟩ := h.fit.reads y0 hy0
  rw [rg_of hq0] at e1
  obtain ⟨i, hi, ei⟩ := h.keys y0 hy0
  refine ⟨i, hi, ?_⟩
  rw [← ei]
  exact (int_keyed hk).inj (rd_key hq) (by rw [← e1]; exact rd_key hq0)
 ·intro y u
  rw [hin, ← h.is]
  by_cases e0 : y = x
  ·subst e0
   simp
  ·simp [e0]
theorem IM.clear {ty : TypeId} (h : IM P kt w b N f) (ht : P.underlying t = some (.map kt e)) :
  ∃ w', (Builtin.clear_ #[t] ty #[.map (some b)]).run P w = .ok (.tuple #[]) w' ∧ IM P kt w' b N (fun _ => none) ∧ Mod w w' (· = b) ∧ w'.heap.size = w.heap.size := by
 obtain ⟨es, c, hb, h⟩ := h
 refine ⟨ChangeMaps.setBlock w b (.map #[] c), ?_, ⟨#[], c, ChangeMaps.heap_setBlock_same hb _, ⟨⟨by simp, MapKept.stamped_empty c, by simp⟩, by simp, by simp⟩⟩, mod_setBlock hb, by simp [ChangeMaps.setBlock]⟩
 simp [Builtin.clear_, run_underlying ht, MapKept.run_getObj_map hb, MapKept.run_setObj_map _ hb, Result.andThen, ChangeMaps.setBlock]
end
section
variable {P : Program} (w : World) {ops : Array Oper} {rest : List Oper} {o : Oper} {a : Act} {Q : Exit → Act → World → Prop}
variable {kt t e : TypeId} {b N : Nat} {f : Int → Option Value}
theorem im_look {z : Value} (hg : o.guard = none) (m x : Operand) (hop : o.op = Op.lookup t m x false) (hk : P.underlying kt = some (.int .i64)) (ht : P.underlying t = some (.map kt e)) (hz : (zeroValue e).run P w = .ok z w)
  (hm : a.eval m = .map (some b)) (h : IM P kt w b N f) (y : Nat) (hy : y < 9223372036854775808) (hx : a.eval x = .int .i64 y) (u : Value) (hu : (f y).getD z = u) (hK : wpList P ops Q rest (a.put o.dst u) w) : wpList P ops Q (o :: rest) a w := by
 subst hu
 refine wpList_plain hg fun K' hK' => ?_
 unfold Oper.wp
 simp [execOp, hop, hm, hx, h.look hk ht hz hy, Result.andThen]
 exact hK' _ _ hK
theorem im_store (hg : o.guard = none) (m x v : Operand) (hop : o.op = Op.mapUpdate t m x v) (hk : P.underlying kt = some (.int .i64)) (ht : P.underlying t = some (.map kt e)) (hN : N < 9223372036854775807)
  (hm : a.eval m = .map (some b)) (h : IM P kt w b N f) (y : Nat) (hy : y < N) (hx : a.eval x = .int .i64 y) (u : Value) (hv : a.eval v = u)
  (hK : ∀ w', IM P kt w' b N (fun i => if i = y then some u else f i) → Mod w w' (· = b) → w'.heap.size = w.heap.size → wpList P ops Q rest (a.put o.dst undef) w') : wpList P ops Q (o :: rest) a w := by
 refine wpList_plain hg fun K' hK' => ?_
 obtain ⟨w', hrun, h1, h2, h3⟩ := h.store (v := u) hk ht hN hy
 unfold Oper.wp
 simp [execOp, hop, hm, hx, hv, hrun, Result.andThen]
 exact hK' _ _ (hK w' h1 h2 h3)
theorem wp_im_store {K : Act → World → Prop} (m x v : Operand) (hop : o.op = Op.mapUpdate t m x v) (hk : P.underlying kt = some (.int .i64)) (ht : P.underlying t = some (.map kt e)) (hN : N < 9223372036854775807)
  (hm : a.eval m = .map (some b)) (h : IM P kt w b N f) (y : Nat) (hy : y < N) (hx : a.eval x = .int .i64 y) (u : Value) (hv : a.eval v = u)
  (hK : ∀ w', IM P kt w' b N (fun i => if i = y then some u else f i) → Mod w w' (· = b) → w'.heap.size = w.heap.size → K (a.put o.dst undef) w') : Oper.wp P o a w K Q := by
 obtain ⟨w', hrun, h1, h2, h3⟩ := h.store (v := u) hk ht hN hy
 unfold Oper.wp
 simp [execOp, hop, hm, hx, hv, hrun, Result.andThen]
 exact hK w' h1 h2 h3
theorem im_drop (hg : o.guard = none) (m x : Operand) (hop : o.op = Op.call { callee := Callee.builtin Builtin.delete, args := #[m, x], argTypes := #[t, kt] }) (hk : P.underlying kt = some (.int .i64)) (ht : P.underlying t = some (.map kt e))
  (hm : a.eval m = .map (some b)) (h : IM P kt w b N f) (y : Nat) (hy : y < 9223372036854775808) (hx : a.eval x = .int .i64 y)
  (hK : ∀ w', IM P kt w' b N (fun i => if i = y then none else f i) → Mod w w' (· = b) → w'.heap.size = w.heap.size → wpList P ops Q rest (a.put o.dst (.tuple #[])) w') : wpList P ops Q (o :: rest) a w := by
 refine wpList_plain hg fun K' hK' => ?_
 obtain ⟨w', hrun, h1, h2, h3⟩ := h.drop (ty := o.type) hk ht hy
 unfold Oper.wp
 simp [execOp, hop, resolve, invoke, builtin, hm, hx, hrun, Result.andThen]
 exact hK' _ _ (hK w' h1 h2 h3)
theorem wp_im_drop {K : Act → World → Prop} (m x : Operand) (hop : o.op = Op.call { callee := Callee.builtin Builtin.delete, args := #[m, x], argTypes := #[t, kt] }) (hk : P.underlying kt = some (.int .i64)) (ht : P.underlying t = some (.map kt e))
  (hm : a.eval m = .map (some b)) (h : IM P kt w b N f) (y : Nat) (hy : y < 9223372036854775808) (hx : a.eval x = .int .i64 y)
  (hK : ∀ w', IM P kt w' b N (fun i => if i = y then none else f i) → Mod w w' (· = b) → w'.heap.size = w.heap.size → K (a.put o.dst (.tuple #[])) w') : Oper.wp P o a w K Q := by
 obtain ⟨w', hrun, h1, h2, h3⟩ := h.drop (ty := o.type) hk ht hy
 unfold Oper.wp
 simp [execOp, hop, resolve, invoke, builtin, hm, hx, hrun, Result.andThen]
 exact hK w' h1 h2 h3
theorem im_clear (hg : o.guard = none) (m : Operand) (hop : o.op = Op.call { callee := Callee.builtin Builtin.clear, args := #[m], argTypes := #[t] }) (ht : P.underlying t = some (.map kt e))
  (hm : a.eval m = .map (some b)) (h : IM P kt w b N f)
  (hK : ∀ w', IM P kt w' b N (fun _ => none) → Mod w w' (· = b) → w'.heap.size = w.heap.size → wpList P ops Q rest (a.put o.dst (.tuple #[])) w') : wpList P ops Q (o :: rest) a w := by
 refine wpList_plain hg fun K' hK' => ?_
 obtain ⟨w', hrun, h1, h2, h3⟩ := h.clear (ty := o.type) ht
 unfold Oper.wp
 simp [execOp, hop, resolve, invoke, builtin, hm, hrun, Result.andThen]
 exact hK' _ _ (hK w' h1 h2 h3)
end
theorem wp_append_at {P : Program} (w : World) {o : Oper} {a : Act} {K : Act → World → Prop} {Q : Exit → Act → World → Prop} (s x : Operand) (t : TypeId) (ho : o.op = .call { callee := .builtin .append, args := #[s, x], argTypes := #[t, t] })
  (base : Nat) (e : TypeId) (i : TypeInfo) (z : Value) (size bytes : Nat) (ht : P.underlying t = some (.slice e)) (hi : P.info? e = some i) (hz : i.zero = some z) (hsize : i.size = size) (hby : i.bytes = bytes) (hzs : z.cells.size = size) (hsz : 0 < size)
  (v : Value) (n : Nat) (xs : List Value) (hs : a.eval s = v) (hown : w.ownsRow base e size v n xs) (ad : Addr) (m c : Nat) (news : List Value) (hx : a.eval x = .slice (some ad) m c) (hl : news.length = m * size) (hnews : ∀ j u, news[j]? = some u → w.cell? (ad.add j) = some u) (h1 : ∀ u ∈ news, u.oneCell' = true)
  (h63 : n + m ≤ maxLen) (hbytes : (n + m) * bytes ≤ 140737488355328) (hbase : base ≤ w.heap.size)
  (hK : ∀ v' w', w'.ownsRow base e size v' (n + m) (xs ++ news) → w.grownBy w' v.ownBlock → (v'.ownBlock = v.ownBlock ∨ v'.ownBlock = some w.heap.size) → K (a.put o.dst v') w') : Oper.wp P o a w K Q := by
 obtain ⟨v', w', hr, h2, h3, h4, h5⟩ := run_append_own_at (P := P) w base t o.type e i z size bytes ht hi hz hsize hby hzs hsz v n xs hown ad m c news hl hnews h1 h63 hbytes hbase
 unfold Oper.wp execOp
 simp only [ho, resolve, invoke, builtin, Sem.run_bind, Sem.run_pure, Result.andThen_ok, List.map_toArray, List.map_cons, List.map_nil, hs, hx, hr]
 exact hK _ _ h2 h3 h5
end Go.Proofs.YtkmhilhfmfmckaaGreatDoor.Hand
namespace Go.Proofs.YtkmhilhfmfmckaaGreatDoor.Hand
set_option linter.unusedSimpArgs false
set_option linter.unusedVariables false
open Go.Shelf Go.RowKit Go.Proofs.YtkmhilhfmfmckaaGreatDoorW.PrintWords Go.Proofs.YtkmhilhfmfmckaaGreatDoorW.PrintLast Go.Proofs.YtkmhilhfmfmckaaGreatDoorW.PrintMore
def Strc (w : World) (p : Nat) (t : TypeId) (l : List Value) : Prop := w.heap[p]? = some (.cells l.toArray t (0, 0))
theorem Strc.lt {w : World} {p : Nat} {t : TypeId} {l : List Value} (h : Strc w p t l) : p < w.heap.size := lt_of_obj h
theorem Strc.cell {w : World} {p : Nat} {t : TypeId} {l : List Value} (h : Strc w p t l) (j : Nat) (v : Value) (hj : l[j]? = some v) : w.cell? ⟨p, j, none⟩ = some v := by
 rw [cell_of_row w p j _ t _ h]
 simpa using hj
theorem Strc.free {w : World} {p : Nat} {t : TypeId} {l : List Value} (h : Strc w p t l) (j : Nat) : w.frozen? ⟨p, j, none⟩ = false := by
 unfold Strc at h
 simp [World.frozen?, h]
theorem Strc.kept {w w1 : World} {p : Nat} {t : TypeId} {l : List Value} (h : Strc w p t l) (hk : w1.heap[p]? = w.heap[p]?) : Strc w1 p t l := hk.trans h
theorem Strc.mod {w w1 : World} {p : Nat} {t : TypeId} {l : List Value} {S : Nat → Prop} (h : Strc w p t l) (hm : Mod w w1 S) (hn : ¬ S p) : Strc w1 p t l := hm.obj h hn
theorem Strc.below {w w1 : World} {p : Nat} {t : TypeId} {l : List Value} (h : Strc w p t l) (hm : Below w.heap.size w w1) : Strc w1 p t l := (hm.block p h.lt).trans h
theorem Strc.set {w : World} {p : Nat} {t : TypeId} {l : List Value} (h : Strc w p t l) (j : Nat) (v : Value) : Strc (w.setCell ⟨p, j, none⟩ v) p t (l.set j v) := by
 unfold Strc at h ⊢
 unfold World.setCell
 simp only [Array.getElem?_modify, if_true, h, Option.map_some]
 simp
theorem Strc.inj {w : World} {p : Nat} {t u : TypeId} {l m : List Value} (h : Strc w p t l) (k : Strc w p u m) : t = u ∧ l = m := by
 have := (h.symm.trans k : some (Obj.cells l.toArray t (0, 0)) = some (Obj.cells m.toArray u (0, 0)))
 simp at this
 exact ⟨this.2, this.1⟩
theorem Strc.not_row {w : World} {p : Nat} {t : TypeId} {l : List Value} (h : Strc w p t l) {k : IntKind} {e : TypeId} {m : List Int} {g : Nat} (hr : Row w k g e m) (hte : t ≠ e) : g ≠ p := by
 rintro rfl
 obtain ⟨r, hr⟩ := hr
 have := (hr.symm.trans h)
 simp at this
 exact hte this.2.symm
theorem Strc.not_map {P : Program} {kt : TypeId} {N : Nat} {f : Int → Option Value} {b : Nat} {w : World} {p : Nat} {t : TypeId} {l : List Value} (h : Strc w p t l) (hm : IM P kt w b N f) : b ≠ p := by
 rintro rfl
 obtain ⟨es, c, hb, _⟩ := hm
 have := hb.symm.trans h
 simp at this
theorem Row.not_map {P : Program} {kt : TypeId} {N : Nat} {f : Int → Option Value} {b : Nat} {w : World} {g : Nat} {k : IntKind} {e : TypeId} {m : List Int} (hr : Row w k g e m) (hm : IM P kt w b N f) : b ≠ g := by
 rintro rfl
 obtain ⟨es, c, hb, _⟩ := hm
 obtain ⟨r, hr⟩ := hr
 have := hb.symm.trans hr
 simp at this
theorem own_not_strc {w : World} {base e size n : Nat} {v : Value} {cs : List Value} (h : w.ownsRow base e size v n cs) {p : Nat} {t : TypeId} {l : List Value} (hs : Strc w p t l) (hte : t ≠ e) : v.ownBlock ≠ some p := by
 rcases h.2 with ⟨rfl, _⟩ | ⟨g, cap, cur, rfl, _, hgb, _⟩
 ·simp [Value.ownBlock]
 ·intro e'
  obtain rfl : g = p := by simpa [Value.ownBlock] using e'
  have := hgb.symm.trans hs
  simp at this
  exact hte this.2.symm
theorem own_not_row {w : World} {base e size n : Nat} {v : Value} {cs : List Value} (h : w.ownsRow base e size v n cs) {g : Nat} {k : IntKind} {t : TypeId} {l : List Int} (hs : Row w k g t l) (hte : t ≠ e) : v.ownBlock ≠ some g := by
 rcases h.2 with ⟨rfl, _⟩ | ⟨g', cap, cur, rfl, _, hgb, _⟩
 ·simp [Value.ownBlock]
 ·intro e'
  obtain rfl : g' = g := by simpa [Value.ownBlock] using e'
  obtain ⟨r, hr⟩ := hs
  have := hgb.symm.trans hr
  simp at this
  exact hte this.2.symm
theorem own_not_map {P : Program} {kt : TypeId} {N : Nat} {f : Int → Option Value} {b : Nat} {w : World} {base e size n : Nat} {v : Value} {cs : List Value} (h : w.ownsRow base e size v n cs) (hm : IM P kt w b N f) : v.ownBlock ≠ some b := by
 rcases h.2 with ⟨rfl, _⟩ | ⟨g', cap, cur, rfl, _, hgb, _⟩
 ·simp [Value.ownBlock]
 ·intro e'
  obtain rfl : g' = b := by simpa [Value.ownBlock] using e'
  obtain ⟨es, c, hb, _⟩ := hm
  have := hgb.symm.trans hb
  simp at this
theorem mod_grown {w w1 : World} {r : Option Nat} (h : w.grownBy w1 r) : Mod w w1 (fun k => r = some k) :=
 ⟨h.os, h.tape, h.output, h.size, fun k hk hn => h.block k hk (fun e => hn e.symm)⟩
theorem own_mod {w w1 : World} {S : Nat → Prop} {base e size n : Nat} {v : Value} {cs : List Value} (h : w.ownsRow base e size v n cs) (hm : Mod w w1 S) (hn : ∀ g, v.ownBlock = some g → ¬ S g) : w1.ownsRow base e size v n cs := by
 refine ⟨h.1, ?_⟩
 rcases h.2 with h0 | ⟨g, cap, cur, rfl, hb, hh, hr⟩
 ·exact .inl h0
 ·exact .inr ⟨g, cap, cur, rfl, hb, hm.obj hh (hn g rfl), hr⟩
theorem own_succ {W : World} {base e size n : Nat} {v : Value} {xs : List Value} (h : W.ownsRow base e size v (n + 1) xs) : ∃ g cap, v = .slice (some ⟨g, 0, none⟩) (n + 1) cap := by
 rcases h.2 with ⟨_, h0⟩ | ⟨g, cap, _, rfl, _⟩
 ·omega
 ·exact ⟨g, cap, rfl⟩
theorem own_any {w : World} {base base' e size n : Nat} {v : Value} {cs : List Value} (h : w.ownsRow base e size v n cs) (hb : ∀ g, v.ownBlock = some g → base' ≤ g) : w.ownsRow base' e size v n cs := by
 refine ⟨h.1, ?_⟩
 rcases h.2 with h0 | ⟨g, cap, cur, rfl, _, hr⟩
 ·exact .inl h0
 ·exact .inr ⟨g, cap, cur, rfl, hb g rfl, hr⟩
theorem add_next (ad : Addr) (j i : Nat) (h : 0 < i) : ad.add (j + i) = ⟨(ad.add j).block, (ad.add j).off + i, none⟩ := by
 unfold Addr.add
 rw [if_neg (by omega)]
 by_cases e : j = 0
 ·subst e
  simp
 ·rw [if_neg e]
  simp [Nat.add_assoc]
theorem own_shape {w : World} {base e size n : Nat} {v : Value} {cs : List Value} (h : w.ownsRow base e size v n cs) : ∃ A c, v = .slice A n c ∧ n ≤ c ∧ (∀ g, v.ownBlock = some g → A = some ⟨g, 0, none⟩) ∧ (0 < n → ∃ ad, A = some ad) ∧ ∀ ad, A = some ad → ∀ i u, cs[i]? = some u → w.cell? (ad.add i) = some u := by
 have h0 := h
 rcases h.2 with ⟨rfl, hz⟩ | ⟨g, cap, cur, rfl, hb, hh, h1, h2, h3, h4⟩
 ·exact ⟨none, 0, by rw [hz], by omega, by simp [Value.ownBlock], by omega, by simp⟩
 ·exact ⟨_, cap, rfl, h1, by simp [Value.ownBlock], fun _ => ⟨_, rfl⟩, fun ad e i u hi => by cases e; exact h0.cells (g := g) rfl i u hi⟩
def HB (w : World) (D : Nat → Prop) (v : Value) (l : List Int) : Prop := ∃ g c, v = .slice (some ⟨g, 0, none⟩) 256 c ∧ D g ∧ 256 ≤ c ∧ Row w .u8 g 5 l ∧ l.length = 256 ∧ allB l
theorem HB.kept {w w1 : World} {D : Nat → Prop} {v : Value} {l : List Int} (h : HB w D v l) (hk : ∀ g, D g → Row w .u8 g 5 l → w1.heap[g]? = w.heap[g]?) : HB w1 D v l := by
 obtain ⟨g, c, rfl, hd, hc, hr, h1, h2⟩ := h
 exact ⟨g, c, rfl, hd, hc, hr.kept (hk g hd hr), h1, h2⟩
theorem HB.mono {w : World} {D D' : Nat → Prop} {v : Value} {l : List Int} (h : HB w D v l) (hd : ∀ k, D k → D' k) : HB w D' v l := by
 obtain ⟨g, c, rfl, hdg, hr⟩ := h
 exact ⟨g, c, rfl, hd g hdg, hr⟩
def zeros : List Int := List.replicate 256 0
theorem zeros_length : zeros.length = 256 := by unfold zeros; rw [List.length_replicate]
theorem zeros_allB : allB zeros := fun x hx => by rw [List.eq_of_mem_replicate hx]; omega
def Blk (w : World) (D : Nat → Prop) : Option Value → List Int → Prop
 | none, l => l = zeros
 | some v, l => HB w D v l
theorem Blk.kept {w w1 : World} {D : Nat → Prop} {v : Option Value} {l : List Int} (h : Blk w D v l) (hk : ∀ g, D g → Row w .u8 g 5 l → w1.heap[g]? = w.heap[g]?) : Blk w1 D v l := by
 cases v with
 | none => exact h
 | some v => exact HB.kept h hk
theorem Blk.mono {w : World} {D D' : Nat → Prop} {v : Option Value} {l : List Int} (h : Blk w D v l) (hd : ∀ k, D k → D' k) : Blk w D' v l := by
 cases v with
 | none => exact h
 | some v => exact HB.mono h hd
theorem Blk.ok {w : World} {D : Nat → Prop} {v : Option Value} {l : List Int} (h : Blk w D v l) : l.length = 256 ∧ allB l := by
 cases v with
 | none => rw [show l = zeros from h]; exact ⟨zeros_length, zeros_allB⟩
 | some v => obtain ⟨g, c, _, _, _, _, h1, h2⟩ := h; exact ⟨h1, h2⟩
def putAll (f : Int → Option Value) (l : List (Nat × Value)) : Int → Option Value := l.foldl (fun m q => fun y => if y = (q.1 : Int) then some q.2 else m y) f
theorem putAll_snoc (f : Int → Option Value) (l : List (Nat × Value)) (q : Nat × Value) : putAll f (l ++ [q]) = fun y => if y = (q.1 : Int) then some q.2 else putAll f l y := by
 unfold putAll
 rw [List.foldl_append]
 rfl
theorem putAll_or (l : List (Nat × Value)) : ∀ (f : Int → Option Value) (y : Int), putAll f l y = (putAll (fun _ => none) l y).or (f y) := by
 induction l with
 | nil => intro f y; rfl
 | cons q l ih =>
  intro f y
  have h1 : putAll f (q :: l) = putAll (fun y => if y = (q.1 : Int) then some q.2 else f y) l := rfl
  have h2 : putAll (fun _ => none) (q :: l) = putAll (fun y => if y = (q.1 : Int) then some q.2 else none) l := rfl
  rw [h1, h2, ih, ih (fun y => if y = (q.1 : Int) then some q.2 else none), Option.or_assoc]
  congr 1
  split <;> rfl
def wcells (q : Nat × Value) : List Value := [.int .i64 q.1, q.2]
theorem wcells_at (l : List (Nat × Value)) (j : Nat) (q : Nat × Value) (hj : l[j]? = some q) : (l.flatMap wcells)[j * 2]? = some (.int .i64 q.1) ∧ (l.flatMap wcells)[j * 2 + 1]? = some q.2 := by
 induction l generalizing j with
 | nil => simp at hj
 | cons x l ih =>
  rw [List.flatMap_cons]
  cases j with
  | zero =>
   simp at hj
   subst hj
   exact ⟨rfl, rfl⟩
  | succ j =>
   have h := ih j (by simpa using hj)
   have e1 : (j + 1) * 2 = (wcells x).length + j * 2 := by simp [wcells]; omega
   have e2 : (j + 1) * 2 + 1 = (wcells x).length + (j * 2 + 1) := by simp [wcells]; omega
   rw [e2, e1, List.getElem?_append_right (by omega), List.getElem?_append_right (by omega)]
   simpa using h
structure DiskAt (w : World) (D : Nat → Prop) (p : Nat) (L : List (List Int)) (bd bn : Nat) (pv : Value) (ops : Int) (fd fn : Int → Option Value) (pend : List (Nat × Value)) (m : Nat) : Prop where
 st : Strc w p 168 [.int .i64 L.length, .map (some bd), pv, .map (some bn), .int .i64 ops]
 dp : D p
 dd : D bd
 dn : D bn
 ne : bd ≠ bn
 md : IM Tryz.prog 3 w bd 4096 fd
 mn : IM Tryz.prog 3 w bn 4096 fn
 row : w.ownsRow 0 207 2 pv pend.length (pend.flatMap wcells)
 drow : ∀ g, pv.ownBlock = some g → D g
 lo : 128 ≤ L.length
 hi : L.length ≤ 4096
 new : ∀ y, fn y = putAll (fun _ => none) pend y
 cont : ∀ n : Nat, n < L.length → Blk w D ((fn n).or (fd n)) (L.getD n [])
 short : pend.length ≤ m
 most : m ≤ 1000000
 pok : ∀ q ∈ pend, q.1 < L.length ∧ ∃ A n c, q.2 = .slice A n c
def DiskIs (w : World) (D : Nat → Prop) (p : Nat) (L : List (List Int)) (m : Nat) : Prop := ∃ bd bn pv ops fd fn pend, DiskAt w D p L bd bn pv ops fd fn pend m
theorem DiskIs.mod {w w1 : World} {D S : Nat → Prop} {p : Nat} {L : List (List Int)} {m : Nat} (h : DiskIs w D p L m) (hm : Mod w w1 S) (hn : ∀ k, k < w.heap.size → D k → ¬ S k) : DiskIs w1 D p L m := by
 obtain ⟨bd, bn, pv, ops, fd, fn, pend, h⟩ := h
 exact ⟨bd, bn, pv, ops, fd, fn, pend, ⟨h.st.mod hm (hn _ h.st.lt h.dp), h.dp, h.dd, h.dn, h.ne, h.md.mod hm (hn _ h.md.lt h.dd), h.mn.mod hm (hn _ h.mn.lt h.dn),
  own_mod h.row hm (fun g hg => hn g (own_lt h.row g hg) (h.drow g hg)), h.drow, h.lo, h.hi, h.new, fun n hl => (h.cont n hl).kept (fun g hd hr => hm.block g hr.lt (hn g hr.lt hd)), h.short, h.most, h.pok⟩⟩
theorem DiskIs.below {w w1 : World} {D : Nat → Prop} {p : Nat} {L : List (List Int)} {m : Nat} (h : DiskIs w D p L m) (hm : Below w.heap.size w w1) : DiskIs w1 D p L m := h.mod (Mod.of_below hm (fun _ => False)) (fun _ _ _ => id)
theorem DiskIs.ok {w : World} {D : Nat → Prop} {p : Nat} {L : List (List Int)} {m : Nat} (h : DiskIs w D p L m) (n : Nat) (hn : n < L.length) : (L.getD n []).length = 256 ∧ allB (L.getD n []) := by
 obtain ⟨bd, bn, pv, ops, fd, fn, pend, h⟩ := h
 exact (h.cont n hn).ok
theorem dblocks_calls {w : World} {p : Nat} {n : Int} (h : w.cell? ⟨p, 0, none⟩ = some (.int .i64 n)) :
  Calls Tryz.prog 102 #[.pointer (some ⟨p, 0, none⟩)] w fun e w' => e = .returned (.int .i64 n) ∧ w = w' := by
 go_enter Tryz.func102, Tryz.ntmps102
 go_wp2
 go_ret
 exact ⟨rfl, rfl⟩
theorem dhas_calls {w : World} {p : Nat} {n x : Int} (h : w.cell? ⟨p, 0, none⟩ = some (.int .i64 n)) :
  Calls Tryz.prog 124 #[.pointer (some ⟨p, 0, none⟩), .int .i64 x] w fun e w' => e = .returned (.bool (decide (0 ≤ x ∧ x < n))) ∧ w = w' := by
 by_cases h0 : 0 ≤ x
 ·have e1 : decide (0 ≤ x ∧ x < n) = decide (x < n) := by simp [h0]
  rw [e1]
  go_enter Tryz.func124, Tryz.ntmps124
  go_wp2_with (go_at_call 102; refine (dblocks_calls h).mono ?_; rintro e w' ⟨rfl, rfl⟩)
  go_ret
  exact ⟨rfl, rfl⟩
 ·have e1 : decide (0 ≤ x ∧ x < n) = false := by simp [h0]
  rw [e1]
  go_enter Tryz.func124, Tryz.ntmps124
  go_wp2
  go_ret
  exact ⟨rfl, rfl⟩
theorem attOk_not {l : List Att} {k : Nat} (hk : k < l.length) (h : ¬ attOk l k) (s : Int) : xpackI l s = ([], 22) := by
 unfold xpackI
 rw [if_neg (fun hh => h (hh k hk))]
set_option maxHeartbeats 16000000 in
set_option maxRecDepth 100000 in
theorem xpack_calls (A : Option Addr) (c : Nat) (s : Int) (l : List Att) (w : World) (hl : Atts w A l) (hc : l.length ≤ c) (hn : l.length ≤ 2000000) (hs0 : 0 ≤ s) (hs1 : s < 4294967296) :
  Calls Tryz.prog 10 #[.slice A l.length c, .int .u32 s] w (BytesPost (xpackI l s) w) := by
 have HL := Aside0.mk hl
 clear hl
 obtain ⟨n, hnn⟩ : ∃ n, l.length = n := ⟨_, rfl⟩
 have HN := Aside0.mk hnn
 rw [hnn] at hn hc
 obtain ⟨r, hr⟩ : ∃ r, xpackI l s = r := ⟨_, rfl⟩
 have hbad : ∀ k, k < n → ¬ attOk l k → r = ([], 22) := fun k hk h => by rw [← hr]; exact attOk_not (by rw [hnn]; exact hk) h s
 have hgood : (∀ j, j < n → attOk l j) → r = if 250 < attN l then ([], 28) else (sealL (pad (attsB l)) s, 0) := fun h => by
  have hall : attsOk l := fun j hj => h j (by rw [← hnn]; exact hj)
  rw [← hr]
  unfold xpackI
  rw [if_pos hall]
 have HBAD := Aside0.mk hbad
 have HGOOD := Aside0.mk hgood
 have HBN := Aside0.mk (show attsB l = [3, (n : Int) % 256] ++ l.flatMap attB by unfold attsB; rw [hnn])
 rw [hr, hnn]
 clear hr hbad hgood hnn
 go_enter Tryz.func10, Tryz.ntmps10
 go_upto_region 2 with fail
 have hr1 : RowX (w.alloc (.cells #[.int .u8 3, .int .u8 ((n : Int) % 256)] 5)) .u8 w.heap.size 5 [3, (n : Int) % 256] := alloc_last _ _
 have ho1 := own_of_row (n := 2) (base := w.heap.size) hr1 rfl (Nat.le_refl _) (by simp [maxLen])
 have HO1 := Aside0.mk ho1
 have HB1 := Aside0.mk (below_alloc (Below.refl w.heap.size w) (.cells #[.int .u8 3, .int .u8 ((n : Int) % 256)] 5))
 clear hr1 ho1
 generalize w.alloc (.cells #[.int .u8 3, .int .u8 ((n : Int) % 256)] 5) = w2 at HO1 HB1 ⊢
 generalize hg1 : w.heap.size = g1 at HO1 ⊢
 have HG1 := Aside0.mk hg1
 clear hg1
 have hmk : ∀ w : World, (Instr.makeSlice 23 (.int .i64 256) (.int .i64 256)).run Tryz.prog w = .ok (.slice (some ⟨w.heap.size, 0, none⟩) 256 256) (noughts w) := make256
 have HMKK := Aside0.mk hmk
 clear hmk
 go_wp2
 go_loopg [6, 7, 17] n (fun g v6 v7 v17 wr => ∃ k : Nat, k + g = n ∧ v7 = .int .i64 (attN (l.take k) : Nat) ∧ v17 = .int .i64 k ∧ Aside0 (Own wr g1 5 .u8 v6 ([3, (n : Int) % 256] ++ (l.take k).flatMap attB)) ∧ Aside0 (Below w.heap.size w wr) ∧ Aside0 (∀ j, j < k → attOk l j))
 case atStart => exact ⟨0, by omega, by simp [attN], rfl, HO1, HB1, ⟨fun j hj => by omega⟩⟩
 case round =>
  obtain ⟨k, hk, rfl, rfl, HO, HB, HK⟩ := hrel
  cases gk with
  | zero =>
   have hkn : k = n := by omega
   subst hkn
   have htk : l.take k = l := by rw [← HN.out, List.take_length]
   rw [htk] at HO ⊢
   have hgd := HGOOD.out HK.out
   have hle := attN_le l k (by rw [HN.out]; exact Nat.le_refl _) (fun j hj => HK.out j hj)
   rw [htk] at hle
   have hlen : ([3, (k : Int) % 256] ++ l.flatMap attB).length = 2 + attN l := by
    unfold attN
    simp only [List.length_append, List.length_cons, List.length_nil]
   obtain ⟨y, hy⟩ : ∃ y, attN l = y := ⟨_, rfl⟩
   rw [hy] at hgd hle hlen ⊢
   have HGD := Aside0.mk hgd
   clear hgd htk hy
   by_cases h250 : 250 < y
   ·have hr := HGD.out
    rw [if_pos h250] at hr
    have HR := Aside0.mk hr
    clear hr
    go_wp2
    go_ret2
    exact bytesPost_bad (by rw [HR.out]) (by decide) rfl HB.out
   ·have hr := HGD.out
    rw [if_neg h250] at hr
    have HR := Aside0.mk hr
    obtain ⟨q, hq⟩ : ∃ q, [3, (k : Int) % 256] ++ l.flatMap attB = q := ⟨_, rfl⟩
    have hpk : attsB l = q := HBN.out.trans hq
    rw [hq] at hlen HO
    obtain ⟨A', c', rfl, hcc, hCC⟩ := HO.out.reads
    have HQ := Aside0.mk hpk
    have hq256 : q.length ≤ 256 := by omega
    have hmk := HMKK.out
    have HNN := Aside0.mk (show Row (noughts wr) .u8 wr.heap.size 5 (List.replicate 256 0) from row_last _ _ _ _)
    have HBB := Aside0.mk (show Below wr.heap.size wr (noughts wr) from below_alloc (Below.refl _ _) _)
    obtain ⟨w5, hcp, hr5, hm5⟩ := copy_run 3 wr.heap.size 0 256 256 q.length c' A' (noughts wr) (List.replicate 256 0) q HNN.out (Kd.C_below hCC HBB.out) (by rw [List.length_replicate, Nat.zero_add]; exact Nat.min_le_right _ _)
    have e1 : List.take 0 (List.replicate 256 (0 : Int)) ++ List.take (Nat.min q.length 256) q ++ List.drop (0 + Nat.min q.length 256) (List.replicate 256 0) = pad q := by
     rw [show Nat.min q.length 256 = q.length from Nat.min_eq_left hq256]
     exact pad_eq q 256
    rw [e1] at hr5
    have hpl := pad_length q hq256
    have hsc := seal_calls wr.heap.size 252 256 s w5 (pad q) hr5 (by omega) (by omega) (by omega) hs0 hs1
    have HSC := Aside0.mk hsc
    have hgw : g1 ≤ wr.heap.size := by have := HB.out.size; have := HG1.out; omega
    have hb5 : Below w.heap.size w w5 := below_mod (below_then HB.out HB.out.size HBB.out) hm5 HB.out.size
    have HGW := Aside0.mk HB.out.size
    have HB5 := Aside0.mk hb5
    have HSL := Aside0.mk (show (sealL (pad q) s).length = 256 by unfold sealL; rw [layL_length]; exact hpl)
    clear hr hq hpk hCC hcc e1 hr5 hm5 hpl hsc hb5 hlen hq256
    go_wp2_with fail
    refine HSC.out.mono ?_
    rintro e w6 ⟨rfl, hr6, hm6⟩
    have HR6 := Aside0.mk hr6
    have HM6 := Aside0.mk hm6
    clear hr6 hm6
    dsimp only
    go_wp2
    go_ret2
    rw [HR.out, HQ.out]
    exact ⟨_, rfl, below_mod HB5.out HM6.out HGW.out, fun _ => ⟨wr.heap.size, 256, by rw [HSL.out]; rfl, by rw [HG1.out]; exact hgw, by rw [HSL.out]; omega, HR6.out⟩, fun h => absurd rfl h⟩
  | succ g =>
   have hkn : k < n := by omega
   obtain ⟨ad, Av, cv, rfl, h1, h2, h3, h4, h5⟩ := HL.out.cells k (by rw [HN.out]; exact hkn)
   replace h1 := pw_cell_below HB.out h1
   replace h2 := pw_cell_below HB.out h2
   have hok : attOk l k ↔ namedB (attAt l k).name = true ∧ ¬ 64 < (attAt l k).val.length ∧ (0 < k → leS (attAt l k).name (attAt l (k - 1)).name = false) := Iff.rfl
   have hnot := HBAD.out k hkn
   have hsn := attB_snoc l k (by rw [HN.out]; exact hkn)
   have hns := attN_snoc l k (by rw [HN.out]; exact hkn)
   have hle := attN_le l k (by rw [HN.out]; omega) (fun j hj => HK.out j hj)
   have hp3 : k ≠ 0 → wr.cell? (ad.add ((k - 1) * 2)) = some (.string (attAt l (k - 1)).name) := fun hk0 => by
    obtain ⟨ad', _, _, e, h, _⟩ := (HL.out.below HB.out).cells (k - 1) (by rw [HN.out]; omega)
    cases e
    exact h
   obtain ⟨x, hx⟩ : ∃ x, attAt l k = x := ⟨_, rfl⟩
   obtain ⟨z, hz⟩ : ∃ z, (attAt l (k - 1)).name = z := ⟨_, rfl⟩
   rw [hx] at h1 h2 h3 h4 hok hsn hns
   rw [hz] at hok hp3
   obtain ⟨nm, vl⟩ := x
   dsimp only at h1 h2 h3 h4 hok hns
   obtain ⟨y, hy⟩ : ∃ y, attN (l.take k) = y := ⟨_, rfl⟩
   rw [hy] at hns hle ⊢
   have HY := Aside0.mk hy
   have HOK := Aside0.mk (And.intro hok hnot)
   have HSN := Aside0.mk (And.intro hsn hns)
   have HH := Aside0.mk (And.intro h4 h5)
   have HP3 := Aside0.mk hp3
   have i1 : (k : Int) < (n : Int) := by omega
   have hgw : g1 ≤ wr.heap.size := by have := HB.out.size; have := HG1.out; omega
   obtain ⟨m, hm⟩ : ∃ m, vl.length = m := ⟨_, rfl⟩
   have HVL := Aside0.mk hm
   rw [hm] at h2 h3
   clear hok hnot hsn hns h4 h5 hp3 hx hz hy hm
   go_upto_region 6 with fail
   have n1 := cell_alloc wr #[.string nm, .slice Av m cv] 72 0 _ rfl
   have n2 := cell_alloc wr #[.string nm, .slice Av m cv] 72 1 _ rfl
   have hba := below_alloc (Below.refl wr.heap.size wr) (.cells #[.string nm, .slice Av m cv] 72)
   have hst4 : Strc (wr.alloc (.cells #[.string nm, .slice Av m cv] 72)) wr.heap.size 72 [.string nm, .slice Av m cv] := alloc_last _ _
   generalize wr.alloc (.cells #[.string nm, .slice Av m cv] 72) = w4 at n1 n2 hba hst4 ⊢
   have HBA := Aside0.mk hba
   have hb2l : wr.heap.size < w4.heap.size := World.block_lt_of_cell? w4 _ n1
   obtain ⟨b2, hb2⟩ : ∃ b2, wr.heap.size = b2 := ⟨_, rfl⟩
   rw [hb2] at n1 n2 hb2l hgw hst4 ⊢
   have HST4 := Aside0.mk hst4
   clear hst4
   have HB4 := Aside0.mk (below_then HB.out HB.out.size hba)
   have HO4 := Aside0.mk (HO.out.below hba)
   have HN12 := Aside0.mk (And.intro n1 n2)
   have hS := And.intro n1 n2
   have HNM := Aside0.mk (fun W : World => named_calls nm W)
   obtain ⟨tb, htb⟩ : ∃ tb, namedB nm = tb := ⟨_, rfl⟩
   rw [htb] at HNM
   have HTB := Aside0.mk htb
   have hbd := HB4.out.drew
   have HBD := Aside0.mk hbd
   clear hba h1 h2 htb hbd hb2
   cases tb with
   | false =>
    refine wp_region_in [0, 1, 2, 0, 0, 0, 1, 0, 0, 0, 0, 0, 0, 0, 0, 1, 0, 0, 0, 0, 0, 1, 0, 0, 0] [] (fun w' => w'.cell? ⟨b2, 0, none⟩ = some (.string nm) ∧ w'.cell? ⟨b2, 1, none⟩ = some (.slice Av m cv)) (by kernel_rfl) rfl (by kernel_rfl) (fun _ _ _ _ h => h) hS ?_
    iterate 2 (first
     | (refine in_off0 (by rfl) ?_; simp only [Act.put, stA, stZ, stS, i64_w, i32_w])
     | (refine in_off1 (by rfl) ?_; simp only [Act.put, stA, stZ, stS, i64_w, i32_w])
     | (refine in_0 (v := ?_) (by rfl) rfl ?_ (a' := ?_) ?_ ?_; rotate_left; (intro w'; go_simp; with_reducible rfl); rotate_left; (simp only [Act.put, stA, stZ, stS, i64_w, i32_w]; rfl))
     | (refine in_1 (v := ?_) (by rfl) rfl ?_ (a' := ?_) ?_ ?_; rotate_left; (rintro w' hs; go_split_ands; go_simp; with_reducible rfl); rotate_left; (simp only [Act.put, stA, stZ, stS, i64_w, i32_w]; rfl)))
    refine in_2 (by rfl) (fun K hK => ?_)
    go_simp
    refine (HNM.out _).mono ?_
    rintro e _w ⟨rfl, rfl⟩
    dsimp only
    refine hK _ _ hS ?_
    clear hK K
    try simp only [Act.put, stA, stZ, stS, i64_w, i32_w]
    iterate 22 (first
     | (refine in_off0 (by rfl) ?_; simp only [Act.put, stA, stZ, stS, i64_w, i32_w])
     | (refine in_off1 (by rfl) ?_; simp only [Act.put, stA, stZ, stS, i64_w, i32_w])
     | (refine in_0 (v := ?_) (by rfl) rfl ?_ (a' := ?_) ?_ ?_; rotate_left; (intro w'; go_simp; with_reducible rfl); rotate_left; (simp only [Act.put, stA, stZ, stS, i64_w, i32_w]; rfl))
     | (refine in_1 (v := ?_) (by rfl) rfl ?_ (a' := ?_) ?_ ?_; rotate_left; (rintro w' hs; go_split_ands; go_simp; with_reducible rfl); rotate_left; (simp only [Act.put, stA, stZ, stS, i64_w, i32_w]; rfl)))
    refine in_nil ?_
    have hr := HOK.out.2 (fun h => by have := (HOK.out.1.1 h).1; rw [HTB.out] at this; cases this)
    have HR := Aside0.mk hr
    clear hr
    go_wp2
    go_ret2
    exact bytesPost_bad (by rw [HR.out]) (by decide) rfl HBD.out
   | true =>
    by_cases c2 : 64 < m
    ·have c2i : (64 : Int) < (m : Int) := by omega
     refine wp_region_in [0, 1, 2, 0, 0, 0, 1, 0, 0, 0, 0, 0, 0, 0, 0, 1, 0, 0, 0, 0, 0, 1, 0, 0, 0] [] (fun w' => w'.cell? ⟨b2, 0, none⟩ = some (.string nm) ∧ w'.cell? ⟨b2, 1, none⟩ = some (.slice Av m cv)) (by kernel_rfl) rfl (by kernel_rfl) (fun _ _ _ _ h => h) hS ?_
     iterate 2 (first
      | (refine in_off0 (by rfl) ?_; simp only [Act.put, stA, stZ, stS, i64_w, i32_w])
      | (refine in_off1 (by rfl) ?_; simp only [Act.put, stA, stZ, stS, i64_w, i32_w])
      | (refine in_0 (v := ?_) (by rfl) rfl ?_ (a' := ?_) ?_ ?_; rotate_left; (intro w'; go_simp; with_reducible rfl); rotate_left; (simp only [Act.put, stA, stZ, stS, i64_w, i32_w]; rfl))
      | (refine in_1 (v := ?_) (by rfl) rfl ?_ (a' := ?_) ?_ ?_; rotate_left; (rintro w' hs; go_split_ands; go_simp; with_reducible rfl); rotate_left; (simp only [Act.put, stA, stZ, stS, i64_w, i32_w]; rfl)))
     refine in_2 (by rfl) (fun K hK => ?_)
     go_simp
     refine (HNM.out _).mono ?_
     rintro e _w ⟨rfl, rfl⟩
     dsimp only
     refine hK _ _ hS ?_
     clear hK K
     try simp only [Act.put, stA, stZ, stS, i64_w, i32_w]
     iterate 22 (first
      | (refine in_off0 (by rfl) ?_; simp only [Act.put, stA, stZ, stS, i64_w, i32_w])
      | (refine in_off1 (by rfl) ?_; simp only [Act.put, stA, stZ, stS, i64_w, i32_w])
      | (refine in_0 (v := ?_) (by rfl) rfl ?_ (a' := ?_) ?_ ?_; rotate_left; (intro w'; go_simp; with_reducible rfl); rotate_left; (simp only [Act.put, stA, stZ, stS, i64_w, i32_w]; rfl))
      | (refine in_1 (v := ?_) (by rfl) rfl ?_ (a' := ?_) ?_ ?_; rotate_left; (rintro w' hs; go_split_ands; go_simp; with_reducible rfl); rotate_left; (simp only [Act.put, stA, stZ, stS, i64_w, i32_w]; rfl)))
     refine in_nil ?_
     have hr := HOK.out.2 (fun h => (HOK.out.1.1 h).2.1 (by rw [HVL.out]; exact c2))
     have HR := Aside0.mk hr
     clear hr
     go_wp2
     go_ret2
     exact bytesPost_bad (by rw [HR.out]) (by decide) rfl HBD.out
    ·have c2i : ¬ (64 : Int) < (m : Int) := by omega
     obtain ⟨lb, hlb⟩ : ∃ lb, leS nm z = lb := ⟨_, rfl⟩
     have HLB := Aside0.mk hlb
     clear hlb
     go_cut [46] (fun v wx => v = .bool (decide (0 < k) && lb) ∧ wx = w4.drew)
     case first =>
      by_cases c3 : k = 0
      ·subst c3
       refine wp_region_in [0, 1, 2, 0, 0, 0, 1, 0, 0, 0, 0, 0, 0, 0, 0, 1, 0, 0, 0, 0, 0, 1, 0, 0, 0] [] (fun w' => w'.cell? ⟨b2, 0, none⟩ = some (.string nm) ∧ w'.cell? ⟨b2, 1, none⟩ = some (.slice Av m cv)) (by kernel_rfl) rfl (by kernel_rfl) (fun _ _ _ _ h => h) hS ?_
       iterate 2 (first
        | (refine in_off0 (by rfl) ?_; simp only [Act.put, stA, stZ, stS, i64_w, i32_w])
        | (refine in_off1 (by rfl) ?_; simp only [Act.put, stA, stZ, stS, i64_w, i32_w])
        | (refine in_0 (v := ?_) (by rfl) rfl ?_ (a' := ?_) ?_ ?_; rotate_left; (intro w'; go_simp; with_reducible rfl); rotate_left; (simp only [Act.put, stA, stZ, stS, i64_w, i32_w]; rfl))
        | (refine in_1 (v := ?_) (by rfl) rfl ?_ (a' := ?_) ?_ ?_; rotate_left; (rintro w' hs; go_split_ands; go_simp; with_reducible rfl); rotate_left; (simp only [Act.put, stA, stZ, stS, i64_w, i32_w]; rfl)))
       refine in_2 (by rfl) (fun K hK => ?_)
       go_simp
       refine (HNM.out _).mono ?_
       rintro e _w ⟨rfl, rfl⟩
       dsimp only
       refine hK _ _ hS ?_
       clear hK K
       try simp only [Act.put, stA, stZ, stS, i64_w, i32_w]
       iterate 22 (first
        | (refine in_off0 (by rfl) ?_; simp only [Act.put, stA, stZ, stS, i64_w, i32_w])
        | (refine in_off1 (by rfl) ?_; simp only [Act.put, stA, stZ, stS, i64_w, i32_w])
        | (refine in_0 (v := ?_) (by rfl) rfl ?_ (a' := ?_) ?_ ?_; rotate_left; (intro w'; go_simp; with_reducible rfl); rotate_left; (simp only [Act.put, stA, stZ, stS, i64_w, i32_w]; rfl))
        | (refine in_1 (v := ?_) (by rfl) rfl ?_ (a' := ?_) ?_ ?_; rotate_left; (rintro w' hs; go_split_ands; go_simp; with_reducible rfl); rotate_left; (simp only [Act.put, stA, stZ, stS, i64_w, i32_w]; rfl)))
       refine in_nil ?_
       go_wp2
       go_meet
       exact ⟨by simp, rfl⟩
      ·obtain ⟨k', rfl⟩ : ∃ k', k = k' + 1 := ⟨k - 1, by omega⟩
       have n4 := HP3.out (by omega)
       simp only [Nat.add_sub_cancel] at n4
       have n4' : w4.cell? (ad.add (k' * 2)) = some (.string z) := pw_cell_below HBA.out n4
       have hS3 := And.intro n1 (And.intro n2 n4')
       have i1' : (k' : Int) < (n : Int) := by omega
       have i2' : k' < n := by omega
       have HW1 := Aside0.mk (show wrap64 (k' : Int) = (k' : Int) by unfold wrap64; omega)
       have i0 : (0 : Int) < (k' : Int) + 1 := by omega
       have hle := fun W : World => leq_str nm z W
       rw [HLB.out] at hle
       have hw1 := HW1.out
       refine wp_region_in [0, 1, 2, 0, 0, 0, 1, 0, 0, 0, 0, 0, 0, 0, 0, 1, 0, 0, 0, 0, 0, 1, 0, 0, 0] [] (fun w' => w'.cell? ⟨b2, 0, none⟩ = some (.string nm) ∧ w'.cell? ⟨b2, 1, none⟩ = some (.slice Av m cv) ∧ w'.cell? (ad.add (k' * 2)) = some (.string z)) (by kernel_rfl) rfl (by kernel_rfl) (fun _ _ _ _ h => h) hS3 ?_
       iterate 2 (first
        | (refine in_off0 (by rfl) ?_; simp only [Act.put, stA, stZ, stS, i64_w, i32_w])
        | (refine in_off1 (by rfl) ?_; simp only [Act.put, stA, stZ, stS, i64_w, i32_w])
        | (refine in_0 (v := ?_) (by rfl) rfl ?_ (a' := ?_) ?_ ?_; rotate_left; (intro w'; go_simp; with_reducible rfl); rotate_left; (simp only [Act.put, stA, stZ, stS, i64_w, i32_w]; rfl))
        | (refine in_1 (v := ?_) (by rfl) rfl ?_ (a' := ?_) ?_ ?_; rotate_left; (rintro w' hs; go_split_ands; go_simp; with_reducible rfl); rotate_left; (simp only [Act.put, stA, stZ, stS, i64_w, i32_w]; rfl)))
       refine in_2 (by rfl) (fun K hK => ?_)
       go_simp
       refine (HNM.out _).mono ?_
       rintro e _w ⟨rfl, rfl⟩
       dsimp only
       refine hK _ _ hS3 ?_
       clear hK K
       try simp only [Act.put, stA, stZ, stS, i64_w, i32_w]
       iterate 22 (first
        | (refine in_off0 (by rfl) ?_; simp only [Act.put, stA, stZ, stS, i64_w, i32_w])
        | (refine in_off1 (by rfl) ?_; simp only [Act.put, stA, stZ, stS, i64_w, i32_w])
        | (refine in_0 (v := ?_) (by rfl) rfl ?_ (a' := ?_) ?_ ?_; rotate_left; (intro w'; go_simp; with_reducible rfl); rotate_left; (simp only [Act.put, stA, stZ, stS, i64_w, i32_w]; rfl))
        | (refine in_1 (v := ?_) (by rfl) rfl ?_ (a' := ?_) ?_ ?_; rotate_left; (rintro w' hs; go_split_ands; go_simp; with_reducible rfl); rotate_left; (simp only [Act.put, stA, stZ, stS, i64_w, i32_w]; rfl)))
       refine in_nil ?_
       clear hw1
       go_wp2
       go_meet
       exact ⟨by simp, rfl⟩
     case rest =>
      obtain ⟨rfl, rfl⟩ := hcut
      by_cases hfin : 0 < k ∧ lb = true
      ·have hr := HOK.out.2 (fun h => by have := (HOK.out.1.1 h).2.2 hfin.1; rw [HLB.out, hfin.2] at this; cases this)
       have HR := Aside0.mk hr
       obtain ⟨hk0, rfl⟩ := hfin
       have hkb : decide (0 < k) = true := by simpa using hk0
       rw [hkb]
       clear hr
       go_wp2
       go_ret2
       exact bytesPost_bad (by rw [HR.out]) (by decide) rfl HBD.out
      ·have hkb : (decide (0 < k) && lb) = false := by
        cases lb
        ·simp
        ·simp at hfin
         simp [hfin]
       rw [hkb]
       have hns := named_size HTB.out
       obtain ⟨hnm1, hnm2⟩ := hns
       have hm64 : m ≤ 64 := by omega
       obtain ⟨i0, hi, hz0, hz1, hz2⟩ := info_parts infoU8
       have HOa := Aside0.mk (fun o => HO4.out.below (below_alloc (Below.refl _ _) o).drew)
       have HBa := Aside0.mk (fun o => (below_alloc HB4.out o).drew)
       have hlx : ([3, (n : Int) % 256] ++ (l.take k).flatMap attB).length = 2 + y := by
        have h2 := HY.out
        unfold attN at h2
        simp only [List.length_append, List.length_cons, List.length_nil, h2]
       obtain ⟨xs, hxs⟩ : ∃ xs, [3, (n : Int) % 256] ++ (l.take k).flatMap attB = xs := ⟨_, rfl⟩
       rw [hxs] at HOa hlx
       have HXS := Aside0.mk hxs
       have HLX := Aside0.mk hlx
       have HFN := Aside0.mk hfin
       clear hxs hlx hkb hfin
       go_upto_region 9 with ((with_reducible refine gate_dst (N := 57) rfl ?_); (refine wpList_append_own _ rfl (.tmp 47) (.tmp 56) 23 rfl g1 5 i0 (.int .u8 0) 1 1 Tryz.underlying23 hi hz0 hz1 hz2 rfl (by decide) _ _ _ rfl (HOa.out _) ⟨w4.heap.size, 0, none⟩ 2 2 [.int .u8 (nm.size : Int), .int .u8 (m : Int)] rfl ?c6 ?c1 ?c2 ?c3 ?c4 ?c5 ?_; (case c6 => rfl); (case c1 => (intro j u hj; rw [add_plain]; exact cell_alloc w4 _ _ j u (by simpa using hj))); (case c2 => simp [Value.oneCell']); (case c3 => (rw [HLX.out]; simp only [maxLen]; omega)); (case c4 => (rw [HLX.out]; omega)); (case c5 => (have := (HBa.out (.cells #[.int .u8 (nm.size : Int), .int .u8 (m : Int)] 5)).size; have := HG1.out; omega)); intro v2 w5 hown2 hgrow2 _; have HO5 := Aside0.mk (own_snoc (ys := [(nm.size : Int), (m : Int)]) hown2 rfl rfl); have HGR5 := Aside0.mk hgrow2; clear hown2 hgrow2 hz0 hz1 hz2 hi))
       have hgr5 := HGR5.out
       have hne : (72 : TypeId) ≠ 5 := by decide
       have hst4a := HST4.out.below (below_alloc (Below.refl w4.heap.size w4) (.cells #[.int .u8 (nm.size : Int), .int .u8 (m : Int)] 5)).drew
       have hst5 := hst4a.mod (mod_grown hgr5) (own_not_strc (HOa.out _) hst4a hne)
       have hsz0 : w.heap.size ≤ ((w4.alloc (.cells #[.int .u8 (nm.size : Int), .int .u8 (m : Int)] 5)).drew).heap.size := (HBa.out _).size
       have hb5 : Below w.heap.size w w5 := pw_below_grown (HBa.out _) _ hsz0 hgr5 (fun g' hg' => by rw [HG1.out]; exact own_base HO4.out g' hg')
       have HST5 := Aside0.mk hst5
       have HB5 := Aside0.mk hb5
       have m1 := hst5.cell 0 _ rfl
       have m2 := hst5.cell 1 _ rfl
       have hszd : g1 ≤ w5.heap.size := by have := hb5.size; have := HG1.out; omega
       clear hgr5 hst4a hst5 hb5 hsz0
       refine wp_region_ord [0, 1, 2, 4, 5, 3, 6, 7] [0, 0, 1, 0, 1, 2, 2, 0] (fun w' => w'.cell? ⟨b2, 0, none⟩ = some (.string nm) ∧ w'.cell? ⟨b2, 1, none⟩ = some (.slice Av m cv)) (by kernel_rfl) rfl (by kernel_rfl) (fun _ _ _ _ h => h) ⟨m1, m2⟩ ?_
       iterate 5 (first
        | (refine inQ_off0 (by rfl) (by rfl) ?_; simp only [Act.put, stA, stZ, stS, i64_w, i32_w])
        | (refine inQ_off1 (by rfl) (by rfl) ?_; simp only [Act.put, stA, stZ, stS, i64_w, i32_w])
        | (refine inQ_0 (v := ?_) (by rfl) (by rfl) rfl ?_ (a' := ?_) ?_ ?_; rotate_left; (intro w'; go_simp; with_reducible rfl); rotate_left; (simp only [Act.put, stA, stZ, stS, i64_w, i32_w]; rfl))
        | (refine inQ_1 (v := ?_) (by rfl) (by rfl) rfl ?_ (a' := ?_) ?_ ?_; rotate_left; (rintro w' hs; go_split_ands; go_simp; with_reducible rfl); rotate_left; (simp only [Act.put, stA, stZ, stS, i64_w, i32_w]; rfl)))
       refine inQ_2 (by rfl) (by rfl) (fun K hK => ?_)
       refine wp_append_text (w0 := w) (.tmp 58) (.tmp 60) 23 9 5 rfl g1 Tryz.underlying23 Tryz.underlying9 infoU8 v2 (xs ++ [(nm.size : Int), (m : Int)]) nm rfl (HO5.out.below (below_drew (Below.refl _ _))) (by rw [← HG1.out]; exact HB5.out.drew) hszd rfl (by rw [List.length_append, HLX.out]; simp only [List.length_cons, List.length_nil]; omega) (fun v3 w6 ho6 hb6 hg6 => ?_)
       have hst5d := HST5.out.below (below_drew (Below.refl w5.heap.size w5))
       have hst6 := hst5d.mod (mod_grown hg6) (own_not_strc (HO5.out.below (below_drew (Below.refl _ _))) hst5d hne)
       refine hK _ _ ⟨hst6.cell 0 _ rfl, hst6.cell 1 _ rfl⟩ ?_
       clear hK K
       have HO6 := Aside0.mk ho6
       have HST6 := Aside0.mk hst6
       have hb6' : Below w.heap.size w w6 := by rw [HG1.out]; exact hb6
       have HB6 := Aside0.mk hb6'
       have hsz6 : g1 ≤ w6.heap.size := by have := hb6'.size; have := HG1.out; omega
       clear ho6 hst6 hb6 hg6 hb6' hst5d m1 m2
       try simp only [Act.put, stA, stZ, stS, i64_w, i32_w]
       refine inQ_2 (by rfl) (by rfl) (fun K hK => ?_)
       refine wp_append_read (w0 := w) (.tmp 61) (.tmp 63) 23 5 rfl g1 Tryz.underlying23 infoU8 v3 (xs ++ [(nm.size : Int), (m : Int)] ++ bytesOf nm) vl rfl HO6.out (by rw [← HG1.out]; exact HB6.out) hsz6 Av cv (by rw [HVL.out]; rfl) (Kd.C_below HH.out.1 HB6.out) HH.out.2 (by rw [List.length_append, List.length_append, HLX.out, bytesOf_length, HVL.out]; simp only [List.length_cons, List.length_nil]; omega) (fun v4 w7 ho7 hb7 hg7 => ?_)
       have hst7 := HST6.out.mod (mod_grown hg7) (own_not_strc HO6.out HST6.out hne)
       refine hK _ _ ⟨hst7.cell 0 _ rfl, hst7.cell 1 _ rfl⟩ ?_
       clear hK K
       have HO7 := Aside0.mk ho7
       have q1 := hst7.cell 0 _ rfl
       have q2 := hst7.cell 1 _ rfl
       have hb7' : Below w.heap.size w w7 := by rw [HG1.out]; exact hb7
       have HB7 := Aside0.mk hb7'
       clear ho7 hst7 hb7 hg7 hb7'
       try simp only [Act.put, stA, stZ, stS, i64_w, i32_w]
       iterate 1 (first
        | (refine inQ_off0 (by rfl) (by rfl) ?_; simp only [Act.put, stA, stZ, stS, i64_w, i32_w])
        | (refine inQ_off1 (by rfl) (by rfl) ?_; simp only [Act.put, stA, stZ, stS, i64_w, i32_w])
        | (refine inQ_0 (v := ?_) (by rfl) (by rfl) rfl ?_ (a' := ?_) ?_ ?_; rotate_left; (intro w'; go_simp; with_reducible rfl); rotate_left; (simp only [Act.put, stA, stZ, stS, i64_w, i32_w]; rfl))
        | (refine inQ_1 (v := ?_) (by rfl) (by rfl) rfl ?_ (a' := ?_) ?_ ?_; rotate_left; (rintro w' hs; go_split_ands; go_simp; with_reducible rfl); rotate_left; (simp only [Act.put, stA, stZ, stS, i64_w, i32_w]; rfl)))
       refine inP_nil ?_
       go_wp2
       go_roundg g
       case measure => omega
       case rel =>
        refine ⟨k + 1, by omega, ?_, by go_num, ⟨?_⟩, HB7, ⟨fun j hj => ?_⟩⟩
        ·rw [HSN.out.2, HVL.out]; go_num
        ·have e : [3, (n : Int) % 256] ++ (l.take (k + 1)).flatMap attB = xs ++ [(nm.size : Int), (m : Int)] ++ bytesOf nm ++ vl := by
          rw [HSN.out.1, ← HXS.out]
          have e1 : (nm.size : Int) % 256 = nm.size := by omega
          have e2 : ((vl.length : Nat) : Int) % 256 = m := by rw [HVL.out]; omega
          simp [attB, e1, e2]
         rw [e]
         exact HO7.out
        ·by_cases ej : j = k
         ·subst ej
          exact HOK.out.1.2 ⟨HTB.out, by rw [HVL.out]; exact c2, fun h0 => by
           rw [HLB.out]
           cases lb
           ·rfl
           ·exact absurd ⟨h0, rfl⟩ HFN.out⟩
         ·exact HK.out j (by omega)
end Go.Proofs.YtkmhilhfmfmckaaGreatDoor.Hand
