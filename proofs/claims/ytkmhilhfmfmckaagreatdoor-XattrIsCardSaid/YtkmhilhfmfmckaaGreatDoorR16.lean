/- Own texts and printed words of the kit, put together and trimmed by a program of mine (merge.py). -/
import Derived.Test.YtkmhilhfmfmckaaGreatDoorR15
namespace Go.Proofs.YtkmhilhfmfmckaaGreatDoor.Hand
set_option linter.unusedSimpArgs false
set_option linter.unusedVariables false
open Go.Shelf Go.RowKit Go.Proofs.YtkmhilhfmfmckaaGreatDoorW.PrintWords Go.Proofs.YtkmhilhfmfmckaaGreatDoorW.PrintLast Go.Proofs.YtkmhilhfmfmckaaGreatDoorW.PrintMore
set_option maxHeartbeats 1000000 in
set_option maxRecDepth 100000 in
theorem rsealedt_calls (A : Option Addr) (c : Nat) (b : List Int) (s : Int) (w : World) (hb : Kd.C (Kd.int .u8) w A b.length b) (hl : b.length = 256) (hc : b.length ≤ c) (hab : allB b) (hs0 : 0 ≤ s) (hs1 : s < 4294967296) :
  Calls Tryz.prog 141 #[.slice A b.length c, .int .u32 s] w fun e w' => e = .returned (.bool (sealedI b s)) ∧ Below w.heap.size w w' := by
 obtain ⟨ad, rfl, _⟩ := C_int_at hb 0 (by omega)
 have ht : (b.take 252).length = 252 := by simp [hl]
 have hp2 := C_int_pre hb 252 (by omega)
 have hg := rget_calls (some ad) c 252 4 w b hb (by omega) (by omega) (by omega) hab
 rw [List.take_of_length_le (by simp [hl])] at hg
 have hcr := rcrc_calls s (some ad) c (b.take 252) w (by rw [ht]; exact hp2) hs0 hs1 (allB_take hab 252)
 rw [ht] at hcr
 have hcb := crcI_range s (b.take 252)
 unfold sealedI
 obtain ⟨x, hx⟩ : ∃ x, val (b.drop 252) = x := ⟨_, rfl⟩
 obtain ⟨y, hy⟩ : ∃ y, crcI s (b.take 252) = y := ⟨_, rfl⟩
 rw [hx] at hg ⊢
 rw [hy] at hcr hcb ⊢
 rw [hl] at hg hc ⊢
 obtain ⟨hy0, hy1⟩ := hcb
 have hym : IntKind.u64.wrap y = y := by rw [wrap_u64]; omega
 have HG := Aside0.mk hg
 have HC := Aside0.mk hcr
 clear hb hab ht hp2 hg hcr hx hy hl
 go_enter Tryz.func141, Tryz.ntmps141
 go_wp2_with fail
 refine HG.out.mono ?_
 rintro e w1 ⟨rfl, rfl⟩
 dsimp only
 go_wp2_with fail
 refine HC.out.mono ?_
 rintro e w1 ⟨rfl, rfl⟩
 dsimp only
 go_wp2
 go_ret
 exact ⟨rfl, Below.refl _ _⟩
set_option maxHeartbeats 1000000 in
set_option maxRecDepth 100000 in
theorem rbchk_calls (A : Option Addr) (c : Nat) (b : List Int) (n : Nat) (s : Int) (w : World) (hb : Kd.C (Kd.int .u8) w A b.length b) (hc : b.length ≤ c) (hab : allB b) (hn : n ≤ 2016) (hs0 : 0 ≤ s) (hs1 : s < 4294967296) :
  Calls Tryz.prog 78 #[.slice A b.length c, .int .i64 n, .int .u32 s] w fun e w' => e = .returned (.int .i64 (chkB b n s)) ∧ Below w.heap.size w w' := by
 have hm := (C_int_len hb).2
 by_cases h256 : b.length = 256
 ·have HS := Aside0.mk (fun (W : World) (hW : Below w.heap.size w W) => rsealedt_calls A c b s W (Kd.C_below hb hW) h256 hc hab hs0 hs1)
  have HT := Aside0.mk (fun (i : Int) (W : World) (hW : Below w.heap.size w W) (h0 : -9223372036854775808 ≤ i) (h1 : i ≤ 9223372036854775807) => rset_calls A c b i W (Kd.C_below hb hW) hab h0 h1)
  have hck : chkB b n s = if sealedI b s = false then 117 else if tailB b n (2016 - n) = true then 0 else 117 := by unfold chkB; simp [h256]
  rw [h256] at HS HT ⊢
  obtain ⟨q, hq⟩ : ∃ q, sealedI b s = q := ⟨_, rfl⟩
  rw [hq] at HS hck
  have HC0 : q = false → chkB b n s = 117 := fun h => by rw [hck, if_pos h]
  have HC1 : q = true → tailB b n (2016 - n) = true → chkB b n s = 0 := fun h h2 => by rw [hck, if_neg (by rw [h]; simp), if_pos h2]
  have HC2 : q = true → ¬ tailB b n (2016 - n) = true → chkB b n s = 117 := fun h h2 => by rw [hck, if_neg (by rw [h]; simp), if_neg h2]
  obtain ⟨r, hr⟩ : ∃ r, chkB b n s = r := ⟨_, rfl⟩
  rw [hr] at HC0 HC1 HC2 ⊢
  clear hb hab h256 hc hm hq hck hr
  cases q
  ·have hr : r = 117 := HC0 rfl
   subst hr
   clear HC0 HC1 HC2
   go_enter Tryz.func78, Tryz.ntmps78
   go_wp2_with fail
   refine (HS.out w (Below.refl _ _)).mono ?_
   rintro e w1 ⟨rfl, hb1⟩
   dsimp only
   have HB1 := Aside0.mk hb1
   clear hb1
   go_wp2
   go_ret
   exact ⟨rfl, HB1.out⟩
  ·have HK1 := Aside0.mk (HC1 rfl)
   have HK2 := Aside0.mk (HC2 rfl)
   clear HC0 HC1 HC2
   go_enter Tryz.func78, Tryz.ntmps78
   go_wp2_with fail
   refine (HS.out w (Below.refl _ _)).mono ?_
   rintro e w1 ⟨rfl, hb1⟩
   dsimp only
   have HB1 := Aside0.mk hb1
   clear hb1
   go_wp2
   go_loopg [7] (2016 - n) (fun g i wr => ∃ k : Nat, k + g = 2016 - n ∧ i = .int .i64 ((n + k : Nat) : Int) ∧ Aside0 (tailB b n k = true) ∧ Aside0 (Below w.heap.size w wr))
   case atStart => exact ⟨0, by omega, rfl, ⟨rfl⟩, HB1⟩
   case round =>
    obtain ⟨k, hk, rfl, HTB, HBr⟩ := hrel
    obtain ⟨i, hi⟩ : ∃ i, n + k = i := ⟨_, rfl⟩
    rw [hi]
    have HI := Aside0.mk hi
    cases gk with
    | zero =>
     have hk2 : k = 2016 - n := by omega
     have i1 : ¬ (i : Int) < 2016 := by omega
     have HKZ := Aside0.mk hk2
     clear hi hk2
     go_wp2
     go_ret
     refine ⟨?_, HBr.out⟩
     have := HTB.out
     rw [HKZ.out] at this
     rw [HK1.out this]
     rfl
    | succ g =>
     have hst := HT.out (i : Int) wr HBr.out (by omega) (by omega)
     have hsn := tailB_snoc b n k
     rw [hi, HTB.out, Bool.true_and] at hsn
     obtain ⟨q, hq⟩ : ∃ q, setI b (i : Int) = q := ⟨_, rfl⟩
     rw [hq] at hst hsn
     have HST := Aside0.mk hst
     have HSN := Aside0.mk hsn
     have i1 : (i : Int) < 2016 := by omega
     clear hst hsn hq hi
     go_wp2_with fail
     refine HST.out.mono ?_
     rintro e w2 ⟨rfl, rfl⟩
     dsimp only
     cases q
     ·go_wp2
      go_ret
      have hf : ¬ tailB b n (2016 - n) = true := fun h => by
       have := tailB_le (g := k + 1) h (by omega)
       rw [HSN.out] at this
       cases this
      exact ⟨by rw [HK2.out hf]; rfl, HBr.out⟩
     ·go_wp2
      go_roundg g
      case measure => omega
      case rel => exact ⟨k + 1, by omega, by have := HI.out; go_num, HSN, HBr⟩
 ·have hck : chkB b n s = 117 := by unfold chkB; rw [if_pos (.inl h256)]
  rw [hck]
  have hne : ((b.length : Int) != 256) = true := by rw [bne_iff_ne]; omega
  clear hb hab hck
  go_enter Tryz.func78, Tryz.ntmps78
  go_wp2
  go_ret
  exact ⟨rfl, Below.refl _ _⟩
theorem infoBo : (Tryz.prog.info? 4).map (fun i => (i.zero, i.size, i.bytes)) = some (some (.bool false), 1, 1) := by kernel_rfl
theorem made_bools (n : Nat) : madeCells #[Value.bool false] n = ((List.replicate n false).map Value.bool).toArray := by
 apply Array.ext'
 rw [toList_madeCells_one]
 simp
def WkPost (w : World) (e : Ending) (w' : World) : Prop :=
 ∃ A c l x, e = .returned (.tuple #[.slice A (List.length l) c, .int .i64 x]) ∧ Kd.C (Kd.int .u8) w' A l.length l ∧ allB l ∧ l.length ≤ 256 ∧ l.length ≤ c ∧ (A = none → c = 0) ∧ (∀ ad, A = some ad → w.heap.size ≤ ad.block) ∧ Below w.heap.size w w'
theorem wk_bad {w w' : World} {e : Ending} (x : Int) (he : e = .returned (.tuple #[.slice none 0 0, .int .i64 x])) (hb : Below w.heap.size w w') : WkPost w e w' :=
 ⟨none, 0, [], x, he, C_int_nil _ _ _, (fun y hy => nomatch hy), by simp, by simp, (fun _ => rfl), (fun ad h => nomatch h), hb⟩
def newBits (n k : Nat) : List Bool := List.replicate n false ++ (List.replicate k true ++ List.replicate (2016 - n - k) false)
theorem newBits_len (n k : Nat) (h : n + k ≤ 2016) : (newBits n k).length = 2016 := by
 unfold newBits
 simp only [List.length_append, List.length_replicate]
 omega
theorem newBits_next (n k : Nat) (h : n + k < 2016) : (newBits n k).set (n + k) true = newBits n (k + 1) := by
 unfold newBits
 obtain ⟨m, hm⟩ : ∃ m, 2016 - n - k = m + 1 := ⟨2016 - n - k - 1, by omega⟩
 rw [hm, show 2016 - n - (k + 1) = m by omega, List.set_append_right _ _ (by rw [List.length_replicate]; omega), List.length_replicate, show n + k - n = k by omega, List.set_append_right _ _ (by rw [List.length_replicate]; omega), List.length_replicate, Nat.sub_self, List.replicate_succ' (n := k), List.append_assoc]
 rfl
theorem newBits_zero (n : Nat) (h : n ≤ 2016) : newBits n 0 = List.replicate 2016 false := by
 unfold newBits
 rw [List.replicate_zero, List.nil_append, List.replicate_append_replicate]
 congr 1
 omega
set_option maxHeartbeats 2000000 in
set_option maxRecDepth 100000 in
theorem rnewb_calls (n : Nat) (s : Int) (w : World) (hn : n ≤ 2016) (hs0 : 0 ≤ s) (hs1 : s < 4294967296) :
  Calls Tryz.prog 165 #[.int .i64 n, .int .u32 s] w (WkPost w) := by
 have hmk : ∀ w : World, (Instr.makeSlice 149 (.int .i64 2016) (.int .i64 2016)).run Tryz.prog w = .ok (.slice (some ⟨w.heap.size, 0, none⟩) 2016 2016) (w.alloc (.cells (madeCells #[Value.bool false] 2016) 4)) := fun w => run_make_row' 149 4 (.bool false) 1 Tryz.underlying149 infoBo rfl .i64 .i64 2016 (by omega) (by omega) w
 have hrow : BRow (w.alloc (.cells (madeCells #[Value.bool false] 2016) 4)) w.heap.size (newBits n 0) := ⟨[], by rw [made_bools, newBits_zero n hn, List.append_nil]; exact alloc_last _ _⟩
 have HB := Aside0.mk (show Below w.heap.size w (w.alloc (.cells (madeCells #[Value.bool false] 2016) 4)) from below_alloc (Below.refl _ _) _)
 have i1 : ¬ (n : Int) < 0 := by omega
 have i2 : ¬ (2016 : Int) < (n : Int) := by omega
 have HN := Aside0.mk hrow
 clear hrow
 go_enter Tryz.func165, Tryz.ntmps165
 go_wp2
 obtain ⟨g0, hg0⟩ : ∃ g, w.heap.size = g := ⟨_, rfl⟩
 have hgs : w.heap.size ≤ g0 := by omega
 rw [show (⟨w.heap.size, 0, none⟩ : Addr) = ⟨g0, 0, none⟩ by rw [hg0]]
 rw [hg0] at HN
 clear hg0 hmk
 generalize w.alloc (.cells (madeCells #[Value.bool false] 2016) 4) = w1 at HN HB ⊢
 go_loopg [7] (2016 - n) (fun g i wr => ∃ k : Nat, k + g = 2016 - n ∧ i = .int .i64 ((n + k : Nat) : Int) ∧ Aside0 (BRow wr g0 (newBits n k)) ∧ Aside0 (Below w.heap.size w wr))
 case atStart => exact ⟨0, by omega, rfl, HN, HB⟩
 case round =>
  obtain ⟨k, hk, rfl, HR, HBr⟩ := hrel
  obtain ⟨i, hi⟩ : ∃ i, n + k = i := ⟨_, rfl⟩
  rw [hi]
  cases gk with
  | zero =>
   have hlen := newBits_len n k (by omega)
   have hby := rbytes_calls g0 2016 (newBits n k) s wr HR.out (by omega) hs0 hs1
   rw [hlen] at hby
   have HBY := Aside0.mk hby
   have i3 : ¬ (i : Int) < 2016 := by omega
   clear hby hlen hi
   go_wp2_with fail
   refine HBY.out.mono ?_
   rintro e w2 ⟨g2, rfl, hg2, hr2, hb2⟩
   dsimp only
   have HF := Aside0.mk (And.intro hr2 hb2)
   have HG2 := Aside0.mk (Nat.le_trans HBr.out.size hg2)
   clear hr2 hb2
   go_wp2
   go_ret2
   have hok := boB_ok (newBits n k) s
   exact ⟨some ⟨g2, 0, none⟩, 256, boB (newBits n k) s, 0, by rw [hok.1]; rfl, HF.out.1.reads (by omega), hok.2, by omega, by omega, (fun h => nomatch h), (fun ad h => by cases h; exact HG2.out), below_then HBr.out HBr.out.size HF.out.2⟩
  | succ g =>
   have hlt : i < 2016 := by omega
   have hli : (i : Int) < 2016 := by omega
   have hlen := newBits_len n k (by omega)
   have hc := HR.out.cell i (by omega)
   have hf := HR.out.free i
   have hset := HR.out.set i true (by omega)
   rw [← hi, newBits_next n k (by omega), hi] at hset
   have HSET := Aside0.mk hset
   have HBS := Aside0.mk (below_set_new HBr.out hgs i (.bool true))
   have HI := Aside0.mk hi
   generalize (newBits n k).getD i false = x at hc
   clear hset hi hlen
   go_wp2
   go_roundg g
   case measure => omega
   case rel => exact ⟨k + 1, by omega, by have := HI.out; go_num, HSET, HBS⟩
theorem own_snocB {w : World} {base : Nat} {v : Value} {bs : List Bool} {x : Bool} (h : w.ownsRow base 4 1 v (bs.length + 1) (bs.map Value.bool ++ [.bool x])) : w.ownsRow base 4 1 v (bs ++ [x]).length ((bs ++ [x]).map Value.bool) := by
 rw [List.map_append, List.length_append]
 exact h
theorem brow_of_own {w : World} {base n : Nat} {v : Value} {bs : List Bool} (h : w.ownsRow base 4 1 v n (bs.map Value.bool)) (hp : 0 < n) : ∃ g c, v = .slice (some ⟨g, 0, none⟩) n c ∧ BRow w g bs ∧ bs.length = n := by
 have hl : bs.length = n := by have := h.1; simpa using this
 rcases h.2 with ⟨_, h0⟩ | ⟨g, c, cur, rfl, _, hh, _, _, _, ht⟩
 ·omega
 ·refine ⟨g, c, rfl, ⟨cur.toList.drop (n * 1), ?_⟩, hl⟩
  rw [← ht, List.take_append_drop]
  simpa using hh
set_option maxHeartbeats 4000000 in
set_option maxRecDepth 100000 in
theorem rturnb_calls (A : Option Addr) (c : Nat) (b : List Int) (n fr ct : Nat) (on : Bool) (s : Int) (w : World) (hb : Kd.C (Kd.int .u8) w A b.length b) (hc : b.length ≤ c) (hab : allB b) (hn : n ≤ 2016) (hs0 : 0 ≤ s) (hs1 : s < 4294967296) (hfr : fr ≤ 4096) (hct : ct ≤ 4096) :
  Calls Tryz.prog 146 #[.slice A b.length c, .int .i64 n, .int .i64 fr, .int .i64 ct, .bool on, .int .u32 s] w (WkPost w) := by
 obtain ⟨i0, hi, hz0, hz1, hz2⟩ := info_parts infoBo
 have HCK := Aside0.mk (rbchk_calls A c b n s w hb hc hab hn hs0 hs1)
 have HST := Aside0.mk (fun (W : World) (hW : Below w.heap.size w W) (i : Int) (h0 : -9223372036854775808 ≤ i) (h1 : i ≤ 9223372036854775807) => rset_calls A c b i W (Kd.C_below hb hW) hab h0 h1)
 obtain ⟨q, hq⟩ : ∃ q, chkB b n s = q := ⟨_, rfl⟩
 rw [hq] at HCK
 obtain ⟨bl, hbl⟩ : ∃ bl, b.length = bl := ⟨_, rfl⟩
 rw [hbl] at HCK HST hc ⊢
 clear hb hab hq hbl
 have hw1 : (fr : Int) + (ct : Int) ≤ 8192 := by omega
 go_enter Tryz.func146, Tryz.ntmps146
 go_wp2_with fail
 refine HCK.out.mono ?_
 rintro e w1 ⟨rfl, hb1⟩
 have HB1 := Aside0.mk hb1
 clear hb1
 dsimp only
 by_cases hq0 : q = 0
 ·subst hq0
  go_upto_region 4 with fail
  by_cases hbad : (ct : Int) < 1 ∨ (2016 : Int) < (ct : Int) ∨ (n : Int) < (fr : Int) ∨ (n : Int) < (fr : Int) + (ct : Int)
  ·by_cases h1 : (ct : Int) < 1
   ·go_wp2
    go_ret2
    exact wk_bad 22 rfl HB1.out
   ·by_cases h2 : (2016 : Int) < (ct : Int)
    ·go_wp2
     go_ret2
     exact wk_bad 22 rfl HB1.out
    ·by_cases h3 : (n : Int) < (fr : Int)
     ·go_wp2
      go_ret2
      exact wk_bad 22 rfl HB1.out
     ·have h4 : (n : Int) < (fr : Int) + (ct : Int) := by omega
      go_wp2
      go_ret2
      exact wk_bad 22 rfl HB1.out
  ·have h1 : ¬ (ct : Int) < 1 := by omega
   have h2 : ¬ (2016 : Int) < (ct : Int) := by omega
   have h3 : ¬ (n : Int) < (fr : Int) := by omega
   have h4 : ¬ (n : Int) < (fr : Int) + (ct : Int) := by omega
   clear hbad
   go_wp2
   go_loopg [15, 16, 17] 2016 (fun g v i u wr => ∃ bs : List Bool, bs.length + g = 2016 ∧ i = .int .i64 (bs.length : Nat) ∧ Aside0 (wr.ownsRow w.heap.size 4 1 v bs.length (bs.map Value.bool)) ∧ Aside0 (Below w.heap.size w wr))
   case atStart => exact ⟨[], by simp, rfl, ⟨own_nil _ _ _ _⟩, HB1⟩
   case round =>
    obtain ⟨bs, hk, rfl, HO, HB⟩ := hrel
    cases gk with
    | zero =>
     obtain ⟨gb, cb, rfl, hrow, hbl⟩ := brow_of_own HO.out (by omega)
     have hby := rbytes_calls gb cb bs s wr hrow (by omega) hs0 hs1
     have h2016 : bs.length = 2016 := by omega
     rw [h2016] at hby ⊢
     have HBY := Aside0.mk hby
     clear hby hrow hbl hk h2016
     go_wp2_with fail
     refine HBY.out.mono ?_
     rintro e w2 ⟨g2, rfl, hg2, hr2, hb2⟩
     dsimp only
     have HF := Aside0.mk (And.intro hr2 hb2)
     have HG2 := Aside0.mk (Nat.le_trans HB.out.size hg2)
     clear hr2 hb2
     go_wp2
     go_ret2
     have hok := boB_ok bs s
     exact ⟨some ⟨g2, 0, none⟩, 256, boB bs s, 0, by rw [hok.1]; rfl, HF.out.1.reads (by omega), hok.2, by omega, by omega, (fun h => nomatch h), (fun ad h => by cases h; exact HG2.out), below_then HB.out HB.out.size HF.out.2⟩
    | succ g =>
     have hlt : (bs.length : Int) < 2016 := by omega
     have hltn : bs.length < 2016 := by omega
     have HS1 := Aside0.mk (HST.out wr HB.out (bs.length : Nat) (by omega) (by omega))
     obtain ⟨sb, hsb⟩ : ∃ sb, setI b ((bs.length : Nat) : Int) = sb := ⟨_, rfl⟩
     rw [hsb] at HS1
     have HOA := Aside0.mk (fun x : Bool => pw_own_below HO.out (below_alloc (Below.refl wr.heap.size wr) (.cells #[.bool x] 4)))
     have HBA := Aside0.mk (fun x : Bool => below_then HB.out HB.out.size (below_alloc (Below.refl wr.heap.size wr) (.cells #[.bool x] 4)))
     have HSZ := Aside0.mk (fun x : Bool => (HBA.out x).size)
     have HC1 := Aside0.mk (show ∀ (x : Bool) (j : Nat) (u : Value), [Value.bool x][j]? = some u → (wr.alloc (.cells #[.bool x] 4)).cell? ((⟨wr.heap.size, 0, none⟩ : Addr).add j) = some u from fun x j u hj => by
      rw [add_plain]
      exact (cell_of_obj (L := [.bool x]) (alloc_last wr (.cells #[.bool x] 4)) j).trans hj)
     have HC2 := Aside0.mk (show ∀ (x : Bool) (u : Value), u ∈ [Value.bool x] → u.oneCell' = true from fun x u hu => by
      simp only [List.mem_cons, List.not_mem_nil, or_false] at hu
      subst hu
      rfl)
     clear hsb
     go_wp2_with fail
     refine HS1.out.mono ?_
     rintro e w2 ⟨rfl, rfl⟩
     dsimp only
     by_cases c1 : (fr : Int) ≤ (bs.length : Int)
     ·by_cases c2 : (bs.length : Int) < (fr : Int) + (ct : Int)
      ·by_cases c3 : sb = on
       ·subst c3
        go_wp2
        go_ret2
        exact wk_bad 117 rfl HB.out
       ·have c4 : (sb == on) = false := by simpa using c3
        go_upto_region 9 with (at_builtin; go_loud (refine wpList_append_own _ rfl (.tmp 68) (.tmp 70) 149 rfl w.heap.size 4 i0 (.bool false) 1 1 Tryz.underlying149 hi hz0 hz1 hz2 rfl (by decide) _ bs.length (bs.map Value.bool) rfl (HOA.out on) ⟨wr.heap.size, 0, none⟩ 1 1 [.bool on] rfl rfl (HC1.out on) (HC2.out on) (by simp only [maxLen]; omega) (by omega) (HSZ.out on) ?_; intro v1 w3 h2 h3 _; have H2 := Aside0.mk (And.intro h2 h3); clear h2 h3))
        have HB3 := Aside0.mk (pw_below_grown (HBA.out on) _ (HSZ.out on) H2.out.2 (own_base (HOA.out on)))
        have HO3 := Aside0.mk (own_snocB H2.out.1)
        clear H2
        go_wp2
        go_roundg g
        case measure => omega
        case rel => exact ⟨bs ++ [on], by rw [List.length_append]; simp only [List.length_cons, List.length_nil]; omega, by rw [List.length_append]; go_num, HO3, HB3⟩
      ·have c2' : ¬ (bs.length : Int) < (fr : Int) + (ct : Int) := c2
       go_upto_region 9 with (at_builtin; go_loud (refine wpList_append_own _ rfl (.tmp 68) (.tmp 70) 149 rfl w.heap.size 4 i0 (.bool false) 1 1 Tryz.underlying149 hi hz0 hz1 hz2 rfl (by decide) _ bs.length (bs.map Value.bool) rfl (HOA.out sb) ⟨wr.heap.size, 0, none⟩ 1 1 [.bool sb] rfl rfl (HC1.out sb) (HC2.out sb) (by simp only [maxLen]; omega) (by omega) (HSZ.out sb) ?_; intro v1 w3 h2 h3 _; have H2 := Aside0.mk (And.intro h2 h3); clear h2 h3))
       have HB3 := Aside0.mk (pw_below_grown (HBA.out sb) _ (HSZ.out sb) H2.out.2 (own_base (HOA.out sb)))
       have HO3 := Aside0.mk (own_snocB H2.out.1)
       clear H2
       go_wp2
       go_roundg g
       case measure => omega
       case rel => exact ⟨bs ++ [sb], by rw [List.length_append]; simp only [List.length_cons, List.length_nil]; omega, by rw [List.length_append]; go_num, HO3, HB3⟩
     ·have c1' : ¬ (fr : Int) ≤ (bs.length : Int) := c1
      go_upto_region 9 with (at_builtin; go_loud (refine wpList_append_own _ rfl (.tmp 68) (.tmp 70) 149 rfl w.heap.size 4 i0 (.bool false) 1 1 Tryz.underlying149 hi hz0 hz1 hz2 rfl (by decide) _ bs.length (bs.map Value.bool) rfl (HOA.out sb) ⟨wr.heap.size, 0, none⟩ 1 1 [.bool sb] rfl rfl (HC1.out sb) (HC2.out sb) (by simp only [maxLen]; omega) (by omega) (HSZ.out sb) ?_; intro v1 w3 h2 h3 _; have H2 := Aside0.mk (And.intro h2 h3); clear h2 h3))
      have HB3 := Aside0.mk (pw_below_grown (HBA.out sb) _ (HSZ.out sb) H2.out.2 (own_base (HOA.out sb)))
      have HO3 := Aside0.mk (own_snocB H2.out.1)
      clear H2
      go_wp2
      go_roundg g
      case measure => omega
      case rel => exact ⟨bs ++ [sb], by rw [List.length_append]; simp only [List.length_cons, List.length_nil]; omega, by rw [List.length_append]; go_num, HO3, HB3⟩
 ·go_wp2
  go_ret2
  exact wk_bad q rfl HB1.out
set_option maxHeartbeats 1000000 in
set_option maxRecDepth 100000 in
theorem rsum_calls (A : Option Addr) (c : Nat) (l : List Int) (w : World) (hr : Kd.C (Kd.int .i64) w A l.length l) (hl : l.length ≤ 1000000) (hw : widthsOk l) :
  Calls Tryz.prog 183 #[.slice A l.length c] w fun e w' => e = .returned (.tuple #[.int .i64 (sumI l), .bool true]) ∧ w = w' := by
 have HR := Aside0.mk hr
 have HW := Aside0.mk (fun k hk => widths_at hw k hk)
 have HS := Aside0.mk (fun k hk => sumI_range hw k hk)
 clear hr hw
 go_enter Tryz.func183, Tryz.ntmps183
 go_wp2
 go_loopg [4, 5] l.length (fun g x i wr => ∃ k : Nat, k + g = l.length ∧ x = .int .i64 (sumI (l.take k)) ∧ i = .int .i64 k ∧ w = wr)
 case atStart => exact ⟨0, by omega, rfl, rfl, rfl⟩
 case round =>
  obtain ⟨k, hk, rfl, rfl, rfl⟩ := hrel
  have hs := HS.out k (by omega)
  obtain ⟨y, hy⟩ : ∃ y, sumI (l.take k) = y := ⟨_, rfl⟩
  rw [hy] at hs ⊢
  have HY := Aside0.mk hy
  cases gk with
  | zero =>
   obtain rfl : k = l.length := by omega
   clear hy
   go_wp2
   go_ret2
   exact ⟨by rw [← HY.out, List.take_length]; rfl, rfl⟩
  | succ g =>
   have hsn := sumI_snoc l k (by omega)
   rw [hy] at hsn
   have hx := HW.out k (by omega)
   obtain ⟨ad, rfl, hc⟩ := C_int_at HR.out k (by omega)
   generalize l.getD k 0 = x at hsn hx hc
   have HSN := Aside0.mk hsn
   have i1 : (k : Int) < (l.length : Int) := by omega
   have i2 : ¬ x < 1 := by omega
   have i3 : ¬ (8 : Int) < x := by omega
   clear hy hsn
   go_wp2
   go_roundg g
   case measure => omega
   case rel => exact ⟨k + 1, by omega, by rw [HSN.out], by go_num, rfl⟩
set_option maxHeartbeats 4000000 in
set_option maxRecDepth 100000 in
theorem rpackw_calls (A B : Option Addr) (c d : Nat) (xs ws : List Int) (w : World) (hx : Kd.C (Kd.int .u64) w A xs.length xs) (hw : Kd.C (Kd.int .i64) w B ws.length ws) (hlen : xs.length = ws.length) (hl : ws.length ≤ 1000) (hok : widthsOk ws) (hs : sumI ws ≤ 256) (hgo : goesIn xs ws) :
  Calls Tryz.prog 166 #[.slice A xs.length c, .slice B ws.length d, .int .i64 256] w fun e w' => ∃ g, e = .returned (.tuple #[.slice (some ⟨g, 0, none⟩) 256 256, .int .i64 0]) ∧ w.heap.size ≤ g ∧ Row w' .u8 g 5 (packW xs ws 256) ∧ Below w.heap.size w w' := by
 have HX := Aside0.mk hx
 have HW := Aside0.mk hw
 have HWC := Aside0.mk (rsum_calls B d ws w hw (by omega) hok)
 have HGO := Aside0.mk hgo
 have HOK := Aside0.mk hok
 have HS0 := Aside0.mk (fun k hk => sumI_range hok k hk)
 have HS1 := Aside0.mk (fun k hk => sumI_all hok k hk)
 have hq0 := sumI_range hok ws.length (Nat.le_refl _)
 rw [List.take_length] at hq0
 obtain ⟨q, hq⟩ : ∃ q, sumI ws = q := ⟨_, rfl⟩
 rw [hq] at HWC hs hq0
 have HQ := Aside0.mk hq
 have HLEN := Aside0.mk hlen
 have hmk : ∀ w : World, (Instr.makeSlice 23 (.int .i64 256) (.int .i64 256)).run Tryz.prog w = .ok (.slice (some ⟨w.heap.size, 0, none⟩) 256 256) (noughts w) := make256
 have HN := Aside0.mk (show Row (noughts w) .u8 w.heap.size 5 (List.replicate 256 0) from row_last _ _ _ _)
 have HB := Aside0.mk (show Below w.heap.size w (noughts w) from below_alloc (Below.refl _ _) _)
 obtain ⟨m, hm⟩ : ∃ m, ws.length = m := ⟨_, rfl⟩
 rw [hlen, hm]
 rw [hm] at HWC hl
 have HM := Aside0.mk hm
 clear hx hw hgo hok hq hlen hm
 have hq256 : ¬ (256 : Int) < q := by omega
 go_enter Tryz.func166, Tryz.ntmps166
 go_wp2_with fail
 refine HWC.out.mono ?_
 rintro e w' ⟨rfl, rfl⟩
 dsimp only
 go_wp2
 obtain ⟨g0, hg0⟩ : ∃ g, w.heap.size = g := ⟨_, rfl⟩
 have hgs : w.heap.size ≤ g0 := by omega
 rw [show (⟨w.heap.size, 0, none⟩ : Addr) = ⟨g0, 0, none⟩ by rw [hg0]]
 rw [hg0] at HN
 clear hg0 hmk
 generalize noughts w = w2 at HN HB ⊢
 obtain ⟨z, hz⟩ : ∃ z, List.replicate 256 (0 : Int) = z := ⟨_, rfl⟩
 have hzl : z.length = 256 := by rw [← hz]; simp
 rw [hz] at HN
 have HZ := Aside0.mk hz
 have HZL := Aside0.mk hzl
 clear hz hzl
 go_loopg [11, 12, 13] m (fun g a i u wr => ∃ k : Nat, k + g = m ∧ a = .int .i64 (sumI (ws.take k)) ∧ i = .int .i64 k ∧ Aside0 (Row wr .u8 g0 5 (packGo xs ws z k)) ∧ Aside0 (Below w.heap.size w wr))
 case atStart => exact ⟨0, by omega, rfl, rfl, HN, HB⟩
 case round =>
  obtain ⟨k, hk, rfl, rfl, HR, HBr⟩ := hrel
  have hs0 := HS0.out k (by have := HM.out; omega)
  cases gk with
  | zero =>
   obtain rfl : k = m := by omega
   clear hs0
   go_wp2
   go_ret2
   refine ⟨g0, rfl, hgs, ?_, HBr.out⟩
   unfold packW
   rw [HZ.out, HM.out]
   exact HR.out
  | succ g =>
   have hkl : k < ws.length := by have := HM.out; omega
   have hw8 := widths_at HOK.out k hkl
   have hs1 := HS1.out k hkl
   obtain ⟨hg0, hg1⟩ := HGO.out k hkl
   have hsn := sumI_snoc ws k hkl
   have hpk : packGo xs ws z (k + 1) = layL (packGo xs ws z k) (sumI (ws.take k)).toNat (xs.getD k 0) (ws.getD k 0).toNat := rfl
   have hplen := (packGo_length xs ws z k).trans HZL.out
   rw [HQ.out] at hs1
   obtain ⟨ax, rfl, hcx⟩ := C_int_at (Kd.C_below HX.out HBr.out) k (by rw [HLEN.out]; exact hkl)
   obtain ⟨aw, rfl, hcw⟩ := C_int_at (Kd.C_below HW.out HBr.out) k hkl
   obtain ⟨n, hn⟩ : ∃ n : Nat, ws.getD k 0 = n := ⟨(ws.getD k 0).toNat, by omega⟩
   obtain ⟨a, ha⟩ : ∃ a : Nat, sumI (ws.take k) = a := ⟨(sumI (ws.take k)).toNat, by omega⟩
   obtain ⟨x, hx⟩ : ∃ x, xs.getD k 0 = x := ⟨_, rfl⟩
   have HNN := Aside0.mk hn
   rw [hn] at hw8 hs1 hg1 hsn hcw hpk
   rw [ha] at hs1 hsn hpk ⊢
   rw [hx] at hg0 hg1 hcx hpk
   rw [Int.toNat_natCast] at hg1 hpk
   rw [Int.toNat_natCast] at hpk
   have hn8 : n ≤ 8 := by omega
   have hn1 : 1 ≤ n := by omega
   have han : a + n ≤ 256 := by omega
   have HLAY := Aside0.mk (fun (W : World) (hW : Row W .u8 g0 5 (packGo xs ws z k)) => rput_calls g0 a n 256 x W _ hW (by omega) hn1 hn8 (by rw [hplen]; exact han) hg0 hg1)
   rw [← hpk, hplen] at HLAY
   have HPK := Aside0.mk hpk
   have HSN := Aside0.mk hsn
   have i1 : (k : Int) < (m : Int) := by omega
   have i2 : k < m := by omega
   clear hpk hsn hn ha hx hs1 hs0 hg1
   go_upto_region 9 with fail
   refine wp_region_in [0, 0, 0, 0, 0, 1, 0, 0, 0, 1, 3, 0] [10] (fun w' => w'.cell? (aw.add k) = some (.int .i64 n) ∧ w'.cell? (ax.add k) = some (.int .u64 x)) (by kernel_rfl) rfl (by kernel_rfl) (fun _ _ _ _ h => h) ⟨hcw, hcx⟩ ?_
   iterate 10 (first
    | (refine in_off0 (by rfl) ?_; simp only [Act.put, stA, stZ, stS, i64_w, i32_w])
    | (refine in_off1 (by rfl) ?_; simp only [Act.put, stA, stZ, stS, i64_w, i32_w])
    | (refine in_0 (v := ?_) (by rfl) rfl ?_ (a' := ?_) ?_ ?_; rotate_left; (intro w'; go_simp; with_reducible rfl); rotate_left; (simp only [Act.put, stA, stZ, stS, i64_w, i32_w]; rfl))
    | (refine in_1 (v := ?_) (by rfl) rfl ?_ (a' := ?_) ?_ ?_; rotate_left; (rintro w' hs; go_split_ands; go_simp; with_reducible rfl); rotate_left; (simp only [Act.put, stA, stZ, stS, i64_w, i32_w]; rfl)))
   refine in_3 (by rfl) (fun K hK => ?_)
   go_simp
   have hrd : Row wr.drew .u8 g0 5 (packGo xs ws z k) := HR.out
   with_reducible refine (HLAY.out wr.drew hrd).mono ?_
   rintro e w5 ⟨rfl, hr5, hm5⟩
   dsimp only
   refine hK _ _ ?_
   have HR5 := Aside0.mk hr5
   have HB5 := Aside0.mk (below_mod HBr.out.drew hm5 hgs)
   have hcw5 := Kd.C_below HW.out HB5.out
   obtain ⟨aw', e', hcw6⟩ := C_int_at hcw5 k hkl
   cases e'
   rw [HNN.out] at hcw6
   clear hK K hr5 hm5 hcx hcw hcw5 hrd
   try simp only [Act.put, stA, stZ, stS, i64_w, i32_w]
   iterate 1 (
    refine out_0 (v := ?_) (by rfl) rfl ?_ (a' := ?_) ?_ ?_
    rotate_left
    ·intro w'; go_simp; with_reducible rfl
    rotate_left
    ·simp only [Act.put, stA, stZ, stS, i64_w, i32_w]; rfl)
   refine out_nil ?_
   go_wp2
   go_roundg g
   case measure => omega
   case rel => exact ⟨k + 1, by omega, by rw [HSN.out], by go_num, HR5, HB5⟩
set_option maxHeartbeats 1000000 in
set_option maxRecDepth 100000 in
theorem rwithin_calls (x lo hi : Int) (w : World) : Calls Tryz.prog 163 #[.int .i64 x, .int .i64 lo, .int .i64 hi] w fun e w' => e = .returned (.bool (inI x lo hi)) ∧ w = w' := by
 unfold inI
 by_cases h1 : lo ≤ x
 ·by_cases h2 : x ≤ hi
  ·have e : (decide (lo ≤ x) && decide (x ≤ hi)) = true := by simp [h1, h2]
   rw [e]
   clear e
   go_enter Tryz.func163, Tryz.ntmps163
   go_wp2
   go_ret
   exact ⟨rfl, rfl⟩
  ·have e : (decide (lo ≤ x) && decide (x ≤ hi)) = false := by simp [h1, h2]
   rw [e]
   clear e
   go_enter Tryz.func163, Tryz.ntmps163
   go_wp2
   go_ret
   exact ⟨rfl, rfl⟩
 ·have e : (decide (lo ≤ x) && decide (x ≤ hi)) = false := by simp [h1]
  rw [e]
  clear e
  go_enter Tryz.func163, Tryz.ntmps163
  go_wp2
  go_ret
  exact ⟨rfl, rfl⟩
set_option maxHeartbeats 1000000 in
set_option maxRecDepth 100000 in
theorem rgroups_calls (B P I J q : Int) (w : World) (hB : 128 ≤ B ∧ B ≤ 4096) (hP : 32 ≤ P ∧ P ≤ 2016) (hq : (B - 1) / P = q) : Calls Tryz.prog 164 #[.agg #[.int .i64 B, .int .i64 P, .int .i64 I, .int .i64 J]] w fun e w' => e = .returned (.int .i64 (q + 1)) ∧ Below w.heap.size w w' := by
 have ht1 : (B + P - 1).tdiv P = q + 1 := by
  rw [Int.tdiv_eq_ediv_of_nonneg (by omega), show B + P - 1 = (B - 1) + P by omega, Int.add_ediv_of_dvd_right ⟨1, by omega⟩, Int.ediv_self (by omega), hq]
 have hd0 : 0 ≤ q := by rw [← hq]; exact Int.ediv_nonneg (by omega) (by omega)
 have hd1 : q ≤ B - 1 := by rw [← hq]; exact Int.ediv_le_self _ (by omega)
 have hP0 : ¬ P = 0 := by omega
 have hPm : ¬ P = -1 := by omega
 clear hq
 go_enter Tryz.func164, Tryz.ntmps164
 go_wp2
 go_ret
 exact ⟨rfl, below_alloc (Below.refl _ _) _⟩
set_option maxHeartbeats 2000000 in
set_option maxRecDepth 100000 in
theorem rgeo_calls (g : Geo) (w : World) : Calls Tryz.prog 110 #[g.v] w fun e w' => e = .returned (.int .i64 (geoI g)) ∧ Below w.heap.size w w' := by
 obtain ⟨r, hr⟩ : ∃ r, geoI g = r := ⟨_, rfl⟩
 rw [hr]
 obtain ⟨B, P, I, J⟩ := g
 unfold Geo.v
 dsimp only
 have hA : geoA ⟨B, P, I, J⟩ = (inI B 128 4096 && inI P 32 2016 && inI I 8 512 && (I % 2 == 0) && inI J 96 512) := rfl
 have hbad : geoA ⟨B, P, I, J⟩ = false → r = 22 := fun h => by rw [← hr]; unfold geoI; rw [h]; simp
 by_cases h1 : inI B 128 4096 = true
 ·by_cases h2 : inI P 32 2016 = true
  ·by_cases h3 : inI I 8 512 = true
   ·obtain ⟨i, rfl⟩ : ∃ i : Nat, I = i := ⟨I.toNat, by have := inI_iff.1 h3; omega⟩
    have h3' := inI_iff.1 h3
    have hand := i64_and_one i (by omega)
    by_cases h4 : i % 2 = 0
    ·rw [h4] at hand
     by_cases h5 : inI J 96 512 = true
     ·have hA1 : geoA ⟨B, P, (i : Int), J⟩ = true := by rw [hA, h1, h2, h3, h5]; simp; omega
      have hgd : r = if geoB ⟨B, P, (i : Int), J⟩ = true then 0 else 22 := by rw [← hr]; unfold geoI; rw [hA1]; simp
      have h1' := inI_iff.1 h1
      have h2' := inI_iff.1 h2
      have h5' := inI_iff.1 h5
      unfold geoB at hgd
      dsimp only at hgd
      have hd0 : 0 ≤ (B - 1) / P := Int.ediv_nonneg (by omega) (by omega)
      have hd1 : (B - 1) / P ≤ B - 1 := Int.ediv_le_self _ (by omega)
      have hm0 : 0 ≤ (B - 1) % P := Int.emod_nonneg _ (by omega)
      have hm1 : (B - 1) % P < P := Int.emod_lt_of_pos _ (by omega)
      have ht1 : (B - 1).tdiv P = (B - 1) / P := Int.tdiv_eq_ediv_of_nonneg (by omega)
      have ht2 : (B - 1).tmod P = (B - 1) % P := Int.tmod_eq_emod_of_nonneg (by omega)
      obtain ⟨q, hq⟩ : ∃ q, (B - 1) / P = q := ⟨_, rfl⟩
      obtain ⟨m, hm⟩ : ∃ m, (B - 1) % P = m := ⟨_, rfl⟩
      rw [hq] at hd0 hd1 hgd ht1
      rw [hm] at hm0 hm1 hgd ht2
      have hmul : P * q + m = B - 1 := by rw [← hq, ← hm]; exact Int.mul_ediv_add_emod _ _
      have hqP : 0 ≤ q * P := Int.mul_nonneg hd0 (by omega)
      obtain ⟨qp, hqp⟩ : ∃ qp, q * P = qp := ⟨_, rfl⟩
      rw [Int.mul_comm, hqp] at hmul
      rw [hqp] at hqP
      have HGR := Aside0.mk (fun (W : World) => rgroups_calls B P (i : Int) J q W (by omega) (by omega) hq)
      have HB0 := Aside0.mk (fun o => below_alloc (Below.refl w.heap.size w) o)
      have hP0 : ¬ P = 0 := by omega
      have hBP : ¬ (P = -1) := by omega
      have HGD := Aside0.mk hgd
      clear hA hbad hA1 hr hgd
      by_cases c1 : q < 14
      ·by_cases hbp : B ≤ P
       ·rw [Int.min_eq_left hbp] at HGD
        by_cases c2 : 5 + J + (i : Int) / 2 ≤ B
        ·by_cases c3 : 3 + (i : Int) / 2 ≤ m + 1
         ·have hr2 : r = 0 := by rw [HGD.out]; simp; omega
          subst hr2
          clear HGD
          go_enter Tryz.func110, Tryz.ntmps110
          go_wp2_with (first | (go_at_call 163; refine (rwithin_calls _ _ _ _).mono ?_; rintro e w' ⟨rfl, rfl⟩) | (go_at_call 164; refine (HGR.out _).mono ?_; rintro e w2 ⟨rfl, hb2⟩; have HB2 := Aside0.mk (below_then (HB0.out _) (HB0.out _).size hb2); have m0 := pw_cell_below hb2 (cell_alloc w #[.int .i64 B, .int .i64 P, .int .i64 (i : Int), .int .i64 J] 80 0 _ rfl); have m1 := pw_cell_below hb2 (cell_alloc w #[.int .i64 B, .int .i64 P, .int .i64 (i : Int), .int .i64 J] 80 1 _ rfl); have m2 := pw_cell_below hb2 (cell_alloc w #[.int .i64 B, .int .i64 P, .int .i64 (i : Int), .int .i64 J] 80 2 _ rfl); have m3 := pw_cell_below hb2 (cell_alloc w #[.int .i64 B, .int .i64 P, .int .i64 (i : Int), .int .i64 J] 80 3 _ rfl); clear hb2))
          all_goals first | (go_ret; exact ⟨rfl, HB2.out⟩) | (exfalso; omega)
         ·have hr2 : r = 22 := by rw [HGD.out]; simp; omega
          subst hr2
          clear HGD
          go_enter Tryz.func110, Tryz.ntmps110
          go_wp2_with (first | (go_at_call 163; refine (rwithin_calls _ _ _ _).mono ?_; rintro e w' ⟨rfl, rfl⟩) | (go_at_call 164; refine (HGR.out _).mono ?_; rintro e w2 ⟨rfl, hb2⟩; have HB2 := Aside0.mk (below_then (HB0.out _) (HB0.out _).size hb2); have m0 := pw_cell_below hb2 (cell_alloc w #[.int .i64 B, .int .i64 P, .int .i64 (i : Int), .int .i64 J] 80 0 _ rfl); have m1 := pw_cell_below hb2 (cell_alloc w #[.int .i64 B, .int .i64 P, .int .i64 (i : Int), .int .i64 J] 80 1 _ rfl); have m2 := pw_cell_below hb2 (cell_alloc w #[.int .i64 B, .int .i64 P, .int .i64 (i : Int), .int .i64 J] 80 2 _ rfl); have m3 := pw_cell_below hb2 (cell_alloc w #[.int .i64 B, .int .i64 P, .int .i64 (i : Int), .int .i64 J] 80 3 _ rfl); clear hb2))
          all_goals first | (go_ret; exact ⟨rfl, HB2.out⟩) | (exfalso; omega)
        ·have hr2 : r = 22 := by rw [HGD.out]; simp; omega
         subst hr2
         clear HGD
         go_enter Tryz.func110, Tryz.ntmps110
         go_wp2_with (first | (go_at_call 163; refine (rwithin_calls _ _ _ _).mono ?_; rintro e w' ⟨rfl, rfl⟩) | (go_at_call 164; refine (HGR.out _).mono ?_; rintro e w2 ⟨rfl, hb2⟩; have HB2 := Aside0.mk (below_then (HB0.out _) (HB0.out _).size hb2); have m0 := pw_cell_below hb2 (cell_alloc w #[.int .i64 B, .int .i64 P, .int .i64 (i : Int), .int .i64 J] 80 0 _ rfl); have m1 := pw_cell_below hb2 (cell_alloc w #[.int .i64 B, .int .i64 P, .int .i64 (i : Int), .int .i64 J] 80 1 _ rfl); have m2 := pw_cell_below hb2 (cell_alloc w #[.int .i64 B, .int .i64 P, .int .i64 (i : Int), .int .i64 J] 80 2 _ rfl); have m3 := pw_cell_below hb2 (cell_alloc w #[.int .i64 B, .int .i64 P, .int .i64 (i : Int), .int .i64 J] 80 3 _ rfl); clear hb2))
         all_goals first | (go_ret; exact ⟨rfl, HB2.out⟩) | (exfalso; omega)
       ·rw [Int.min_eq_right (by omega)] at HGD
        by_cases c2 : 5 + J + (i : Int) / 2 ≤ P
        ·by_cases c3 : 3 + (i : Int) / 2 ≤ m + 1
         ·have hr2 : r = 0 := by rw [HGD.out]; simp; omega
          subst hr2
          clear HGD
          go_enter Tryz.func110, Tryz.ntmps110
          go_wp2_with (first | (go_at_call 163; refine (rwithin_calls _ _ _ _).mono ?_; rintro e w' ⟨rfl, rfl⟩) | (go_at_call 164; refine (HGR.out _).mono ?_; rintro e w2 ⟨rfl, hb2⟩; have HB2 := Aside0.mk (below_then (HB0.out _) (HB0.out _).size hb2); have m0 := pw_cell_below hb2 (cell_alloc w #[.int .i64 B, .int .i64 P, .int .i64 (i : Int), .int .i64 J] 80 0 _ rfl); have m1 := pw_cell_below hb2 (cell_alloc w #[.int .i64 B, .int .i64 P, .int .i64 (i : Int), .int .i64 J] 80 1 _ rfl); have m2 := pw_cell_below hb2 (cell_alloc w #[.int .i64 B, .int .i64 P, .int .i64 (i : Int), .int .i64 J] 80 2 _ rfl); have m3 := pw_cell_below hb2 (cell_alloc w #[.int .i64 B, .int .i64 P, .int .i64 (i : Int), .int .i64 J] 80 3 _ rfl); clear hb2))
          all_goals first | (go_ret; exact ⟨rfl, HB2.out⟩) | (exfalso; omega)
         ·have hr2 : r = 22 := by rw [HGD.out]; simp; omega
          subst hr2
          clear HGD
          go_enter Tryz.func110, Tryz.ntmps110
          go_wp2_with (first | (go_at_call 163; refine (rwithin_calls _ _ _ _).mono ?_; rintro e w' ⟨rfl, rfl⟩) | (go_at_call 164; refine (HGR.out _).mono ?_; rintro e w2 ⟨rfl, hb2⟩; have HB2 := Aside0.mk (below_then (HB0.out _) (HB0.out _).size hb2); have m0 := pw_cell_below hb2 (cell_alloc w #[.int .i64 B, .int .i64 P, .int .i64 (i : Int), .int .i64 J] 80 0 _ rfl); have m1 := pw_cell_below hb2 (cell_alloc w #[.int .i64 B, .int .i64 P, .int .i64 (i : Int), .int .i64 J] 80 1 _ rfl); have m2 := pw_cell_below hb2 (cell_alloc w #[.int .i64 B, .int .i64 P, .int .i64 (i : Int), .int .i64 J] 80 2 _ rfl); have m3 := pw_cell_below hb2 (cell_alloc w #[.int .i64 B, .int .i64 P, .int .i64 (i : Int), .int .i64 J] 80 3 _ rfl); clear hb2))
          all_goals first | (go_ret; exact ⟨rfl, HB2.out⟩) | (exfalso; omega)
        ·have hr2 : r = 22 := by rw [HGD.out]; simp; omega
         subst hr2
         clear HGD
         go_enter Tryz.func110, Tryz.ntmps110
         go_wp2_with (first | (go_at_call 163; refine (rwithin_calls _ _ _ _).mono ?_; rintro e w' ⟨rfl, rfl⟩) | (go_at_call 164; refine (HGR.out _).mono ?_; rintro e w2 ⟨rfl, hb2⟩; have HB2 := Aside0.mk (below_then (HB0.out _) (HB0.out _).size hb2); have m0 := pw_cell_below hb2 (cell_alloc w #[.int .i64 B, .int .i64 P, .int .i64 (i : Int), .int .i64 J] 80 0 _ rfl); have m1 := pw_cell_below hb2 (cell_alloc w #[.int .i64 B, .int .i64 P, .int .i64 (i : Int), .int .i64 J] 80 1 _ rfl); have m2 := pw_cell_below hb2 (cell_alloc w #[.int .i64 B, .int .i64 P, .int .i64 (i : Int), .int .i64 J] 80 2 _ rfl); have m3 := pw_cell_below hb2 (cell_alloc w #[.int .i64 B, .int .i64 P, .int .i64 (i : Int), .int .i64 J] 80 3 _ rfl); clear hb2))
         all_goals first | (go_ret; exact ⟨rfl, HB2.out⟩) | (exfalso; omega)
      ·have hr2 : r = 22 := by rw [HGD.out]; simp; omega
       subst hr2
       clear HGD
       go_enter Tryz.func110, Tryz.ntmps110
       go_wp2_with (first | (go_at_call 163; refine (rwithin_calls _ _ _ _).mono ?_; rintro e w' ⟨rfl, rfl⟩) | (go_at_call 164; refine (HGR.out _).mono ?_; rintro e w2 ⟨rfl, hb2⟩; have HB2 := Aside0.mk (below_then (HB0.out _) (HB0.out _).size hb2); have m0 := pw_cell_below hb2 (cell_alloc w #[.int .i64 B, .int .i64 P, .int .i64 (i : Int), .int .i64 J] 80 0 _ rfl); have m1 := pw_cell_below hb2 (cell_alloc w #[.int .i64 B, .int .i64 P, .int .i64 (i : Int), .int .i64 J] 80 1 _ rfl); have m2 := pw_cell_below hb2 (cell_alloc w #[.int .i64 B, .int .i64 P, .int .i64 (i : Int), .int .i64 J] 80 2 _ rfl); have m3 := pw_cell_below hb2 (cell_alloc w #[.int .i64 B, .int .i64 P, .int .i64 (i : Int), .int .i64 J] 80 3 _ rfl); clear hb2))
       all_goals first | (go_ret; exact ⟨rfl, HB2.out⟩) | (exfalso; omega)
     ·have hr2 := hbad (by rw [hA, show inI J 96 512 = false by simpa using h5]; simp)
      subst hr2
      have h5' : inI J 96 512 = false := by simpa using h5
      clear hA hbad hr h5 h3'
      go_enter Tryz.func110, Tryz.ntmps110
      go_wp2_with (go_at_call 163; refine (rwithin_calls _ _ _ _).mono ?_; rintro e w' ⟨rfl, rfl⟩)
      all_goals first | (go_ret; exact ⟨rfl, below_alloc (Below.refl _ _) _⟩) | (exfalso; omega) | (exfalso; simp_all; done)
    ·rw [show i % 2 = 1 by omega] at hand
     have hr2 := hbad (by rw [hA]; have : ((i : Int) % 2 == 0) = false := by { rw [beq_eq_false_iff_ne]; omega }; rw [this]; simp)
     subst hr2
     clear hA hbad hr h3'
     go_enter Tryz.func110, Tryz.ntmps110
     go_wp2_with (go_at_call 163; refine (rwithin_calls _ _ _ _).mono ?_; rintro e w' ⟨rfl, rfl⟩)
     all_goals first | (go_ret; exact ⟨rfl, below_alloc (Below.refl _ _) _⟩) | (exfalso; omega) | (exfalso; simp_all; done)
   ·have h3' : inI I 8 512 = false := by simpa using h3
    have hr2 := hbad (by rw [hA, h3']; simp)
    subst hr2
    clear hA hbad hr h3
    go_enter Tryz.func110, Tryz.ntmps110
    go_wp2_with (go_at_call 163; refine (rwithin_calls _ _ _ _).mono ?_; rintro e w' ⟨rfl, rfl⟩)
    all_goals first | (go_ret; exact ⟨rfl, below_alloc (Below.refl _ _) _⟩) | (exfalso; omega) | (exfalso; simp_all; done)
  ·have h2' : inI P 32 2016 = false := by simpa using h2
   have hr2 := hbad (by rw [hA, h2']; simp)
   subst hr2
   clear hA hbad hr h2
   go_enter Tryz.func110, Tryz.ntmps110
   go_wp2_with (go_at_call 163; refine (rwithin_calls _ _ _ _).mono ?_; rintro e w' ⟨rfl, rfl⟩)
   all_goals first | (go_ret; exact ⟨rfl, below_alloc (Below.refl _ _) _⟩) | (exfalso; omega) | (exfalso; simp_all; done)
 ·have h1' : inI B 128 4096 = false := by simpa using h1
  have hr2 := hbad (by rw [hA, h1']; simp)
  subst hr2
  clear hA hbad hr h1
  go_enter Tryz.func110, Tryz.ntmps110
  go_wp2_with (go_at_call 163; refine (rwithin_calls _ _ _ _).mono ?_; rintro e w' ⟨rfl, rfl⟩)
  all_goals first | (go_ret; exact ⟨rfl, below_alloc (Below.refl _ _) _⟩) | (exfalso; omega) | (exfalso; simp_all; done)
set_option maxHeartbeats 1000000 in
set_option maxRecDepth 100000 in
theorem rgrps_calls (g : Geo) (w : World) : Calls Tryz.prog 111 #[g.v] w fun e w' => e = .returned (.int .i64 (groupsI g)) ∧ Below w.heap.size w w' := by
 have hz := fun h => geoI_zero (g := g) h
 have hcs := geoI_cases g
 obtain ⟨r, hr⟩ : ∃ r, groupsI g = r := ⟨_, rfl⟩
 have h0 : geoI g = 0 → r = (g.blocks - 1) / g.per + 1 := fun h => by rw [← hr]; unfold groupsI; rw [if_pos h]
 have h22 : geoI g = 22 → r = 0 := fun h => by rw [← hr]; unfold groupsI; rw [if_neg (by rw [h]; decide)]
 rw [hr]
 have HC := Aside0.mk (fun (W : World) => rgeo_calls g W)
 have HB0 := Aside0.mk (fun o => below_alloc (Below.refl w.heap.size w) o)
 obtain ⟨B, P, I, J⟩ := g
 unfold Geo.v at HC ⊢
 dsimp only at hz h0 HC ⊢
 rcases hcs with hc | hc
 ·have hr2 := h0 hc
  have hz2 := hz hc
  rw [hc] at HC
  obtain ⟨q, hq⟩ : ∃ q, (B - 1) / P = q := ⟨_, rfl⟩
  rw [hq] at hr2
  have HGR := Aside0.mk (fun (W : World) => rgroups_calls B P I J q W hz2.1 hz2.2.1 hq)
  subst hr2
  clear hz hz2 h0 h22 hc hr hq
  go_enter Tryz.func111, Tryz.ntmps111
  go_wp2_with fail
  refine (HC.out _).mono ?_
  rintro e w1 ⟨rfl, hb1⟩
  have HB1 := Aside0.mk (below_then (HB0.out _) (HB0.out _).size hb1)
  have m0 := pw_cell_below hb1 (cell_alloc w #[.int .i64 B, .int .i64 P, .int .i64 I, .int .i64 J] 80 0 _ rfl)
  have m1 := pw_cell_below hb1 (cell_alloc w #[.int .i64 B, .int .i64 P, .int .i64 I, .int .i64 J] 80 1 _ rfl)
  have m2 := pw_cell_below hb1 (cell_alloc w #[.int .i64 B, .int .i64 P, .int .i64 I, .int .i64 J] 80 2 _ rfl)
  have m3 := pw_cell_below hb1 (cell_alloc w #[.int .i64 B, .int .i64 P, .int .i64 I, .int .i64 J] 80 3 _ rfl)
  clear hb1
  dsimp only
  go_wp2_with fail
  refine (HGR.out _).mono ?_
  rintro e w2 ⟨rfl, hb2⟩
  have HB2 := Aside0.mk (below_then HB1.out HB1.out.size hb2)
  clear hb2 m0 m1 m2 m3
  dsimp only
  go_wp2
  go_ret
  exact ⟨rfl, HB2.out⟩
 ·have hr2 := h22 hc
  rw [hc] at HC
  subst hr2
  clear hz h0 h22 hc hr
  go_enter Tryz.func111, Tryz.ntmps111
  go_wp2_with fail
  refine (HC.out _).mono ?_
  rintro e w1 ⟨rfl, hb1⟩
  have HB1 := Aside0.mk (below_then (HB0.out _) (HB0.out _).size hb1)
  clear hb1
  dsimp only
  go_wp2
  go_ret
  exact ⟨rfl, HB1.out⟩
set_option maxHeartbeats 1000000 in
set_option maxRecDepth 100000 in
theorem rfixed_calls (g : Geo) (w : World) : Calls Tryz.prog 116 #[g.v] w fun e w' => e = .returned (.int .i64 (fixedI g)) ∧ Below w.heap.size w w' := by
 have HG := Aside0.mk (fun (W : World) => rgrps_calls g W)
 have HB0 := Aside0.mk (fun o => below_alloc (Below.refl w.heap.size w) o)
 have hgr := groupsI_range g
 have hcs := geoI_cases g
 have hzz := geoI_zero (g := g)
 have hfs := fixedI_sum (g := g)
 have hf0 : groupsI g = 0 → fixedI g = 0 := fun h => by unfold fixedI; rw [h]; rfl
 have hgz : geoI g = 22 → groupsI g = 0 := fun h => by unfold groupsI; rw [if_neg (by rw [h]; decide)]
 obtain ⟨r, hr⟩ : ∃ r, fixedI g = r := ⟨_, rfl⟩
 obtain ⟨n, hn⟩ : ∃ n, groupsI g = n := ⟨_, rfl⟩
 rw [hr] at hfs hf0 ⊢
 rw [hn] at HG hgr hfs hf0 hgz
 obtain ⟨B, P, I, J⟩ := g
 unfold Geo.v at HG ⊢
 dsimp only at HG hzz hfs ⊢
 by_cases h0 : n = 0
 ·obtain rfl := hf0 h0
  subst h0
  clear hcs hzz hfs hf0 hgz hr hn
  go_enter Tryz.func116, Tryz.ntmps116
  go_wp2_with fail
  refine (HG.out _).mono ?_
  rintro e w1 ⟨rfl, hb1⟩
  have HB1 := Aside0.mk (below_then (HB0.out _) (HB0.out _).size hb1)
  clear hb1
  dsimp only
  go_wp2
  go_ret
  exact ⟨rfl, HB1.out⟩
 ·have hz : geoI ⟨B, P, I, J⟩ = 0 := hcs.resolve_right (fun h => h0 (hgz h))
  have hz2 := hzz hz
  have hf2 := (hfs hz).1
  have hI : 8 ≤ I ∧ I ≤ 512 := hz2.2.2.1
  have hJ : 96 ≤ J ∧ J ≤ 512 := hz2.2.2.2.1
  have hti : I.tdiv 2 = I / 2 := Int.tdiv_eq_ediv_of_nonneg (by omega)
  obtain ⟨t, ht⟩ : ∃ t, I / 2 = t := ⟨_, rfl⟩
  have ht0 : 0 ≤ t ∧ t ≤ 256 := by omega
  rw [ht] at hf2 hti
  have hb1 : n * (2 + t) ≤ 14 * (2 + t) := Int.mul_le_mul_of_nonneg_right hgr.2 (by omega)
  have hb2 : 0 ≤ n * (2 + t) := Int.mul_nonneg hgr.1 (by omega)
  obtain ⟨p, hp⟩ : ∃ p, n * (2 + t) = p := ⟨_, rfl⟩
  rw [hp] at hf2 hb1 hb2
  have hnb : (n == 0) = false := by simpa using h0
  subst hf2
  clear hcs hzz hfs hf0 hgz hr hn hz hz2 h0
  go_enter Tryz.func116, Tryz.ntmps116
  go_wp2_with fail
  refine (HG.out _).mono ?_
  rintro e w1 ⟨rfl, hb1'⟩
  have HB1 := Aside0.mk (below_then (HB0.out _) (HB0.out _).size hb1')
  have m2 := pw_cell_below hb1' (cell_alloc w #[.int .i64 B, .int .i64 P, .int .i64 I, .int .i64 J] 80 2 _ rfl)
  have m3 := pw_cell_below hb1' (cell_alloc w #[.int .i64 B, .int .i64 P, .int .i64 I, .int .i64 J] 80 3 _ rfl)
  clear hb1'
  dsimp only
  go_wp2
  go_ret
  exact ⟨rfl, HB1.out⟩
set_option maxHeartbeats 4000000 in
set_option maxRecDepth 100000 in
theorem rmay_calls (s : Sup) (w : World) (h : supOk s = true) : Calls Tryz.prog 167 #[s.v] w fun e w' => e = .returned (.bool true) ∧ Below w.heap.size w w' := by
 have HG := Aside0.mk (fun (W : World) => rgrps_calls s.geo W)
 have HF := Aside0.mk (fun (W : World) => rfixed_calls s.geo W)
 obtain ⟨hz, _, _, _, _⟩ := sup_ranges h
 have hzz := geoI_zero hz
 have hgr := groupsI_range s.geo
 have hm : groupsI s.geo * s.geo.inodes ≤ 14 * 512 := Int.mul_le_mul hgr.2 hzz.2.2.1.2 (by omega) (by omega)
 have hm0 : 0 ≤ groupsI s.geo * s.geo.inodes := Int.mul_nonneg hgr.1 (by omega)
 have hf := fixedI_sum hz
 have hf2 : 0 ≤ groupsI s.geo * (2 + s.geo.inodes / 2) := Int.mul_nonneg hgr.1 (by omega)
 have hn0 : ¬ (groupsI s.geo = 0) := fun e => by
  unfold supOk at h
  rw [e] at h
  simp at h
 unfold supOk at h
 simp only [Bool.and_eq_true, decide_eq_true_eq] at h
 obtain ⟨⟨⟨⟨h0, h1⟩, h2⟩, h3⟩, h4⟩ := h
 have hwa : wrap64 (groupsI s.geo * s.geo.inodes) = groupsI s.geo * s.geo.inodes := by unfold wrap64; omega
 have hwf : wrap64 (s.geo.blocks - fixedI s.geo) = s.geo.blocks - fixedI s.geo := by unfold wrap64; omega
 obtain ⟨⟨B, P, I, J⟩, fb, fi, orp, mnt, clean⟩ := s
 unfold Geo.v at HG HF
 unfold Sup.v
 dsimp only at *
 obtain ⟨n, hn⟩ : ∃ n, groupsI ⟨B, P, I, J⟩ = n := ⟨_, rfl⟩
 obtain ⟨f, hff⟩ : ∃ f, fixedI ⟨B, P, I, J⟩ = f := ⟨_, rfl⟩
 rw [hn] at HG hn0 h2 h3 hwa
 rw [hff] at HF h1 hwf
 obtain ⟨a, ha⟩ : ∃ a, n * I = a := ⟨_, rfl⟩
 rw [ha] at h2 h3 hwa
 have HW := Aside0.mk (And.intro hwa hwf)
 have HI := Aside0.mk (And.intro h1 (And.intro h2 (And.intro h3 h4)))
 have HA := Aside0.mk ha
 clear hz hzz hgr hm hm0 hf hf2 hn hff h0 h1 h2 h3 h4 hwa hwf ha
 go_enter Tryz.func167, Tryz.ntmps167
 go_upto_region 1 with fail
 have hcells : ∀ (W : World), Below (w.alloc (.cells #[.int .i64 B, .int .i64 P, .int .i64 I, .int .i64 J, .int .i64 fb, .int .i64 fi, .int .i64 orp, .int .i64 mnt, .bool clean] 121)).heap.size (w.alloc (.cells #[.int .i64 B, .int .i64 P, .int .i64 I, .int .i64 J, .int .i64 fb, .int .i64 fi, .int .i64 orp, .int .i64 mnt, .bool clean] 121)) W →
   W.cell? ⟨w.heap.size, 0, none⟩ = some (.int .i64 B) ∧ W.cell? ⟨w.heap.size, 1, none⟩ = some (.int .i64 P) ∧ W.cell? ⟨w.heap.size, 2, none⟩ = some (.int .i64 I) ∧ W.cell? ⟨w.heap.size, 3, none⟩ = some (.int .i64 J) ∧ W.cell? ⟨w.heap.size, 4, none⟩ = some (.int .i64 fb) ∧ W.cell? ⟨w.heap.size, 5, none⟩ = some (.int .i64 fi) ∧ W.cell? ⟨w.heap.size, 6, none⟩ = some (.int .i64 orp) ∧ W.cell? ⟨w.heap.size, 7, none⟩ = some (.int .i64 mnt) := fun W hb => by
  have hx := fun j v hj => pw_cell_below hb (cell_alloc w #[.int .i64 B, .int .i64 P, .int .i64 I, .int .i64 J, .int .i64 fb, .int .i64 fi, .int .i64 orp, .int .i64 mnt, .bool clean] 121 j v hj)
  exact ⟨hx 0 _ rfl, hx 1 _ rfl, hx 2 _ rfl, hx 3 _ rfl, hx 4 _ rfl, hx 5 _ rfl, hx 6 _ rfl, hx 7 _ rfl⟩
 have HB0 := Aside0.mk (below_alloc (Below.refl w.heap.size w) (.cells #[.int .i64 B, .int .i64 P, .int .i64 I, .int .i64 J, .int .i64 fb, .int .i64 fi, .int .i64 orp, .int .i64 mnt, .bool clean] 121))
 generalize w.alloc (.cells #[.int .i64 B, .int .i64 P, .int .i64 I, .int .i64 J, .int .i64 fb, .int .i64 fi, .int .i64 orp, .int .i64 mnt, .bool clean] 121) = W0 at hcells HB0 ⊢
 have HC := Aside0.mk hcells
 obtain ⟨d0, d1, d2, d3, d4, d5, d6, d7⟩ := hcells W0 (Below.refl _ _)
 clear hcells
 go_wp2_with fail
 refine (HG.out W0).mono ?_
 rintro e w1 ⟨rfl, hb1⟩
 have HB1 := Aside0.mk hb1
 clear d0 d1 d2 d3 d4 d5 d6 d7
 obtain ⟨d0, d1, d2, d3, d4, d5, d6, d7⟩ := HC.out w1 hb1
 clear hb1
 dsimp only
 go_upto_region 5 with fail
 rw [HA.out, HW.out.1]
 refine wp_region_in [0, 1, 0, 0, 1, 0, 1, 2, 0, 2, 0, 0, 1, 0, 2, 0, 0, 0, 1, 0, 2, 0, 0, 0, 1, 2, 0, 0] [] (fun W => W.cell? ⟨w.heap.size, 0, none⟩ = some (.int .i64 B) ∧ W.cell? ⟨w.heap.size, 1, none⟩ = some (.int .i64 P) ∧ W.cell? ⟨w.heap.size, 2, none⟩ = some (.int .i64 I) ∧ W.cell? ⟨w.heap.size, 3, none⟩ = some (.int .i64 J) ∧ W.cell? ⟨w.heap.size, 4, none⟩ = some (.int .i64 fb) ∧ W.cell? ⟨w.heap.size, 5, none⟩ = some (.int .i64 fi) ∧ W.cell? ⟨w.heap.size, 6, none⟩ = some (.int .i64 orp) ∧ W.cell? ⟨w.heap.size, 7, none⟩ = some (.int .i64 mnt)) (by kernel_rfl) rfl (by kernel_rfl) (fun _ _ _ _ h => h) ⟨d0, d1, d2, d3, d4, d5, d6, d7⟩ ?_
 iterate 7 (first
  | (refine in_off0 (by rfl) ?_; simp only [Act.put, stA, stZ, stS, i64_w, i32_w])
  | (refine in_off1 (by rfl) ?_; simp only [Act.put, stA, stZ, stS, i64_w, i32_w])
  | (refine in_0 (v := ?_) (by rfl) rfl ?_ (a' := ?_) ?_ ?_; rotate_left; (intro w'; go_simp; with_reducible rfl); rotate_left; (simp only [Act.put, stA, stZ, stS, i64_w, i32_w]; rfl))
  | (refine in_1 (v := ?_) (by rfl) rfl ?_ (a' := ?_) ?_ ?_; rotate_left; (rintro w' hs; go_split_ands; go_simp; with_reducible rfl); rotate_left; (simp only [Act.put, stA, stZ, stS, i64_w, i32_w]; rfl)))
 refine in_2 (by rfl) (fun K hK => ?_)
 go_simp
 with_reducible refine (HF.out _).mono ?_
 rintro e w2 ⟨rfl, hb2⟩
 dsimp only
 have HB2 := Aside0.mk (below_then HB1.out HB1.out.size (below_then ((Below.refl w1.heap.size w1).drew) (Nat.le_refl _) hb2))
 have hS := HC.out w2 HB2.out
 refine hK _ _ hS ?_
 clear hK K hb2
 try simp only [Act.put, stA, stZ, stS, i64_w, i32_w]
 iterate 1 (first
  | (refine in_off0 (by rfl) ?_; simp only [Act.put, stA, stZ, stS, i64_w, i32_w])
  | (refine in_off1 (by rfl) ?_; simp only [Act.put, stA, stZ, stS, i64_w, i32_w])
  | (refine in_0 (v := ?_) (by rfl) rfl ?_ (a' := ?_) ?_ ?_; rotate_left; (intro w'; go_simp; with_reducible rfl); rotate_left; (simp only [Act.put, stA, stZ, stS, i64_w, i32_w]; rfl))
  | (refine in_1 (v := ?_) (by rfl) rfl ?_ (a' := ?_) ?_ ?_; rotate_left; (rintro w' hs; go_split_ands; go_simp; with_reducible rfl); rotate_left; (simp only [Act.put, stA, stZ, stS, i64_w, i32_w]; rfl)))
 rw [HW.out.2]
 have HT1 := Aside0.mk (fun W : World => HI.out.1 ▸ rwithin_calls fb 0 (B - f) W)
 have HT2 := Aside0.mk (fun W : World => HI.out.2.1 ▸ rwithin_calls fi 0 a W)
 have HT3 := Aside0.mk (fun W : World => HI.out.2.2.1 ▸ rwithin_calls orp 0 a W)
 have HT4 := Aside0.mk (fun W : World => HI.out.2.2.2 ▸ rwithin_calls mnt 0 2147483647 W)
 refine in_2 (by rfl) (fun K hK => ?_)
 go_simp
 refine (HT1.out _).mono ?_
 rintro e _w ⟨rfl, rfl⟩
 dsimp only
 refine hK _ _ hS ?_
 clear hK K
 try simp only [Act.put, stA, stZ, stS, i64_w, i32_w]
 iterate 4 (first
  | (refine in_off0 (by rfl) ?_; simp only [Act.put, stA, stZ, stS, i64_w, i32_w])
  | (refine in_off1 (by rfl) ?_; simp only [Act.put, stA, stZ, stS, i64_w, i32_w])
  | (refine in_0 (v := ?_) (by rfl) rfl ?_ (a' := ?_) ?_ ?_; rotate_left; (intro w'; go_simp; with_reducible rfl); rotate_left; (simp only [Act.put, stA, stZ, stS, i64_w, i32_w]; rfl))
  | (refine in_1 (v := ?_) (by rfl) rfl ?_ (a' := ?_) ?_ ?_; rotate_left; (rintro w' hs; go_split_ands; go_simp; with_reducible rfl); rotate_left; (simp only [Act.put, stA, stZ, stS, i64_w, i32_w]; rfl)))
 refine in_2 (by rfl) (fun K hK => ?_)
 go_simp
 refine (HT2.out _).mono ?_
 rintro e _w ⟨rfl, rfl⟩
 dsimp only
 refine hK _ _ hS ?_
 clear hK K
 try simp only [Act.put, stA, stZ, stS, i64_w, i32_w]
 iterate 5 (first
  | (refine in_off0 (by rfl) ?_; simp only [Act.put, stA, stZ, stS, i64_w, i32_w])
  | (refine in_off1 (by rfl) ?_; simp only [Act.put, stA, stZ, stS, i64_w, i32_w])
  | (refine in_0 (v := ?_) (by rfl) rfl ?_ (a' := ?_) ?_ ?_; rotate_left; (intro w'; go_simp; with_reducible rfl); rotate_left; (simp only [Act.put, stA, stZ, stS, i64_w, i32_w]; rfl))
  | (refine in_1 (v := ?_) (by rfl) rfl ?_ (a' := ?_) ?_ ?_; rotate_left; (rintro w' hs; go_split_ands; go_simp; with_reducible rfl); rotate_left; (simp only [Act.put, stA, stZ, stS, i64_w, i32_w]; rfl)))
 refine in_2 (by rfl) (fun K hK => ?_)
 go_simp
 refine (HT3.out _).mono ?_
 rintro e _w ⟨rfl, rfl⟩
 dsimp only
 refine hK _ _ hS ?_
 clear hK K
 try simp only [Act.put, stA, stZ, stS, i64_w, i32_w]
 iterate 4 (first
  | (refine in_off0 (by rfl) ?_; simp only [Act.put, stA, stZ, stS, i64_w, i32_w])
  | (refine in_off1 (by rfl) ?_; simp only [Act.put, stA, stZ, stS, i64_w, i32_w])
  | (refine in_0 (v := ?_) (by rfl) rfl ?_ (a' := ?_) ?_ ?_; rotate_left; (intro w'; go_simp; with_reducible rfl); rotate_left; (simp only [Act.put, stA, stZ, stS, i64_w, i32_w]; rfl))
  | (refine in_1 (v := ?_) (by rfl) rfl ?_ (a' := ?_) ?_ ?_; rotate_left; (rintro w' hs; go_split_ands; go_simp; with_reducible rfl); rotate_left; (simp only [Act.put, stA, stZ, stS, i64_w, i32_w]; rfl)))
 refine in_2 (by rfl) (fun K hK => ?_)
 go_simp
 refine (HT4.out _).mono ?_
 rintro e _w ⟨rfl, rfl⟩
 dsimp only
 refine hK _ _ hS ?_
 clear hK K
 try simp only [Act.put, stA, stZ, stS, i64_w, i32_w]
 iterate 2 (first
  | (refine in_off0 (by rfl) ?_; simp only [Act.put, stA, stZ, stS, i64_w, i32_w])
  | (refine in_off1 (by rfl) ?_; simp only [Act.put, stA, stZ, stS, i64_w, i32_w])
  | (refine in_0 (v := ?_) (by rfl) rfl ?_ (a' := ?_) ?_ ?_; rotate_left; (intro w'; go_simp; with_reducible rfl); rotate_left; (simp only [Act.put, stA, stZ, stS, i64_w, i32_w]; rfl))
  | (refine in_1 (v := ?_) (by rfl) rfl ?_ (a' := ?_) ?_ ?_; rotate_left; (rintro w' hs; go_split_ands; go_simp; with_reducible rfl); rotate_left; (simp only [Act.put, stA, stZ, stS, i64_w, i32_w]; rfl)))
 refine in_nil ?_
 go_wp2
 go_ret
 exact ⟨rfl, below_then HB0.out HB0.out.size HB2.out⟩
set_option maxHeartbeats 4000000 in
set_option maxRecDepth 100000 in
theorem rpsuper_calls (s : Sup) (w : World) (h : supOk s = true) (hcl : s.clean = false) : Calls Tryz.prog 115 #[s.v] w (BytesPost (psuperI s) w) := by
 have HM := Aside0.mk (fun W : World => rmay_calls s W h)
 have hgo := sup_goes h
 have hg : psuperI s = (blockI (wordsI s.nums) superW 0, 0) := by unfold psuperI; rw [if_pos h]
 have HG := Aside0.mk hg
 rw [hg]
 obtain ⟨ns, hns⟩ : ∃ ns, s.nums = ns := ⟨_, rfl⟩
 have hnum : ns = [1213813321, 1, s.geo.blocks, s.geo.per, s.geo.inodes, s.geo.journal, s.fb, s.fi, s.orp, s.mnt, 0] := by rw [← hns]; unfold Sup.nums; rw [hcl]; rfl
 rw [hns] at hgo ⊢
 have HGO := Aside0.mk hgo
 obtain ⟨⟨B, P, I, J⟩, fb, fi, orp, mnt, clean⟩ := s
 dsimp only at hcl hnum
 subst hcl
 unfold Sup.v at HM ⊢
 dsimp only at HM ⊢
 have hwn : wordsI ns = [1213813321, 1, IntKind.u64.wrap B, IntKind.u64.wrap P, IntKind.u64.wrap I, IntKind.u64.wrap J, IntKind.u64.wrap fb, IntKind.u64.wrap fi, IntKind.u64.wrap orp, IntKind.u64.wrap mnt, 0] := by rw [hnum]; rfl
 have HWN := Aside0.mk hwn
 clear hg hns hnum hgo hwn h
 go_enter Tryz.func115, Tryz.ntmps115
 go_upto_region 1 with fail
 have hcells : ∀ (W : World), Below (w.alloc (.cells #[.int .i64 B, .int .i64 P, .int .i64 I, .int .i64 J, .int .i64 fb, .int .i64 fi, .int .i64 orp, .int .i64 mnt, .bool false] 121)).heap.size (w.alloc (.cells #[.int .i64 B, .int .i64 P, .int .i64 I, .int .i64 J, .int .i64 fb, .int .i64 fi, .int .i64 orp, .int .i64 mnt, .bool false] 121)) W →
   W.cell? ⟨w.heap.size, 0, none⟩ = some (.int .i64 B) ∧ W.cell? ⟨w.heap.size, 1, none⟩ = some (.int .i64 P) ∧ W.cell? ⟨w.heap.size, 2, none⟩ = some (.int .i64 I) ∧ W.cell? ⟨w.heap.size, 3, none⟩ = some (.int .i64 J) ∧ W.cell? ⟨w.heap.size, 4, none⟩ = some (.int .i64 fb) ∧ W.cell? ⟨w.heap.size, 5, none⟩ = some (.int .i64 fi) ∧ W.cell? ⟨w.heap.size, 6, none⟩ = some (.int .i64 orp) ∧ W.cell? ⟨w.heap.size, 7, none⟩ = some (.int .i64 mnt) ∧ W.cell? ⟨w.heap.size, 8, none⟩ = some (.bool false) := fun W hb => by
  have hx := fun j v hj => pw_cell_below hb (cell_alloc w #[.int .i64 B, .int .i64 P, .int .i64 I, .int .i64 J, .int .i64 fb, .int .i64 fi, .int .i64 orp, .int .i64 mnt, .bool false] 121 j v hj)
  exact ⟨hx 0 _ rfl, hx 1 _ rfl, hx 2 _ rfl, hx 3 _ rfl, hx 4 _ rfl, hx 5 _ rfl, hx 6 _ rfl, hx 7 _ rfl, hx 8 _ rfl⟩
 have HB0 := Aside0.mk (below_alloc (Below.refl w.heap.size w) (.cells #[.int .i64 B, .int .i64 P, .int .i64 I, .int .i64 J, .int .i64 fb, .int .i64 fi, .int .i64 orp, .int .i64 mnt, .bool false] 121))
 generalize w.alloc (.cells #[.int .i64 B, .int .i64 P, .int .i64 I, .int .i64 J, .int .i64 fb, .int .i64 fi, .int .i64 orp, .int .i64 mnt, .bool false] 121) = W0 at hcells HB0 ⊢
 have HC := Aside0.mk hcells
 obtain ⟨d0, d1, d2, d3, d4, d5, d6, d7, d8⟩ := hcells W0 (Below.refl _ _)
 clear hcells
 go_wp2_with fail
 refine (HM.out W0).mono ?_
 rintro e w1 ⟨rfl, hb1⟩
 have HB1 := Aside0.mk hb1
 clear d0 d1 d2 d3 d4 d5 d6 d7 d8
 obtain ⟨d0, d1, d2, d3, d4, d5, d6, d7, d8⟩ := HC.out w1 hb1
 clear hb1
 dsimp only
 go_upto_region 7 with fail
 have hba := below_alloc (Below.refl w1.heap.size w1) (.cells #[.int .i64 B, .int .i64 P, .int .i64 I, .int .i64 J] 80)
 have e0 := cell_alloc w1 #[.int .i64 B, .int .i64 P, .int .i64 I, .int .i64 J] 80 0 _ rfl
 have e1 := cell_alloc w1 #[.int .i64 B, .int .i64 P, .int .i64 I, .int .i64 J] 80 1 _ rfl
 have e2 := cell_alloc w1 #[.int .i64 B, .int .i64 P, .int .i64 I, .int .i64 J] 80 2 _ rfl
 have e3 := cell_alloc w1 #[.int .i64 B, .int .i64 P, .int .i64 I, .int .i64 J] 80 3 _ rfl
 have HB2 := Aside0.mk (below_then HB1.out HB1.out.size hba)
 clear d0 d1 d2 d3 d4 d5 d6 d7 d8 hba
 obtain ⟨d0, d1, d2, d3, d4, d5, d6, d7, d8⟩ := HC.out _ HB2.out
 generalize w1.alloc (.cells #[.int .i64 B, .int .i64 P, .int .i64 I, .int .i64 J] 80) = w2 at d0 d1 d2 d3 d4 d5 d6 d7 d8 e0 e1 e2 e3 HB2 ⊢
 generalize w1.heap.size = q1 at e0 e1 e2 e3 ⊢
 go_upto_region 8 with fail
 have hrow : Row (w2.alloc (.cells #[.int .u64 1213813321, .int .u64 1, .int .u64 (IntKind.u64.wrap B), .int .u64 (IntKind.u64.wrap P), .int .u64 (IntKind.u64.wrap I), .int .u64 (IntKind.u64.wrap J), .int .u64 (IntKind.u64.wrap fb), .int .u64 (IntKind.u64.wrap fi), .int .u64 (IntKind.u64.wrap orp), .int .u64 (IntKind.u64.wrap mnt), .int .u64 0] 163)) .u64 w2.heap.size 163 (wordsI ns) := by
  rw [HWN.out]
  exact row_last w2 .u64 163 [1213813321, 1, IntKind.u64.wrap B, IntKind.u64.wrap P, IntKind.u64.wrap I, IntKind.u64.wrap J, IntKind.u64.wrap fb, IntKind.u64.wrap fi, IntKind.u64.wrap orp, IntKind.u64.wrap mnt, 0]
 have hb3 := below_alloc (Below.refl w2.heap.size w2) (.cells #[.int .u64 1213813321, .int .u64 1, .int .u64 (IntKind.u64.wrap B), .int .u64 (IntKind.u64.wrap P), .int .u64 (IntKind.u64.wrap I), .int .u64 (IntKind.u64.wrap J), .int .u64 (IntKind.u64.wrap fb), .int .u64 (IntKind.u64.wrap fi), .int .u64 (IntKind.u64.wrap orp), .int .u64 (IntKind.u64.wrap mnt), .int .u64 0] 163)
 generalize w2.alloc (.cells #[.int .u64 1213813321, .int .u64 1, .int .u64 (IntKind.u64.wrap B), .int .u64 (IntKind.u64.wrap P), .int .u64 (IntKind.u64.wrap I), .int .u64 (IntKind.u64.wrap J), .int .u64 (IntKind.u64.wrap fb), .int .u64 (IntKind.u64.wrap fi), .int .u64 (IntKind.u64.wrap orp), .int .u64 (IntKind.u64.wrap mnt), .int .u64 0] 163) = w3 at hrow hb3 ⊢
 obtain ⟨q2, hq2⟩ : ∃ q2, w2.heap.size = q2 := ⟨_, rfl⟩
 have HB3 := Aside0.mk (below_then HB2.out HB2.out.size hb3)
 rw [hq2] at hrow ⊢
 have hlen : (wordsI ns).length = 11 := by rw [HWN.out]; rfl
 have hrow2 : Row (w3.alloc (.cells #[.int .i64 4, .int .i64 2, .int .i64 4, .int .i64 4, .int .i64 4, .int .i64 4, .int .i64 4, .int .i64 4, .int .i64 4, .int .i64 4, .int .i64 1] 3)) .i64 w3.heap.size 3 superW := row_last w3 .i64 3 superW
 have hb4 := below_alloc (Below.refl w3.heap.size w3) (.cells #[.int .i64 4, .int .i64 2, .int .i64 4, .int .i64 4, .int .i64 4, .int .i64 4, .int .i64 4, .int .i64 4, .int .i64 4, .int .i64 4, .int .i64 1] 3)
 have hpk := rpackw_calls (some ⟨q2, 0, none⟩) (some ⟨w3.heap.size, 0, none⟩) 11 11 (wordsI ns) superW (w3.alloc (.cells #[.int .i64 4, .int .i64 2, .int .i64 4, .int .i64 4, .int .i64 4, .int .i64 4, .int .i64 4, .int .i64 4, .int .i64 4, .int .i64 4, .int .i64 1] 3)) ((hrow.below hb4).reads (by omega)) (hrow2.reads (by decide)) (by rw [hlen]; rfl) (by decide) superW_ok superW_sum HGO.out
 rw [hlen] at hpk
 have HPK := Aside0.mk hpk
 have HB4 := Aside0.mk (below_then HB3.out HB3.out.size hb4)
 clear hrow hrow2 hb3 hb4 hpk hq2 d0 d1 d2 d3 d4 d5 d6 d7 d8 e0 e1 e2 e3
 go_wp2_with fail
 refine HPK.out.mono ?_
 rintro e w5 ⟨g5, rfl, hg5, hr5, hb5⟩
 have HB5 := Aside0.mk (below_then HB4.out HB4.out.size hb5)
 have hpl : (packW (wordsI ns) superW 256).length = 256 := by unfold packW; rw [packGo_length]; simp
 have HPL := Aside0.mk hpl
 have hsl := rseal_calls g5 252 256 0 w5 _ hr5 (by rw [hpl]) (by omega) (by omega) (by omega) (by omega) (packGo_allB (fun x hx => by rw [List.eq_of_mem_replicate hx]; omega) _ _ _)
 have HSL := Aside0.mk hsl
 have HG5 := Aside0.mk hg5
 clear hr5 hb5 hsl hpl hg5 hlen
 dsimp only
 go_wp2_with fail
 refine HSL.out.mono ?_
 rintro e w6 ⟨rfl, hr6, hm6⟩
 have HR6 := Aside0.mk hr6
 have hgw : w.heap.size ≤ g5 := Nat.le_trans (Nat.le_trans HB0.out.size HB4.out.size) HG5.out
 have HB6 := Aside0.mk (below_mod (below_then HB0.out HB0.out.size HB5.out) hm6 hgw)
 clear hr6 hm6
 dsimp only
 go_wp2
 go_ret2
 exact bytesPost_good rfl (by rw [blockI_length]) rfl hgw (Nat.le_refl _) HR6.out HB6.out
theorem grp_take (l : List Grp) (k : Nat) (h : k < l.length) : (l.take (k + 1)).flatMap gnums = (l.take k).flatMap gnums ++ gnums (grpAt l k) := by
 rw [List.take_succ_eq_append_getElem h, List.flatMap_append]
 simp [grpAt, List.getD_eq_getElem?_getD, h]
theorem grp_take_len (l : List Grp) (k : Nat) (h : k ≤ l.length) : ((l.take k).flatMap gnums).length = 3 * k := by
 induction k with
 | zero => simp
 | succ k ih => rw [grp_take l k (by omega), List.length_append, ih (by omega)]; simp [gnums]; omega
set_option maxHeartbeats 4000000 in
set_option maxRecDepth 100000 in
theorem rpgroups_calls (A : Option Addr) (c : Nat) (l : List Grp) (w : World) (hl : Grps w A l) (h1 : 1 ≤ l.length) (h14 : l.length ≤ 14) (hok : l.all gOk = true) :
  Calls Tryz.prog 114 #[.slice A l.length c] w (BytesPost (pgroupsI l) w) := by
 have HL := Aside0.mk hl
 have hg : pgroupsI l = (blockI (wordsI (l.flatMap gnums)) (groupW l.length) 1, 0) := by unfold pgroupsI; rw [if_pos ⟨h1, h14, hok⟩]
 rw [hg]
 have HOK := Aside0.mk (show ∀ k, k < l.length → inI (grpAt l k).fb 0 65535 = true ∧ inI (grpAt l k).fi 0 65535 = true ∧ inI (grpAt l k).dirs 0 65535 = true from fun k hk => by
  have hm : grpAt l k ∈ l := by unfold grpAt; rw [List.getD_eq_getElem?_getD, List.getElem?_eq_getElem hk]; exact List.getElem_mem hk
  have := List.all_eq_true.1 hok _ hm
  unfold gOk at this
  simp only [Bool.and_eq_true] at this
  exact ⟨this.1.1, this.1.2, this.2⟩)
 obtain ⟨i0, hi, hz0, hz1, hz2⟩ := info_parts infoU64
 obtain ⟨j0, hj, hy0, hy1, hy2⟩ := info_parts infoIntS
 obtain ⟨m, hm⟩ : ∃ m, l.length = m := ⟨_, rfl⟩
 rw [hm] at h1 h14 HOK ⊢
 have HM := Aside0.mk hm
 have HGO := Aside0.mk (groups_go hok)
 clear hl hg hok hm
 have i1 : ¬ (m : Int) < 1 := by omega
 have i2 : ¬ (14 : Int) < (m : Int) := by omega
 go_enter Tryz.func114, Tryz.ntmps114
 go_wp2
 go_loopg [4, 5, 6] m (fun g v u i wr => ∃ k : Nat, k + g = m ∧ i = .int .i64 k ∧ Aside0 (Own wr w.heap.size 163 .u64 v (wordsI ((l.take k).flatMap gnums))) ∧ Aside0 (Own wr w.heap.size 3 .i64 u (groupW k)) ∧ Aside0 (Below w.heap.size w wr))
 case atStart => exact ⟨0, by omega, rfl, ⟨own_of_nil _ _ _ _⟩, ⟨own_of_nil _ _ _ _⟩, ⟨Below.refl _ _⟩⟩
 case round =>
  obtain ⟨k, hk, rfl, HV, HU, HB⟩ := hrel
  cases gk with
  | zero =>
   obtain rfl : k = m := by omega
   have htk : l.take k = l := by rw [← HM.out, List.take_length]
   have hgl := grp_take_len l k (by rw [HM.out]; exact Nat.le_refl _)
   rw [htk] at HV hgl
   obtain ⟨A1, c1, rfl, _, hr1⟩ := HV.out.reads
   obtain ⟨A2, c2, rfl, _, hr2⟩ := HU.out.reads
   have hwl : (wordsI (l.flatMap gnums)).length = 3 * k := by rw [wordsI_len, hgl]
   have hpk := rpackw_calls A1 A2 c1 c2 (wordsI (l.flatMap gnums)) (groupW k) wr hr1 hr2 (by rw [hwl, groupW_len]) (by rw [groupW_len]; omega) (groupW_ok k) (by rw [groupW_sum]; omega) (by have := HGO.out; rw [HM.out] at this; exact this)
   rw [hwl, groupW_len] at hpk ⊢
   have HPK := Aside0.mk hpk
   clear hpk hwl hr1 hr2 htk hgl
   go_wp2_with fail
   refine HPK.out.mono ?_
   rintro e w5 ⟨g5, rfl, hg5, hr5, hb5⟩
   have HB5 := Aside0.mk (below_then HB.out HB.out.size hb5)
   have hpl : (packW (wordsI (l.flatMap gnums)) (groupW k) 256).length = 256 := by unfold packW; rw [packGo_length]; simp
   have hsl := rseal_calls g5 252 256 1 w5 _ hr5 (by rw [hpl]) (by omega) (by omega) (by omega) (by omega) (packGo_allB (fun x hx => by rw [List.eq_of_mem_replicate hx]; omega) _ _ _)
   have HSL := Aside0.mk hsl
   have hgw : w.heap.size ≤ g5 := Nat.le_trans HB.out.size hg5
   have HGW := Aside0.mk hgw
   clear hr5 hb5 hsl hpl hg5 hgw
   dsimp only
   go_wp2_with fail
   refine HSL.out.mono ?_
   rintro e w6 ⟨rfl, hr6, hm6⟩
   have HR6 := Aside0.mk hr6
   have HB6 := Aside0.mk (below_mod HB5.out hm6 HGW.out)
   clear hr6 hm6
   dsimp only
   go_wp2
   go_ret2
   exact bytesPost_good rfl (by rw [blockI_length]) rfl HGW.out (Nat.le_refl _) HR6.out HB6.out
  | succ g =>
   have hkm : k < l.length := by have := HM.out; omega
   obtain ⟨ad, rfl, c0, c1, c2⟩ := (HL.out.below HB.out) k hkm
   have hgt := grp_take l k hkm
   have hgl := grp_take_len l k (by omega)
   obtain ⟨b0, b1, b2⟩ := HOK.out k (by omega)
   obtain ⟨x, hx⟩ : ∃ x, grpAt l k = x := ⟨_, rfl⟩
   rw [hx] at c0 c1 c2 hgt b0 b1 b2
   obtain ⟨fb, fi, dirs⟩ := x
   dsimp only at c0 c1 c2 b0 b1 b2
   have HGT := Aside0.mk (And.intro hgt hgl)
   have HXX := Aside0.mk hx
   have HT1 := Aside0.mk (fun W : World => b0 ▸ rwithin_calls fb 0 65535 W)
   have HT2 := Aside0.mk (fun W : World => b1 ▸ rwithin_calls fi 0 65535 W)
   have HT3 := Aside0.mk (fun W : World => b2 ▸ rwithin_calls dirs 0 65535 W)
   have i3 : (k : Int) < (m : Int) := by omega
   have i4 : k < m := by omega
   clear hgt hgl b0 b1 b2 hx
   go_upto_region 8 with fail
   go_wp2_with fail
   refine (HT1.out wr).mono ?_
   rintro e w2 ⟨rfl, rfl⟩
   dsimp only
   go_wp2_with fail
   refine (HT2.out wr).mono ?_
   rintro e w2 ⟨rfl, rfl⟩
   dsimp only
   go_wp2_with fail
   refine (HT3.out wr).mono ?_
   rintro e w2 ⟨rfl, rfl⟩
   dsimp only
   go_upto_region 10 with fail
   obtain ⟨L, hL⟩ : ∃ L, wordsI ((l.take k).flatMap gnums) = L := ⟨_, rfl⟩
   have hLn : L.length = 3 * k := by rw [← hL, wordsI_len, HGT.out.2]
   have hL1 : wordsI ((l.take (k + 1)).flatMap gnums) = L ++ [IntKind.u64.wrap fb, IntKind.u64.wrap fi, IntKind.u64.wrap dirs] := by rw [HGT.out.1, ← hL]; unfold wordsI; rw [List.map_append]; rfl
   rw [hL] at HV
   have HLL := Aside0.mk (And.intro hLn hL1)
   clear hL hLn hL1
   refine wp_region_in [0, 0, 0, 0, 0, 1, 0, 0, 0, 0, 0, 1, 0, 0, 0, 0, 0, 1, 0, 2, 2, 0] [] (fun W => W.cell? (ad.add (k * 3)) = some (.int .i64 fb) ∧ W.cell? ⟨(ad.add (k * 3)).block, (ad.add (k * 3)).off + 1, none⟩ = some (.int .i64 fi) ∧ W.cell? ⟨(ad.add (k * 3)).block, (ad.add (k * 3)).off + 2, none⟩ = some (.int .i64 dirs)) (by kernel_rfl) rfl (by kernel_rfl) (fun _ _ _ _ h => h) ⟨c0, c1, c2⟩ ?_
   iterate 19 (first
    | (refine in_off0 (by rfl) ?_; simp only [Act.put, stA, stZ, stS, i64_w, i32_w])
    | (refine in_off1 (by rfl) ?_; simp only [Act.put, stA, stZ, stS, i64_w, i32_w])
    | (refine in_0 (v := ?_) (by rfl) rfl ?_ (a' := ?_) ?_ ?_; rotate_left; (intro w'; go_simp; with_reducible rfl); rotate_left; (simp only [Act.put, stA, stZ, stS, i64_w, i32_w]; rfl))
    | (refine in_1 (v := ?_) (by rfl) rfl ?_ (a' := ?_) ?_ ?_; rotate_left; (rintro w' hs; go_split_ands; go_simp; with_reducible rfl); rotate_left; (simp only [Act.put, stA, stZ, stS, i64_w, i32_w]; rfl)))
   refine in_2 (by rfl) (fun K hK => ?_)
   unfold Oper.wp execOp
   go_simp
   have b1 : Below wr.heap.size wr (wr.alloc (.cells #[.int .u64 (IntKind.u64.wrap fb), .int .u64 (IntKind.u64.wrap fi), .int .u64 (IntKind.u64.wrap dirs)] 163)).drew := (below_alloc (Below.refl _ _) _).drew
   have hx : (wr.alloc (.cells #[.int .u64 (IntKind.u64.wrap fb), .int .u64 (IntKind.u64.wrap fi), .int .u64 (IntKind.u64.wrap dirs)] 163)).drew.heap[wr.heap.size]? = some (.cells #[.int .u64 (IntKind.u64.wrap fb), .int .u64 (IntKind.u64.wrap fi), .int .u64 (IntKind.u64.wrap dirs)] 163) := alloc_last wr (.cells #[.int .u64 (IntKind.u64.wrap fb), .int .u64 (IntKind.u64.wrap fi), .int .u64 (IntKind.u64.wrap dirs)] 163)
   refine hK _ _ ⟨pw_cell_below b1 c0, pw_cell_below b1 c1, pw_cell_below b1 c2⟩ ?_
   clear hK K
   try simp only [Act.put, stA, stZ, stS, i64_w, i32_w]
   obtain ⟨wb, hwb⟩ : ∃ wb, (wr.alloc (.cells #[.int .u64 (IntKind.u64.wrap fb), .int .u64 (IntKind.u64.wrap fi), .int .u64 (IntKind.u64.wrap dirs)] 163)).drew = wb := ⟨_, rfl⟩
   rw [hwb] at b1 hx ⊢
   have hVb := HV.out.below b1
   have hbw : w.heap.size ≤ wb.heap.size := Nat.le_trans HB.out.size b1.size
   refine in_2 (by rfl) (fun K hK => ?_)
   refine wp_append_own _ (.tmp 48) (.tmp 67) 215 rfl w.heap.size 163 i0 (.int .u64 0) 1 8 Tryz.underlying215 hi hz0 hz1 hz2 rfl (by decide) _ L.length (nums .u64 L) rfl hVb ⟨wr.heap.size, 0, none⟩ 3 3 [.int .u64 (IntKind.u64.wrap fb), .int .u64 (IntKind.u64.wrap fi), .int .u64 (IntKind.u64.wrap dirs)] rfl rfl (fun j u hj => by rw [add_plain]; exact (cell_of_obj (L := [.int .u64 (IntKind.u64.wrap fb), .int .u64 (IntKind.u64.wrap fi), .int .u64 (IntKind.u64.wrap dirs)]) hx j).trans hj) (fun u hu => ?_) (by have := HLL.out.1; simp only [maxLen]; omega) (by have := HLL.out.1; omega) hbw ?_
   ·simp only [List.mem_cons, List.not_mem_nil, or_false] at hu
    rcases hu with rfl | rfl | rfl <;> rfl
   intro v' w4 h4 hg4 hloc
   have hV4 : Own w4 w.heap.size 163 .u64 v' (wordsI ((l.take (k + 1)).flatMap gnums)) := by
    rw [HLL.out.2]
    exact own_snoc h4 rfl rfl
   have hm4 := mod_grown hg4
   have hU4 := own_mod (HU.out.below b1) hm4 (fun g hg => own_ne (HU.out.below b1) hVb (by decide) g hg)
   have hb4 : Below w.heap.size w w4 := pw_below_grown (below_then HB.out HB.out.size b1) _ hbw hg4 (own_base HV.out)
   obtain ⟨ad', e', d0, d1, d2⟩ := (HL.out.below hb4) k hkm
   cases e'
   rw [HXX.out] at d0 d1 d2
   refine hK _ _ ⟨d0, d1, d2⟩ ?_
   clear hK K
   try simp only [Act.put, stA, stZ, stS, i64_w, i32_w]
   iterate 1 (first
    | (refine in_off0 (by rfl) ?_; simp only [Act.put, stA, stZ, stS, i64_w, i32_w])
    | (refine in_off1 (by rfl) ?_; simp only [Act.put, stA, stZ, stS, i64_w, i32_w])
    | (refine in_0 (v := ?_) (by rfl) rfl ?_ (a' := ?_) ?_ ?_; rotate_left; (intro w'; go_simp; with_reducible rfl); rotate_left; (simp only [Act.put, stA, stZ, stS, i64_w, i32_w]; rfl))
    | (refine in_1 (v := ?_) (by rfl) rfl ?_ (a' := ?_) ?_ ?_; rotate_left; (rintro w' hs; go_split_ands; go_simp; with_reducible rfl); rotate_left; (simp only [Act.put, stA, stZ, stS, i64_w, i32_w]; rfl)))
   refine in_nil ?_
   have HV4 := Aside0.mk hV4
   have HB4 := Aside0.mk hb4
   have HUA := Aside0.mk (fun o => (Own.below (k := .i64) (l := groupW k) hU4 (below_alloc (Below.refl _ _) o)))
   have HVA := Aside0.mk (fun o => hV4.below (below_alloc (Below.refl _ _) o))
   have HBA := Aside0.mk (fun o => below_then hb4 hb4.size (below_alloc (Below.refl _ _) o))
   have hx4 := alloc_last w4 (.cells #[.int .i64 4, .int .i64 4, .int .i64 4] 3)
   have hc1 : ∀ (j : Nat) (u : Value), [Value.int .i64 4, .int .i64 4, .int .i64 4][j]? = some u → (w4.alloc (.cells #[.int .i64 4, .int .i64 4, .int .i64 4] 3)).cell? ((⟨w4.heap.size, 0, none⟩ : Addr).add j) = some u := fun j u hj => by rw [add_plain]; exact (cell_of_obj (L := [.int .i64 4, .int .i64 4, .int .i64 4]) hx4 j).trans hj
   have hc2 : ∀ u ∈ [Value.int .i64 4, .int .i64 4, .int .i64 4], u.oneCell' = true := fun u hu => by
    simp only [List.mem_cons, List.not_mem_nil, or_false] at hu
    rcases hu with rfl | rfl | rfl <;> rfl
   have HCC := Aside0.mk (And.intro hc1 hc2)
   clear c0 c1 c2 d0 d1 d2 hc1 hc2 hx4 hV4 hU4 hb4 hm4 hg4 h4 hVb hx hwb hbw b1 hloc
   go_wp2_with (at_builtin; go_loud (refine wpList_append_own _ rfl (.tmp 69) (.tmp 70) 105 rfl w.heap.size 3 j0 (.int .i64 0) 1 8 Tryz.underlying105 hj hy0 hy1 hy2 rfl (by decide) _ (groupW k).length (nums .i64 (groupW k)) rfl (HUA.out _) ⟨w4.heap.size, 0, none⟩ 3 3 [.int .i64 4, .int .i64 4, .int .i64 4] rfl rfl HCC.out.1 HCC.out.2 (by rw [groupW_len]; simp only [maxLen]; omega) (by rw [groupW_len]; omega) (HBA.out _).size ?_; intro v1 w5 h2 h3 _; have H2 := Aside0.mk (And.intro h2 h3); clear h2 h3))
   have HU5 := Aside0.mk (show Own w5 w.heap.size 3 .i64 v1 (groupW (k + 1)) by rw [groupW_succ]; exact own_snoc H2.out.1 rfl rfl)
   have HV5 := Aside0.mk (own_mod (HVA.out (.cells #[.int .i64 4, .int .i64 4, .int .i64 4] 3)) (mod_grown H2.out.2) (fun g hg => own_ne (HVA.out (.cells #[.int .i64 4, .int .i64 4, .int .i64 4] 3)) (HUA.out (.cells #[.int .i64 4, .int .i64 4, .int .i64 4] 3)) (by decide) g hg))
   have HB5 := Aside0.mk (pw_below_grown (HBA.out (.cells #[.int .i64 4, .int .i64 4, .int .i64 4] 3)) _ (HBA.out (.cells #[.int .i64 4, .int .i64 4, .int .i64 4] 3)).size H2.out.2 (own_base (HUA.out (.cells #[.int .i64 4, .int .i64 4, .int .i64 4] 3))))
   clear H2
   go_wp2
   go_roundg g
   case measure => omega
   case rel => exact ⟨k + 1, by omega, by go_num, HV5, HU5, HB5⟩
set_option maxHeartbeats 1000000 in
set_option maxRecDepth 100000 in
theorem rspan_calls (g : Geo) (i : Int) (w : World) : Calls Tryz.prog 76 #[g.v, .int .i64 i] w fun e w' => e = .returned (.tuple #[.int .i64 (spanI g i).1, .int .i64 (spanI g i).2.1, .int .i64 (spanI g i).2.2]) ∧ Below w.heap.size w w' := by
 have HG := Aside0.mk (fun (W : World) => rgrps_calls g W)
 have hgood := groupsI_good (g := g) (i := i)
 have hzero := geoI_zero (g := g)
 obtain ⟨r, hr⟩ : ∃ r, spanI g i = r := ⟨_, rfl⟩
 have hbad : (i < 0 ∨ groupsI g ≤ i) → r = (0, 0, 22) := fun h => by rw [← hr]; unfold spanI; rw [if_pos h]
 have hok : ¬ (i < 0 ∨ groupsI g ≤ i) → r = (i * g.per, min (i * g.per + g.per) g.blocks, 0) := fun h => by rw [← hr]; unfold spanI; rw [if_neg h]
 rw [hr]
 obtain ⟨q, hq⟩ : ∃ q, groupsI g = q := ⟨_, rfl⟩
 rw [hq] at HG hgood hbad hok
 obtain ⟨B, P, I, J⟩ := g
 unfold Geo.v at HG ⊢
 dsimp only at HG hgood hzero hok ⊢
 have HB0 := Aside0.mk (fun o => below_alloc (Below.refl w.heap.size w) o)
 by_cases h1 : i < 0
 ·obtain rfl := hbad (.inl h1)
  clear hbad hok hgood hzero hr hq
  go_enter Tryz.func76, Tryz.ntmps76
  go_wp2
  go_ret3
  exact ⟨rfl, HB0.out _⟩
 ·by_cases h2 : q ≤ i
  ·obtain rfl := hbad (.inr h2)
   clear hbad hok hgood hzero hr hq
   go_enter Tryz.func76, Tryz.ntmps76
   go_wp2_with fail
   refine (HG.out _).mono ?_
   rintro e w1 ⟨rfl, hb1⟩
   have HB1 := Aside0.mk (below_then (HB0.out _) (HB0.out _).size hb1)
   clear hb1
   dsimp only
   go_wp2
   go_ret3
   exact ⟨rfl, HB1.out⟩
  ·obtain ⟨hz, h13, hip⟩ := hgood (by omega) (by omega)
   have hzz := hzero hz
   have hrr := hok (by rintro (h | h); exact h1 h; exact h2 h)
   have hip0 : 0 ≤ i * P := Int.mul_nonneg (by omega) (by omega)
   obtain ⟨m, hm⟩ : ∃ m, i * P = m := ⟨_, rfl⟩
   rw [hm] at hip hip0 hrr
   have hP : 32 ≤ P ∧ P ≤ 2016 := hzz.2.1
   have hBB : 128 ≤ B ∧ B ≤ 4096 := hzz.1
   obtain ⟨mn, hmn⟩ : ∃ mn, min (m + P) B = mn := ⟨_, rfl⟩
   rw [hmn] at hrr
   subst hrr
   have hmin : ∀ W : World, (Builtin.min_ #[3, 3] 3 #[.int .i64 (m + P), .int .i64 B]).run Tryz.prog W = .ok (.int .i64 mn) W := fun W => by
    have e : mn = if B < m + P then B else m + P := by rw [← hmn]; split <;> omega
    rw [e]
    rfl
   have HMIN := Aside0.mk hmin
   have HMN := Aside0.mk hmn
   have HMM := Aside0.mk (And.intro hm (show (i + 1) * P = m + P by rw [Int.add_mul, Int.one_mul, hm]))
   have HI := Aside0.mk (And.intro (show 0 ≤ i by omega) (show i ≤ 13 by omega))
   clear hbad hok hzero hr hq hz hzz hgood hmn hmin
   go_enter Tryz.func76, Tryz.ntmps76
   go_wp2_with fail
   refine (HG.out _).mono ?_
   rintro e w1 ⟨rfl, hb1⟩
   have HB1 := Aside0.mk (below_then (HB0.out _) (HB0.out _).size hb1)
   have m0 := pw_cell_below hb1 (cell_alloc w #[.int .i64 B, .int .i64 P, .int .i64 I, .int .i64 J] 80 0 _ rfl)
   have m1 := pw_cell_below hb1 (cell_alloc w #[.int .i64 B, .int .i64 P, .int .i64 I, .int .i64 J] 80 1 _ rfl)
   clear hb1
   dsimp only
   go_wp2
   have hmin := HMIN.out
   have HW3 := Aside0.mk (And.intro (show wrap64 (m + P) = m + P by unfold wrap64; omega) (And.intro (show wrap64 m = m by unfold wrap64; omega) (show wrap64 (i + 1) = i + 1 by have := HI.out; unfold wrap64; omega)))
   obtain ⟨hw, hwm, hwi⟩ := HW3.out
   obtain ⟨hmm1, hmm2⟩ := HMM.out
   refine wp_region_in [0, 0, 1, 0, 0, 0, 0, 1, 0, 0, 1, 0, 0, 0, 0] [] (fun w' => w'.cell? ⟨w.heap.size, 0, none⟩ = some (.int .i64 B) ∧ w'.cell? ⟨w.heap.size, 1, none⟩ = some (.int .i64 P)) (by kernel_rfl) rfl (by kernel_rfl) (fun _ _ _ _ h => h) ⟨m0, m1⟩ ?_
   iterate 15 (first
    | (refine in_off0 (by rfl) ?_; simp only [Act.put, stA, stZ, stS, i64_w, i32_w])
    | (refine in_off1 (by rfl) ?_; simp only [Act.put, stA, stZ, stS, i64_w, i32_w])
    | (refine in_0 (v := ?_) (by rfl) rfl ?_ (a' := ?_) ?_ ?_; rotate_left; (intro w'; go_simp; with_reducible rfl); rotate_left; (simp only [Act.put, stA, stZ, stS, i64_w, i32_w]; rfl))
    | (refine in_1 (v := ?_) (by rfl) rfl ?_ (a' := ?_) ?_ ?_; rotate_left; (rintro w' hs; go_split_ands; go_simp; with_reducible rfl); rotate_left; (simp only [Act.put, stA, stZ, stS, i64_w, i32_w]; rfl)))
   refine in_nil ?_
   clear hmin hw hwm hwi hmm1 hmm2
   go_wp2
   go_ret3
   exact ⟨rfl, HB1.out.drew⟩
set_option maxHeartbeats 1000000 in
set_option maxRecDepth 100000 in
theorem rplace_calls (g : Geo) (i : Int) (w : World) : Calls Tryz.prog 77 #[g.v, .int .i64 i] w fun e w' => e = .returned (.tuple #[.int .i64 (placeI g i).1, .int .i64 (placeI g i).2.1, .int .i64 (placeI g i).2.2.1, .int .i64 (placeI g i).2.2.2.1, .int .i64 (placeI g i).2.2.2.2]) ∧ Below w.heap.size w w' := by
 have HS := Aside0.mk (fun (W : World) => rspan_calls g i W)
 have hcs := spanI_cases g i
 have hgood := groupsI_good (g := g) (i := i)
 have hzero := geoI_zero (g := g)
 have hpd : placeI g i = if (spanI g i).2.2 ≠ 0 then (0, 0, 0, 0, (spanI g i).2.2) else ((if i = 0 then 2 + g.journal else (spanI g i).1), (if i = 0 then 2 + g.journal else (spanI g i).1) + 1, (if i = 0 then 2 + g.journal else (spanI g i).1) + 2, (if i = 0 then 2 + g.journal else (spanI g i).1) + 2 + g.inodes / 2, 0) := rfl
 obtain ⟨r, hr⟩ : ∃ r, placeI g i = r := ⟨_, rfl⟩
 rw [hr] at hpd ⊢
 have HB0 := Aside0.mk (fun o => below_alloc (Below.refl w.heap.size w) o)
 rcases hcs with hc | ⟨hc, hi0, hi1⟩
 ·rw [hc] at HS hpd
  simp only [ne_eq, show ¬ (22 : Int) = 0 by decide, not_false_eq_true, if_true] at hpd
  subst hpd
  obtain ⟨B, P, I, J⟩ := g
  unfold Geo.v at HS ⊢
  dsimp only at HS ⊢
  clear hgood hzero hc hr
  go_enter Tryz.func77, Tryz.ntmps77
  go_wp2_with fail
  refine (HS.out _).mono ?_
  rintro e w1 ⟨rfl, hb1⟩
  have HB1 := Aside0.mk (below_then (HB0.out _) (HB0.out _).size hb1)
  clear hb1
  dsimp only
  go_wp2
  refine bodyPost_ret (v := .tuple #[.int .i64 0, .int .i64 0, .int .i64 0, .int .i64 0, .int .i64 22]) ?_ rfl ⟨rfl, HB1.out⟩
  simp [results, Tryz.results77, go_sem]
 ·rw [hc] at HS hpd
  simp only [ne_eq, not_true_eq_false, if_false] at hpd
  obtain ⟨hz, h13, hip⟩ := hgood hi0 hi1
  have hzz := hzero hz
  obtain ⟨B, P, I, J⟩ := g
  unfold Geo.v at HS ⊢
  dsimp only at HS hpd hip hzz ⊢
  have hip0 : 0 ≤ i * P := Int.mul_nonneg (by omega) (by omega)
  obtain ⟨m, hm⟩ : ∃ m, i * P = m := ⟨_, rfl⟩
  rw [hm] at hip hip0 hpd HS
  generalize min (m + P) B = mn at HS
  have hI : 8 ≤ I ∧ I ≤ 512 := hzz.2.2.1
  have hJ : 96 ≤ J ∧ J ≤ 512 := hzz.2.2.2.1
  have hBB : 128 ≤ B ∧ B ≤ 4096 := hzz.1
  have hti : I.tdiv 2 = I / 2 := Int.tdiv_eq_ediv_of_nonneg (by omega)
  obtain ⟨t, ht⟩ : ∃ t, I / 2 = t := ⟨_, rfl⟩
  have ht0 : 0 ≤ t ∧ t ≤ 256 := by omega
  rw [ht] at hpd hti
  have HTI := Aside0.mk ht
  by_cases hi : i = 0
  ·subst hi
   simp only [if_true] at hpd
   subst hpd
   have HW := Aside0.mk (And.intro (show wrap64 (2 + J + 1) = 2 + J + 1 by unfold wrap64; omega) (And.intro (show wrap64 (2 + J + 2) = 2 + J + 2 by unfold wrap64; omega) (show wrap64 (2 + J + 2 + t) = 2 + J + 2 + t by unfold wrap64; omega)))
   have HWT := Aside0.mk (show wrap64 t = t by unfold wrap64; omega)
   clear hgood hzero hc hr hz hzz hm hip hip0 h13 hi0 hi1 ht
   go_enter Tryz.func77, Tryz.ntmps77
   go_wp2_with fail
   refine (HS.out _).mono ?_
   rintro e w1 ⟨rfl, hb1⟩
   have HB1 := Aside0.mk (below_then (HB0.out _) (HB0.out _).size hb1)
   have m2 := pw_cell_below hb1 (cell_alloc w #[.int .i64 B, .int .i64 P, .int .i64 I, .int .i64 J] 80 2 _ rfl)
   have m3 := pw_cell_below hb1 (cell_alloc w #[.int .i64 B, .int .i64 P, .int .i64 I, .int .i64 J] 80 3 _ rfl)
   clear hb1
   dsimp only
   go_wp2
   obtain ⟨hw1, hw2, hw3⟩ := HW.out
   have hw4 := HWT.out
   have hti2 := HTI.out
   refine wp_region_in [0, 0, 0, 0, 0, 0, 0, 0, 1, 0, 0, 0, 0, 0, 0, 0] [] (fun w' => w'.cell? ⟨w.heap.size, 2, none⟩ = some (.int .i64 I)) (by kernel_rfl) rfl (by kernel_rfl) (fun _ _ _ _ h => h) m2 ?_
   iterate 16 (first
    | (refine in_off0 (by rfl) ?_; simp only [Act.put, stA, stZ, stS, i64_w, i32_w])
    | (refine in_off1 (by rfl) ?_; simp only [Act.put, stA, stZ, stS, i64_w, i32_w])
    | (refine in_0 (v := ?_) (by rfl) rfl ?_ (a' := ?_) ?_ ?_; rotate_left; (intro w'; go_simp; with_reducible rfl); rotate_left; (simp only [Act.put, stA, stZ, stS, i64_w, i32_w]; rfl))
    | (refine in_1 (v := ?_) (by rfl) rfl ?_ (a' := ?_) ?_ ?_; rotate_left; (rintro w' hs; go_split_ands; go_simp; with_reducible rfl); rotate_left; (simp only [Act.put, stA, stZ, stS, i64_w, i32_w]; rfl)))
   refine in_nil ?_
   clear hw1 hw2 hw3 hw4 hti2
   go_wp2
   refine bodyPost_ret (v := .tuple #[.int .i64 (2 + J), .int .i64 (2 + J + 1), .int .i64 (2 + J + 2), .int .i64 (2 + J + 2 + t), .int .i64 0]) ?_ rfl ⟨rfl, HB1.out.drew⟩
   simp [results, Tryz.results77, go_sem]
  ·simp only [hi, if_false] at hpd
   subst hpd
   have HW := Aside0.mk (And.intro (show wrap64 (m + 1) = m + 1 by unfold wrap64; omega) (And.intro (show wrap64 (m + 2) = m + 2 by unfold wrap64; omega) (show wrap64 (m + 2 + t) = m + 2 + t by unfold wrap64; omega)))
   have HWT := Aside0.mk (show wrap64 t = t by unfold wrap64; omega)
   clear hgood hzero hc hr hz hzz hm hip hip0 h13 hi0 hi1 ht
   go_enter Tryz.func77, Tryz.ntmps77
   go_wp2_with fail
   refine (HS.out _).mono ?_
   rintro e w1 ⟨rfl, hb1⟩
   have HB1 := Aside0.mk (below_then (HB0.out _) (HB0.out _).size hb1)
   have m2 := pw_cell_below hb1 (cell_alloc w #[.int .i64 B, .int .i64 P, .int .i64 I, .int .i64 J] 80 2 _ rfl)
   clear hb1
   dsimp only
   go_wp2
   obtain ⟨hw1, hw2, hw3⟩ := HW.out
   have hw4 := HWT.out
   have hti2 := HTI.out
   refine wp_region_in [0, 0, 0, 0, 0, 0, 0, 0, 1, 0, 0, 0, 0, 0, 0, 0] [] (fun w' => w'.cell? ⟨w.heap.size, 2, none⟩ = some (.int .i64 I)) (by kernel_rfl) rfl (by kernel_rfl) (fun _ _ _ _ h => h) m2 ?_
   iterate 16 (first
    | (refine in_off0 (by rfl) ?_; simp only [Act.put, stA, stZ, stS, i64_w, i32_w])
    | (refine in_off1 (by rfl) ?_; simp only [Act.put, stA, stZ, stS, i64_w, i32_w])
    | (refine in_0 (v := ?_) (by rfl) rfl ?_ (a' := ?_) ?_ ?_; rotate_left; (intro w'; go_simp; with_reducible rfl); rotate_left; (simp only [Act.put, stA, stZ, stS, i64_w, i32_w]; rfl))
    | (refine in_1 (v := ?_) (by rfl) rfl ?_ (a' := ?_) ?_ ?_; rotate_left; (rintro w' hs; go_split_ands; go_simp; with_reducible rfl); rotate_left; (simp only [Act.put, stA, stZ, stS, i64_w, i32_w]; rfl)))
   refine in_nil ?_
   clear hw1 hw2 hw3 hw4 hti2
   go_wp2
   refine bodyPost_ret (v := .tuple #[.int .i64 m, .int .i64 (m + 1), .int .i64 (m + 2), .int .i64 (m + 2 + t), .int .i64 0]) ?_ rfl ⟨rfl, HB1.out.drew⟩
   simp [results, Tryz.results77, go_sem]
end Go.Proofs.YtkmhilhfmfmckaaGreatDoor.Hand
