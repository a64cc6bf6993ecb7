/- Package name: a block of parts is read as the plain functions say, for every row of bytes. -/
import Derived.Test.YtjggkaieagbjmaaIdx1
namespace Go.Proofs.Ytjggkaieagbjmaa.Hand
set_option linter.unusedVariables false
set_option linter.unusedSimpArgs false
open Go.Shelf Go.RowKit Go.Proofs.YtjggkaieagbjmaaW.PrintWords Go.Proofs.YtjggkaieagbjmaaW.PrintLast Go.Proofs.YtjggkaieagbjmaaW.PrintMore

/-- The cells of a part. -/
def pcells (x : Prt) : List Value := [.int .u32 x.hash, .int .i64 x.block]
theorem pcells_at (l : List Prt) (j : Nat) (hj : j < l.length) (i : Nat) (hi : i < 2) : (l.flatMap pcells)[j * 2 + i]? = (pcells (prtAt l j))[i]? := by
  induction l generalizing j with
  | nil => simp at hj
  | cons x l ih =>
    rw [List.flatMap_cons]
    cases j with
    | zero => rw [List.getElem?_append_left (by simp [pcells]; omega)]; simp [prtAt]
    | succ j =>
      rw [List.getElem?_append_right (by simp [pcells]; omega)]
      have : (j + 1) * 2 + i - (pcells x).length = j * 2 + i := by simp [pcells]; omega
      rw [this, ih j (by simpa using hj)]
      simp [prtAt]
/-- A row of parts that a call owns. -/
def OwnP (w : World) (base : Nat) (v : Value) (l : List Prt) : Prop := w.ownsRow base 73 2 v l.length (l.flatMap pcells)
theorem OwnP.reads {w : World} {base : Nat} {v : Value} {l : List Prt} (h : OwnP w base v l) (hs : l.length ≤ 1125899906842624) : ∃ A c, v = .slice A l.length c ∧ l.length ≤ c ∧ Prts w A l := by
  have h0 := h
  rcases h.2 with ⟨rfl, hz⟩ | ⟨g, cap, cur, rfl, hb, hh, h1, h2, h3, h4⟩
  · obtain rfl : l = [] := List.eq_nil_of_length_eq_zero hz
    exact ⟨none, 0, rfl, by simp, ⟨by simp, fun j hj => absurd hj (by simp)⟩⟩
  · refine ⟨_, cap, rfl, h1, hs, fun j hj => ⟨_, rfl, ?_, ?_⟩⟩
    all_goals rw [add_plain]
    · have := h0.cells (g := g) rfl (j * 2 + 0) (.int .u32 (prtAt l j).hash) (by rw [pcells_at l j hj 0 (by omega)]; rfl)
      rw [add_plain] at this
      exact this
    · have := h0.cells (g := g) rfl (j * 2 + 1) (.int .i64 (prtAt l j).block) (by rw [pcells_at l j hj 1 (by omega)]; rfl)
      rw [add_plain] at this
      exact this
theorem ownP_snoc {w : World} {base : Nat} {v : Value} {l : List Prt} {x : Prt} {news : List Value} (h : w.ownsRow base 73 2 v (l.length + 1) (l.flatMap pcells ++ news)) (hn : news = pcells x) : OwnP w base v (l ++ [x]) := by
  unfold OwnP
  rw [List.length_append, List.flatMap_append, show [x].length = 1 from rfl, show [x].flatMap pcells = pcells x by simp, ← hn]
  exact h
theorem OwnP.below {w w1 : World} {base : Nat} {v : Value} {l : List Prt} (h : OwnP w base v l) (hb : Below w.heap.size w w1) : OwnP w1 base v l := pw_own_below h hb
theorem infoPrt : (Try.prog.info? 73).map (fun i => (i.zero, i.size, i.bytes)) = some (some (.agg #[.int .u32 0, .int .i64 0]), 2, 16) := by kernel_rfl

/-- The part that stands at place i of a block. -/
def prtG (l : List Int) (i : Int) : Prt := ⟨(getI l (2 + 6 * i) 4).1 % 4294967296, wrap64 (getI l (2 + 6 * i + 4) 2).1⟩
def readP (l : List Int) (n : Nat) : List Prt := (List.range n).map fun (i : Nat) => prtG l i
theorem readP_succ (l : List Int) (n : Nat) : readP l (n + 1) = readP l n ++ [prtG l n] := by unfold readP; rw [List.range_succ, List.map_append]; rfl
theorem readP_length (l : List Int) (n : Nat) : (readP l n).length = n := by unfold readP; simp
/-- What UnpackIndex answers. -/
def unpidxI (l : List Int) (s : Int) : List Prt × Int :=
  if l.length ≠ 256 ∨ 40 < l.getD 1 0 then ([], 117) else
  if (pidxI (readP l (l.getD 1 0).toNat) s).2 = 0 ∧ (pidxI (readP l (l.getD 1 0).toNat) s).1 = l then (readP l (l.getD 1 0).toNat, 0) else ([], 117)

def UidxPost (l : List Int) (s : Int) (w : World) (e : Ending) (w' : World) : Prop :=
  ∃ v, e = .returned (.tuple #[v, .int .i64 (unpidxI l s).2]) ∧ OwnP w' w.heap.size v (unpidxI l s).1 ∧ Below w.heap.size w w'
theorem uidxPost_bad {l : List Int} {s : Int} {w w' : World} {e : Ending} (hp : unpidxI l s = ([], 117)) (he : e = .returned (.tuple #[.slice none 0 0, .int .i64 117])) (hb : Below w.heap.size w w') : UidxPost l s w e w' :=
  ⟨.slice none 0 0, by rw [hp]; exact he, by rw [hp]; exact own_nil _ _ _ _, hb⟩

set_option maxHeartbeats 400000 in
set_option maxRecDepth 100000 in
theorem unpidx_calls (A : Option Addr) (c : Nat) (s : Int) (l : List Int) (w : World) (hl : Kd.C (Kd.int .u8) w A l.length l) (hc : l.length ≤ c) (hs0 : 0 ≤ s) (hs1 : s < 4294967296) (hb : allB l) :
    Calls Try.prog 29 #[.slice A l.length c, .int .u32 s] w (UidxPost l s w) := by
  by_cases h256 : l.length = 256
  · have HL := Aside0.mk hl
    obtain ⟨ad, rfl, hx1⟩ := C_int_at hl 1 (by omega)
    obtain ⟨hm0, hm1⟩ := allB_get hb 1
    have HB0 := Aside0.mk hb
    obtain ⟨m, hm⟩ : ∃ m : Nat, l.getD 1 0 = m := ⟨(l.getD 1 0).toNat, by omega⟩
    have hbad : 40 < m → unpidxI l s = ([], 117) := fun h => by unfold unpidxI; rw [if_pos (.inr (by omega))]
    have hgood : ¬ 40 < m → unpidxI l s = if (pidxI (readP l m) s).2 = 0 ∧ (pidxI (readP l m) s).1 = l then (readP l m, 0) else ([], 117) := fun h => by
      unfold unpidxI
      rw [if_neg (by rintro (h' | h'); exact h' h256; omega), hm, Int.toNat_natCast]
    have HGET := Aside0.mk (fun (a k : Int) (W : World) (hW : Below w.heap.size w W) => get_calls (some ad) c a k W l (Kd.C_below hl hW) hc)
    rw [hm] at hx1 hm1
    replace hx1 : w.cell? ⟨ad.block, ad.off + 1, none⟩ = some (.int .u8 m) := hx1
    have HLEN := Aside0.mk h256
    rw [h256] at hc HGET ⊢
    clear hl hb hm hm0 h256
    by_cases h40 : 40 < m
    · have hp := hbad h40
      clear hbad hgood
      go_enter Try.func29, Try.ntmps29
      go_wp2
      go_ret2
      exact uidxPost_bad hp rfl (Below.refl _ _)
    · have HG := Aside0.mk (hgood h40)
      clear hbad hgood
      go_enter Try.func29, Try.ntmps29
      go_wp2
      go_loopg [6, 27] m (fun g v i wr => ∃ k : Nat, k + g = m ∧ i = .int .i64 k ∧ Aside0 (OwnP wr w.heap.size v (readP l k)) ∧ Aside0 (Below w.heap.size w wr))
      case atStart => exact ⟨0, by omega, rfl, ⟨own_nil _ _ _ _⟩, ⟨Below.refl _ _⟩⟩
      case round =>
        obtain ⟨k, hk, rfl, HO, HB⟩ := hrel
        cases gk with
        | zero =>
          obtain rfl : k = m := by omega
          obtain ⟨A', c', rfl, hc', hP⟩ := HO.out.reads (by rw [readP_length]; omega)
          have hlen := readP_length l k
          have hap := allB_pidx (readP l k) s
          obtain ⟨out, hout⟩ : ∃ out, readP l k = out := ⟨_, rfl⟩
          rw [hout] at hc' hP hlen hap HG HO ⊢
          obtain ⟨p, hp⟩ : ∃ p, pidxI out s = p := ⟨_, rfl⟩
          have hpk := pidx_calls A' c' s out _ hP hc' hs0 hs1
          unfold PidxPost at hpk
          rw [hp] at hpk hap HG
          obtain ⟨p1, p2⟩ := p
          dsimp only at hpk HG hap
          have HPK := Aside0.mk hpk
          have HAP := Aside0.mk hap
          clear hpk hap hp hP hout hlen
          by_cases hp0 : p2 = 0
          · subst hp0
            go_wp2_with (first
              | (go_at_call 26; refine HPK.out.mono ?_; rintro e w1 ⟨v1, rfl, hR1, hb1⟩; obtain ⟨A1, c1, rfl, hc1, hC1⟩ := (Own.of_R hR1).reads; have HC1 := Aside0.mk hC1; have HB1 := Aside0.mk (below_then HB.out HB.out.size hb1); have HO1 := Aside0.mk (HO.out.below hb1); have heq := equal_calls (some ad) A1 c c1 l p1 w1 (Kd.C_below HL.out HB1.out) hC1; rw [HLEN.out, strOf_eq HB0.out HAP.out] at heq; have HEQ := Aside0.mk heq; clear heq hC1 hR1 hb1)
              | (go_at_call 40; refine HEQ.out.mono ?_; rintro e w2 ⟨rfl, rfl⟩; obtain ⟨b, hb⟩ : ∃ b, (l == p1) = b := ⟨_, rfl⟩; rw [hb]; have HBB := Aside0.mk hb; clear hb; cases b))
            · go_ret2
              have hne : ¬ (p1 = l) := by rintro rfl; have := HBB.out; simp at this
              exact uidxPost_bad (by rw [HG.out]; exact if_neg (fun h => hne h.2)) rfl HB1.out
            · go_ret2
              have he : p1 = l := by have := HBB.out; simp at this; exact this.symm
              have hg : unpidxI l s = (out, 0) := by rw [HG.out]; exact if_pos ⟨trivial, he⟩
              exact ⟨.slice A' out.length c', by rw [hg]; rfl, by rw [hg]; exact HO1.out, HB1.out⟩
          · go_wp2_with (first
              | (go_at_call 26; refine HPK.out.mono ?_; rintro e w1 ⟨v1, rfl, hR1, hb1⟩; have HB1 := Aside0.mk (below_then HB.out HB.out.size hb1); clear hR1 hb1))
            go_ret2
            exact uidxPost_bad (by rw [HG.out]; exact if_neg (fun h => hp0 h.1)) rfl HB1.out
        | succ g =>
          go_wp2_with fail
          refine (HGET.out (2 + 6 * (k : Int)) 4 wr HB.out).mono ?_
          rintro e w1 ⟨rfl, hb1⟩
          have HB1 := Aside0.mk (below_then HB.out HB.out.size hb1)
          have HO1 := Aside0.mk (HO.out.below hb1)
          obtain ⟨x, hx⟩ : ∃ x, (getI l (2 + 6 * (k : Int)) 4).1 = x := ⟨_, rfl⟩
          rw [hx]
          have HX := Aside0.mk hx
          clear hb1 hx
          dsimp only
          go_wp2_with fail
          refine (HGET.out (2 + 6 * (k : Int) + 4) 2 w1 HB1.out).mono ?_
          rintro e w2 ⟨rfl, hb2⟩
          have HB2 := Aside0.mk (below_then HB1.out HB1.out.size hb2)
          have HO2 := Aside0.mk (HO1.out.below hb2)
          obtain ⟨y, hy⟩ : ∃ y, (getI l (2 + 6 * (k : Int) + 4) 2).1 = y := ⟨_, rfl⟩
          rw [hy]
          have HY := Aside0.mk hy
          clear hb2 hy
          have hbw := HB2.out.size
          have HOa := Aside0.mk (fun o => HO2.out.below (below_alloc (Below.refl _ _) o))
          have HBa := Aside0.mk (fun o => below_alloc HB2.out o)
          have HLN := Aside0.mk (readP_length l k)
          obtain ⟨e0, he, hz0, hz1, hz2⟩ := info_parts infoPrt
          dsimp only
          go_wp2_with ((with_reducible refine gate_dst (N := 54) rfl ?_); refine wpList_append_own _ rfl (.tmp 47) (.tmp 53) 48 rfl w.heap.size 73 e0 (.agg #[.int .u32 0, .int .i64 0]) 2 16 Try.underlying48 he hz0 hz1 hz2 rfl (by decide) _ _ _ rfl (HOa.out _) ⟨w2.heap.size, 0, none⟩ 1 1 [.int .u32 (x % 4294967296), .int .i64 (wrap64 y)] rfl ?c6 ?c1 ?c2 ?c3 ?c4 ?c5 ?_; (case c6 => rfl); (case c1 => (intro j u hj; rw [add_plain]; exact cell_alloc w2 _ _ j u (by simpa using hj))); (case c2 => simp [Value.oneCell']); (case c3 => (rw [HLN.out]; simp only [maxLen]; omega)); (case c4 => (rw [HLN.out]; omega)); (case c5 => exact (HBa.out _).size); intro v1 w5 hown1 hgrow1 _; have HO5 := Aside0.mk (ownP_snoc (x := prtG l k) hown1 (by unfold prtG pcells; rw [HX.out, HY.out])); have HB5 := Aside0.mk (pw_below_grown (HBa.out _) _ (HBa.out _).size hgrow1 (fun g hg => own_base HO2.out g hg)); clear hown1 hgrow1 hz0 hz1 hz2 he)
          go_roundg g
          case measure => omega
          case rel => exact ⟨k + 1, by omega, by go_num, ⟨by rw [readP_succ]; exact HO5.out⟩, HB5⟩
  · have hub : unpidxI l s = ([], 117) := by unfold unpidxI; rw [if_pos (.inl h256)]
    clear hl hb
    have hne : ((l.length : Int) != 256) = true := by rw [bne_iff_ne]; omega
    go_enter Try.func29, Try.ntmps29
    go_wp2
    go_ret2
    exact uidxPost_bad hub rfl (Below.refl _ _)
end Go.Proofs.Ytjggkaieagbjmaa.Hand
