/- Words on what a call has left as it was: all blocks but some; and small facts on cells, blocks and rows of bytes. -/
import Derived.Test.YtjggkaieagbjmaaWWords
import Derived.Test.YtjggkaieagbjmaaWLast
import Derived.Test.YtjggkaieagbjmaaWMore
namespace Go.Proofs.Ytjggkaieagbjmaa.Hand
open Go.RowKit Go.Proofs.YtjggkaieagbjmaaW.PrintWords Go.Proofs.YtjggkaieagbjmaaW.PrintLast Go.Proofs.YtjggkaieagbjmaaW.PrintMore

/-- What lay in memory is as it was, but for the blocks of S. -/
structure Mod (w w' : World) (S : Nat → Prop) : Prop where
  os : w'.os = w.os
  tape : w'.tape = w.tape
  output : w'.output = w.output
  size : w.heap.size ≤ w'.heap.size
  block : ∀ k, k < w.heap.size → ¬ S k → w'.heap[k]? = w.heap[k]?

namespace Mod
variable {w w1 w2 : World} {S T : Nat → Prop}
theorem refl (w : World) (S : Nat → Prop) : Mod w w S := ⟨rfl, rfl, rfl, Nat.le_refl _, fun _ _ _ => rfl⟩
theorem mono (h : Mod w w1 S) (hs : ∀ k, k < w.heap.size → S k → T k) : Mod w w1 T := ⟨h.os, h.tape, h.output, h.size, fun k hk hn => h.block k hk fun hs' => hn (hs k hk hs')⟩
theorem trans (h : Mod w w1 S) (k : Mod w1 w2 T) (hs : ∀ i, i < w.heap.size → T i → S i) : Mod w w2 S :=
  ⟨k.os.trans h.os, k.tape.trans h.tape, k.output.trans h.output, Nat.le_trans h.size k.size, fun i hi hn => (k.block i (Nat.lt_of_lt_of_le hi h.size) fun ht => hn (hs i hi ht)).trans (h.block i hi hn)⟩
theorem of_below (h : Below w.heap.size w w1) (S : Nat → Prop) : Mod w w1 S := ⟨h.os, h.tape, h.output, h.size, fun k hk _ => h.block k hk⟩
theorem to_below (h : Mod w w1 S) (hs : ∀ k, k < w.heap.size → ¬ S k) : Below w.heap.size w w1 := ⟨h.os, h.tape, h.output, h.size, fun k hk => h.block k hk (hs k hk)⟩
theorem below (h : Mod w w1 S) (k : Below w1.heap.size w1 w2) : Mod w w2 S := h.trans (of_below k S) fun _ _ => id
theorem alloc (h : Mod w w1 S) (o : Obj) : Mod w (w1.alloc o) S := h.below (below_alloc (Below.refl _ _) o)
theorem drew (h : Mod w w1 S) : Mod w w1.drew S := ⟨h.os, h.tape, h.output, h.size, h.block⟩
theorem drewN (h : Mod w w1 S) (n : Nat) : Mod w (w1.drewN n) S := ⟨h.os, h.tape, h.output, h.size, h.block⟩
theorem setCell (h : Mod w w1 S) {p : Addr} (hp : p.block < w.heap.size → S p.block) (u : Value) : Mod w (w1.setCell p u) S :=
  ⟨h.os, h.tape, h.output, by simpa [World.setCell] using h.size, fun i hi hn => (Below.heap_setCell w1 p u i (fun e => hn (e ▸ hp (e ▸ hi)))).trans (h.block i hi hn)⟩
theorem set_own {b : Nat} (h : Mod w w1 (· = b)) (j : Nat) (u : Value) : Mod w (w1.setCell ⟨b, j, none⟩ u) (· = b) := h.setCell (p := ⟨b, j, none⟩) (fun _ => rfl) u
theorem set_new {b : Nat} (h : Mod w w1 S) (hb : w.heap.size ≤ b) (j : Nat) (u : Value) : Mod w (w1.setCell ⟨b, j, none⟩ u) S := h.setCell (p := ⟨b, j, none⟩) (fun hlt => absurd hlt (Nat.not_lt.2 hb)) u
theorem cell (h : Mod w w1 S) {a : Addr} {v : Value} (hc : w.cell? a = some v) (hn : ¬ S a.block) : w1.cell? a = some v :=
  (World.cell?_of_block (h.block a.block (World.block_lt_of_cell? w a hc) hn)).trans hc
theorem obj (h : Mod w w1 S) {k : Nat} {o : Obj} (hc : w.heap[k]? = some o) (hn : ¬ S k) : w1.heap[k]? = some o :=
  (h.block k (Array.getElem?_eq_some_iff.1 hc).1 hn).trans hc
end Mod

theorem alloc_last (w : World) (o : Obj) : (w.alloc o).heap[w.heap.size]? = some o := by show (w.heap.push o)[w.heap.size]? = some o; simp
theorem alloc_at (w : World) (o : Obj) (k : Nat) (h : k = w.heap.size) : (w.alloc o).heap[k]? = some o := h ▸ alloc_last w o
theorem cell_alloc (w : World) (cs : Array Value) (t : TypeId) (j : Nat) (v : Value) (h : cs[j]? = some v) : (w.alloc (.cells cs t)).cell? ⟨w.heap.size, j, none⟩ = some v := by rw [World.cell?_alloc_at (hn := rfl)]; exact h
theorem alloc_old (w : World) (o : Obj) (k : Nat) (h : k < w.heap.size) : (w.alloc o).heap[k]? = w.heap[k]? := by show (w.heap.push o)[k]? = _; simp [Array.getElem?_push, Nat.ne_of_lt h]
theorem lt_of_obj {w : World} {k : Nat} {o : Obj} (h : w.heap[k]? = some o) : k < w.heap.size := (Array.getElem?_eq_some_iff.1 h).1

/-- Block b is a row of bytes (of element type t), just these. -/
def Row (w : World) (k : IntKind) (b t : Nat) (l : List Int) : Prop := w.heap[b]? = some (.cells (nums k l).toArray t (0, 0))
theorem Row.cell {w : World} {k : IntKind} {b t : Nat} {l : List Int} (h : Row w k b t l) (j : Nat) (hj : j < l.length) : w.cell? ⟨b, j, none⟩ = some (.int k (l.getD j 0)) := by
  rw [cell_of_row w b j _ t _ h]
  simp [nums, List.getD_eq_getElem?_getD, hj]
theorem Row.free {w : World} {k : IntKind} {b t : Nat} {l : List Int} (h : Row w k b t l) (j : Nat) : w.frozen? ⟨b, j, none⟩ = false := by
  unfold Row at h
  simp [World.frozen?, h]
theorem Row.lt {w : World} {k : IntKind} {b t : Nat} {l : List Int} (h : Row w k b t l) : b < w.heap.size := lt_of_obj h
theorem Row.mod {w w1 : World} {k : IntKind} {b t : Nat} {l : List Int} {S : Nat → Prop} (h : Row w k b t l) (hm : Mod w w1 S) (hn : ¬ S b) : Row w1 k b t l := hm.obj h hn
theorem Row.below {w w1 : World} {k : IntKind} {b t : Nat} {l : List Int} (h : Row w k b t l) (hm : Below w.heap.size w w1) : Row w1 k b t l := (hm.block b h.lt).trans h
theorem Row.set {w : World} {k : IntKind} {b t : Nat} {l : List Int} (h : Row w k b t l) (j : Nat) (x : Int) : Row (w.setCell ⟨b, j, none⟩ (.int k x)) k b t (l.set j x) := by
  unfold Row at h ⊢
  obtain ⟨hlt, he⟩ := Array.getElem?_eq_some_iff.1 h
  unfold World.setCell
  simp only [Array.getElem?_modify, if_true, h, Option.map_some]
  simp [nums, List.map_set]
theorem C_int_mk {w : World} {k : IntKind} {ad : Addr} {l : List Int} (hm : l.length ≤ 9223372036854775807) (h : ∀ j, j < l.length → w.cell? (ad.add j) = some (.int k (l.getD j 0))) : Kd.C (Kd.int k) w (some ad) l.length l := by
  refine ⟨rfl, hm, fun _ => ⟨ad, rfl, fun j p hp => ⟨[.int k p], rfl, rfl, fun i u hu => ?_⟩⟩⟩
  obtain ⟨hj, e⟩ := List.getElem?_eq_some_iff.1 hp
  have hz : i = 0 := by
    cases i with
    | zero => rfl
    | succ i => simp at hu
  subst hz
  have : u = .int k p := by simpa using hu.symm
  subst this
  show w.cell? (ad.add (j * 1 + 0)) = _
  rw [Nat.mul_one, Nat.add_zero, h j hj]
  simp [List.getD_eq_getElem?_getD, hj, e]
theorem C_int_at {w : World} {k : IntKind} {A : Option Addr} {n : Nat} {l : List Int} (h : Kd.C (Kd.int k) w A n l) (j : Nat) (hj : j < n) : ∃ ad, A = some ad ∧ w.cell? (ad.add j) = some (.int k (l.getD j 0)) := by
  obtain ⟨ad, e, hc⟩ := Kd.at_int h (j : Int) (by omega) (by omega)
  exact ⟨ad, e, by simpa [rd] using hc⟩
theorem C_int_nil (w : World) (k : IntKind) (A : Option Addr) : Kd.C (Kd.int k) w A 0 [] := ⟨rfl, by omega, fun h => absurd h (by omega)⟩
theorem C_int_len {w : World} {k : IntKind} {A : Option Addr} {n : Nat} {l : List Int} (h : Kd.C (Kd.int k) w A n l) : l.length = n ∧ n ≤ 9223372036854775807 := ⟨h.1, h.2.1⟩
/-- A row that is read lives on, where its block does. -/
theorem C_int_mod {w w1 : World} {k : IntKind} {A : Option Addr} {n : Nat} {l : List Int} {S : Nat → Prop} (h : Kd.C (Kd.int k) w A n l) (hm : Mod w w1 S) (hn : ∀ ad, A = some ad → ¬ S ad.block) : Kd.C (Kd.int k) w1 A n l := by
  obtain ⟨h1, h2, h3⟩ := h
  refine ⟨h1, h2, fun hp => ?_⟩
  obtain ⟨ad, rfl, hc⟩ := h3 hp
  refine ⟨ad, rfl, fun j p hj => ?_⟩
  obtain ⟨c, a, b, d⟩ := hc j p hj
  refine ⟨c, a, b, fun i u hu => hm.cell (d i u hu) ?_⟩
  have : (ad.add (j * (Kd.int k).sz + i)).block = ad.block := by unfold Addr.add; split <;> rfl
  rw [this]
  exact hn ad rfl
theorem _root_.Go.Proofs.YtjggkaieagbjmaaW.PrintWords.Kd.C.heap_eq {α : Type} {d : Kd α} {w w1 : World} {A : Option Addr} {n : Nat} {l : List α} (h : Kd.C d w A n l) (hh : w1.heap = w.heap) (ho : w1.os = w.os := by rfl) (ht : w1.tape = w.tape := by rfl) (hp : w1.output = w.output := by rfl) : Kd.C d w1 A n l :=
  Kd.C_below h ⟨ho, ht, hp, by rw [hh]; exact Nat.le_refl _, fun k _ => by rw [hh]⟩
/-- A piece of a row that is read. -/
theorem C_int_part {w : World} {k : IntKind} {ad : Addr} {n : Nat} {l : List Int} (h : Kd.C (Kd.int k) w (some ad) n l) (i m : Nat) (hi : i + m ≤ n) : Kd.C (Kd.int k) w (some (ad.add i)) m ((l.drop i).take m) := by
  obtain ⟨h1, h2⟩ := C_int_len h
  have hl : ((l.drop i).take m).length = m := by simp; omega
  have := C_int_mk (w := w) (k := k) (ad := ad.add i) (l := (l.drop i).take m) (by omega) (fun j hj => ?_)
  · exact ⟨hl, by omega, fun hp => this.2.2 (by omega)⟩
  · obtain ⟨ad', e, hc⟩ := C_int_at h (i + j) (by omega)
    cases e
    have e2 : (ad.add i).add j = ad.add (i + j) := by
      unfold Addr.add
      repeat' split
      all_goals simp_all <;> omega
    rw [e2, hc]
    simp [List.getD_eq_getElem?_getD, List.getElem?_drop, show j < m by omega]
theorem C_int_pre {w : World} {k : IntKind} {A : Option Addr} {n : Nat} {l : List Int} (h : Kd.C (Kd.int k) w A n l) (m : Nat) (hi : m ≤ n) : Kd.C (Kd.int k) w A m (l.take m) := by
  obtain ⟨h1, h2, h3⟩ := h
  refine ⟨by simp; omega, by omega, fun hp => ?_⟩
  obtain ⟨ad, rfl, hc⟩ := h3 (by omega)
  refine ⟨ad, rfl, fun j p hj => hc j p ?_⟩
  rw [List.getElem?_take] at hj
  split at hj
  · exact hj
  · cases hj
theorem Row.reads {w : World} {k : IntKind} {b t : Nat} {l : List Int} (h : Row w k b t l) (hm : l.length ≤ 9223372036854775807) : Kd.C (Kd.int k) w (some ⟨b, 0, none⟩) l.length l :=
  C_int_mk hm fun j hj => by rw [add_plain]; exact h.cell j hj
/-- A row of numbers that a call owns. -/
def Own (w : World) (base e : Nat) (k : IntKind) (v : Value) (l : List Int) : Prop := w.ownsRow base e 1 v l.length (nums k l)
theorem own_of_row {w : World} {k : IntKind} {g e n base : Nat} {l : List Int} (h : Row w k g e l) (hn : l.length = n) (hb : base ≤ g) (hm : n ≤ maxLen) : Own w base e k (.slice (some ⟨g, 0, none⟩) n n) l := by
  refine ⟨by simp [nums_length], .inr ⟨g, n, _, by rw [hn], hb, h, by omega, hm, by simp [nums_length, hn], ?_⟩⟩
  rw [List.toList_toArray, Nat.mul_one, List.take_of_length_le (by rw [nums_length]; exact Nat.le_refl _)]
theorem own_of_nil (w : World) (base e : Nat) (k : IntKind) : Own w base e k (.slice none 0 0) [] := own_nil w base e 1
theorem Own.to_R {w : World} {base e : Nat} {k : IntKind} {v : Value} {l : List Int} (h : Own w base e k v l) : Kd.R (Kd.int k) e w base (fun _ => True) v l := Kd.R_of_own h (fun _ _ => trivial)
theorem Own.of_R {w : World} {base e : Nat} {k : IntKind} {ok : Nat → Prop} {v : Value} {l : List Int} (h : Kd.R (Kd.int k) e w base ok v l) : Own w base e k v l := Kd.own_of_R h
theorem Own.reads {w : World} {base e : Nat} {k : IntKind} {v : Value} {l : List Int} (h : Own w base e k v l) : ∃ A c, v = .slice A l.length c ∧ l.length ≤ c ∧ Kd.C (Kd.int k) w A l.length l := by
  have hn : l.length = l.length := rfl
  rcases h.2 with ⟨rfl, h0⟩ | ⟨g, cap, cur, rfl, hb, hh, h1, h2, h3, h4⟩
  · obtain rfl : l = [] := List.eq_nil_of_length_eq_zero h0
    exact ⟨none, 0, rfl, by simp, C_int_nil _ _ _⟩
  · refine ⟨_, cap, rfl, h1, C_int_mk (by simp only [maxLen] at h2; omega) fun j hj => ?_⟩
    rw [add_plain, cell_of_row w g j _ _ _ hh]
    have h5 : cur.toList[j]? = (nums k l)[j]? := by rw [← h4, List.getElem?_take, if_pos (by omega)]
    rw [Array.getElem?_toList] at h5
    rw [h5]
    simp [nums, List.getD_eq_getElem?_getD, hj]
theorem Own.below {w w1 : World} {base e : Nat} {k : IntKind} {v : Value} {l : List Int} (h : Own w base e k v l) (hb : Below w.heap.size w w1) : Own w1 base e k v l := pw_own_below h hb
theorem Own.base {w : World} {base e : Nat} {k : IntKind} {v : Value} {l : List Int} (h : Own w base e k v l) (g : Nat) (hg : v.ownBlock = some g) : base ≤ g := own_base h g hg
theorem own_snoc {w : World} {base e m : Nat} {k : IntKind} {v : Value} {l ys : List Int} {news : List Value} (h : w.ownsRow base e 1 v (l.length + m) (nums k l ++ news)) (hn : news = nums k ys) (hm : ys.length = m) : Own w base e k v (l ++ ys) := by
  unfold Own
  rw [List.length_append, hm, nums_append, ← hn]
  exact h
theorem grown_cell {w w1 : World} {row : Option Nat} {a : Addr} {v : Value} (hg : w.grownBy w1 row) (hc : w.cell? a = some v) (hne : ∀ k, row = some k → k ≠ a.block) : w1.cell? a = some v :=
  (World.cell?_of_block (hg.block a.block (World.block_lt_of_cell? w a hc) (fun e => hne _ e.symm rfl))).trans hc
theorem Own.lt {w : World} {base e : Nat} {k : IntKind} {v : Value} {l : List Int} (h : Own w base e k v l) (g : Nat) (hg : v.ownBlock = some g) : g < w.heap.size := own_lt h g hg
end Go.Proofs.Ytjggkaieagbjmaa.Hand
