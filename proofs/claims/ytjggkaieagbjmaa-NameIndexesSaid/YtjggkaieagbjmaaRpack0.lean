/- The document's block of entries, plain: bytes set one behind the other into a row of noughts. -/
import Derived.Test.YtjggkaieagbjmaaRef2
import Derived.Test.YtjggkaieagbjmaaHalves
namespace Go.Proofs.Ytjggkaieagbjmaa.Hand
set_option linter.unusedVariables false
set_option linter.unusedSimpArgs false
open Go.Shelf Go.RowKit Go.Proofs.YtjggkaieagbjmaaW.PrintWords Go.Proofs.YtjggkaieagbjmaaW.PrintLast Go.Proofs.YtjggkaieagbjmaaW.PrintMore

theorem set_pad (q : List Int) (x : Int) (h : q.length < 256) : (pad q).set q.length x = pad (q ++ [x]) := by
  unfold pad
  obtain ⟨n, hn⟩ : ∃ n, 256 - q.length = n + 1 := ⟨255 - q.length, by omega⟩
  rw [List.set_append_right _ _ (Nat.le_refl _), Nat.sub_self, hn, List.replicate_succ, List.set_cons_zero]
  have : 256 - (q ++ [x]).length = n := by simp; omega
  rw [this]
  simp
theorem lay2_pad (q : List Int) (x : Int) (h : q.length + 1 < 256) : layL (pad q) q.length x 2 = pad (q ++ [x % 256, x / 256 % 256]) := by
  unfold layL layL layL
  have e0 : leB x 0 = x % 256 := by unfold leB; simp
  have e1 : leB x 1 = x / 256 % 256 := by unfold leB; rfl
  rw [e0, e1, Nat.add_zero, set_pad q _ (by omega)]
  have := set_pad (q ++ [x % 256]) (x / 256 % 256) (by simp; omega)
  rw [List.length_append] at this
  simpa using this
theorem set_pad_at (q : List Int) (k : Nat) (x : Int) (hk : k = q.length) (h : q.length < 256) : (pad q).set k x = pad (q ++ [x]) := by subst hk; exact set_pad q x h
theorem row_pad {w : World} {g t : Nat} {q : List Int} (h : Row w .u8 g t (pad q)) (k : Nat) (x : Int) (hk : k = q.length) (hq : q.length < 256) : Row (w.setCell ⟨g, k, none⟩ (.int .u8 x)) .u8 g t (pad (q ++ [x])) := by
  have := h.set k x
  rwa [set_pad_at q k x hk hq] at this
theorem below_set_new {w w1 : World} (h : Below w.heap.size w w1) {g : Nat} (hg : w.heap.size ≤ g) (j : Nat) (u : Value) : Below w.heap.size w (w1.setCell ⟨g, j, none⟩ u) :=
  ((Mod.of_below h (fun _ => False)).set_new hg _ _).to_below (fun _ _ h => h)
theorem below_mod {w w1 w2 : World} {g : Nat} (h : Below w.heap.size w w1) (hm : Mod w1 w2 (· = g)) (hg : w.heap.size ≤ g) : Below w.heap.size w w2 :=
  ((Mod.of_below h (fun _ => False)).trans hm (fun i hi h => by omega)).to_below (fun _ _ h => h)
theorem sizeW_I {l : List Ent} (h60 : ∀ j, j < l.length → (entAt l j).name.size ≤ 60) (hs : l.length ≤ 1125899906842624) : sizeW l = sizeI l := by
  have h : ∀ k, k ≤ l.length → sizeW (l.take k) = sizeI (l.take k) := by
    intro k
    induction k with
    | zero => intro _; rfl
    | succ k ih =>
      intro hk
      rw [sizeW_snoc l k (by omega), sizeI_snoc l k (by omega), ih (by omega)]
      have h1 := size_le l k (by omega) (fun j hj => h60 j (by omega))
      have h2 := h60 k (by omega)
      unfold wrap64
      omega
  have := h l.length (Nat.le_refl _)
  rwa [List.take_length] at this
theorem pack_len (l : List Ent) (k : Nat) (hk : k ≤ l.length) (hs : sizeI l ≤ 250) : ([1, (l.length : Int) % 256] ++ (l.take k).flatMap entB).length ≤ 252 := by
  have h1 := size_mono l k hk
  rw [sizeI_eq] at h1
  simp only [List.length_append, List.length_cons, List.length_nil]
  omega
theorem bytesOf_snoc (s : ByteArray) (k : Nat) (h : k < s.size) : (bytesOf s).take (k + 1) = (bytesOf s).take k ++ [((s[k]'h).toNat : Int)] := by
  have hl : (bytesOf s).length = s.size := bytesOf_length s
  rw [List.take_succ_eq_append_getElem (by omega)]
  congr 1
  have : (bytesOf s)[k]'(by omega) = ((s[k]'h).toNat : Int) := by
    unfold Go.Proofs.YtjggkaieagbjmaaW.PrintWords.bytesOf
    simp
    rfl
  rw [this]
end Go.Proofs.Ytjggkaieagbjmaa.Hand
