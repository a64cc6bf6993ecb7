/- Package name: what a block of entries is, by plain functions. -/
import Derived.Test.YtjggkaieagbjmaaSealed
namespace Go.Proofs.Ytjggkaieagbjmaa.Hand
set_option linter.unusedVariables false
set_option linter.unusedSimpArgs false
open Go.Shelf Go.RowKit Go.Proofs.YtjggkaieagbjmaaW.PrintWords Go.Proofs.YtjggkaieagbjmaaW.PrintLast Go.Proofs.YtjggkaieagbjmaaW.PrintMore

/-- An entry: its inode, its kind, its name. -/
structure Ent where
  ino : Int
  kind : Int
  name : ByteArray
def entAt (l : List Ent) (j : Nat) : Ent := l.getD j ⟨0, 0, ⟨#[]⟩⟩
/-- A slice of entries that is read. -/
structure Ents (w : World) (A : Option Addr) (l : List Ent) : Prop where
  size : l.length ≤ 1125899906842624
  cells : ∀ j, j < l.length → ∃ ad, A = some ad ∧ w.cell? (ad.add (j * 3)) = some (.int .i64 (entAt l j).ino) ∧ w.cell? ⟨(ad.add (j * 3)).block, (ad.add (j * 3)).off + 1, none⟩ = some (.int .i64 (entAt l j).kind) ∧ w.cell? ⟨(ad.add (j * 3)).block, (ad.add (j * 3)).off + 2, none⟩ = some (.string (entAt l j).name)
theorem Ents.below {w w1 : World} {A : Option Addr} {l : List Ent} (h : Ents w A l) (hb : Below w.heap.size w w1) : Ents w1 A l :=
  ⟨h.size, fun j hj => by
    obtain ⟨ad, e, h1, h2, h3⟩ := h.cells j hj
    exact ⟨ad, e, pw_cell_below hb h1, pw_cell_below hb h2, pw_cell_below hb h3⟩⟩

/-- May entry k of a list be? -/
def entOk (l : List Ent) (k : Nat) : Prop :=
  ¬ (entAt l k).ino < 1 ∧ ¬ 65535 < (entAt l k).ino ∧ ¬ (entAt l k).kind < 1 ∧ ¬ 3 < (entAt l k).kind ∧ chkI (entAt l k).name = 0 ∧ (0 < k → lessB (entAt l (k - 1)).name (entAt l k).name = true)
instance (l : List Ent) (k : Nat) : Decidable (entOk l k) := by unfold entOk; infer_instance
def entsOk (l : List Ent) : Prop := ∀ k, k < l.length → entOk l k
instance (l : List Ent) : Decidable (entsOk l) := by unfold entsOk; infer_instance
/-- The bytes of entries: how many. -/
def sizeI (l : List Ent) : Int := l.foldl (fun n x => n + (4 + (x.name.size : Int))) 0
def entB (x : Ent) : List Int := [x.ino % 256, x.ino / 256 % 256, x.kind % 256, (x.name.size : Int) % 256] ++ bytesOf x.name
def packB (l : List Ent) : List Int := [1, (l.length : Int) % 256] ++ l.flatMap entB
/-- What PackLeaf answers. -/
def packI (l : List Ent) (s : Int) : List Int × Int := if entsOk l then (if 250 < sizeI l then ([], 28) else (sealL (pad (packB l)) s, 0)) else ([], 22)

theorem sizeI_snoc (l : List Ent) (k : Nat) (h : k < l.length) : sizeI (l.take (k + 1)) = sizeI (l.take k) + (4 + ((entAt l k).name.size : Int)) := by
  unfold sizeI entAt
  rw [List.take_succ_eq_append_getElem h, List.foldl_append]
  simp [List.getD_eq_getElem?_getD, h]
theorem packB_snoc (l : List Ent) (k : Nat) (h : k < l.length) : (l.take (k + 1)).flatMap entB = (l.take k).flatMap entB ++ entB (entAt l k) := by
  unfold entAt
  rw [List.take_succ_eq_append_getElem h, List.flatMap_append]
  simp [List.getD_eq_getElem?_getD, h]
theorem entB_length (x : Ent) : (entB x).length = 4 + x.name.size := by simp [entB, bytesOf_length]; omega
theorem sizeI_eq (l : List Ent) : sizeI l = ((l.flatMap entB).length : Int) := by
  have h : ∀ (l : List Ent) (n : Int), l.foldl (fun n x => n + (4 + (x.name.size : Int))) n = n + ((l.flatMap entB).length : Int) := by
    intro l
    induction l with
    | nil => intro n; simp
    | cons x l ih => intro n; rw [List.foldl_cons, ih, List.flatMap_cons, List.length_append, entB_length]; omega
  unfold sizeI
  rw [h]; omega
theorem chk_size {s : ByteArray} (h : chkI s = 0) : s.size ≤ 60 := by
  unfold chkI at h
  split at h
  · cases h
  · omega
theorem size_le (l : List Ent) (k : Nat) (hk : k ≤ l.length) (h : ∀ j, j < k → (entAt l j).name.size ≤ 60) : 0 ≤ sizeI (l.take k) ∧ sizeI (l.take k) ≤ 64 * k := by
  induction k with
  | zero => simp [sizeI]
  | succ k ih =>
    rw [sizeI_snoc l k (by omega)]
    have := ih (by omega) (fun j hj => h j (by omega))
    have := h k (by omega)
    omega
theorem size_mono (l : List Ent) (k : Nat) (hk : k ≤ l.length) : 0 ≤ sizeI (l.take k) ∧ sizeI (l.take k) ≤ sizeI l := by
  have h1 := sizeI_eq (l.take k)
  have h2 := sizeI_eq l
  have h3 : (l.flatMap entB) = (l.take k).flatMap entB ++ (l.drop k).flatMap entB := by rw [← List.flatMap_append, List.take_append_drop]
  rw [h3, List.length_append] at h2
  omega

set_option maxHeartbeats 2000000 in
set_option maxRecDepth 100000 in
theorem size_calls (A : Option Addr) (c : Nat) (l : List Ent) (w : World) (hl : Ents w A l) (h60 : ∀ j, j < l.length → (entAt l j).name.size ≤ 60) :
    Calls Try.prog 36 #[.slice A l.length c] w fun e w' => e = .returned (.int .i64 (sizeI l)) ∧ Below w.heap.size w w' := by
  have HL := Aside0.mk hl
  have H60 := Aside0.mk h60
  have hsz := hl.size
  clear hl h60
  go_enter Try.func36, Try.ntmps36
  go_wp2
  go_loopg [3, 8] l.length (fun g x i wr => ∃ k : Nat, k + g = l.length ∧ x = .int .i64 (sizeI (l.take k)) ∧ i = .int .i64 k ∧ Aside0 (Below w.heap.size w wr))
  case atStart => exact ⟨0, by omega, rfl, rfl, ⟨Below.refl _ _⟩⟩
  case round =>
    obtain ⟨k, hk, rfl, rfl, HB⟩ := hrel
    obtain ⟨hr0, hr1⟩ := size_le l k (by omega) (fun j hj => H60.out j (by omega))
    obtain ⟨y, hy⟩ : ∃ y, sizeI (l.take k) = y := ⟨_, rfl⟩
    rw [hy] at hr0 hr1 ⊢
    have HY := Aside0.mk hy
    clear hy
    cases gk with
    | zero =>
      obtain rfl : k = l.length := by omega
      go_wp2
      go_ret
      exact ⟨by rw [← HY.out, List.take_length]; rfl, HB.out⟩
    | succ g =>
      obtain ⟨ad, rfl, h1, h2, h3⟩ := (HL.out.below HB.out).cells k (by omega)
      have hx := H60.out k (by omega)
      have hsn := sizeI_snoc l k (by omega)
      rw [HY.out] at hsn
      obtain ⟨x, hxx⟩ : ∃ x, entAt l k = x := ⟨_, rfl⟩
      rw [hxx] at h1 h2 h3 hx hsn
      have HS := Aside0.mk hsn
      clear hsn hxx
      have hB1 := fun o => below_alloc HB.out o
      have HB1 := Aside0.mk hB1
      clear hB1
      go_wp2
      go_roundg g
      case measure => omega
      case rel => exact ⟨k + 1, by omega, by rw [HS.out], by go_num, ⟨HB1.out _⟩⟩
end Go.Proofs.Ytjggkaieagbjmaa.Hand
