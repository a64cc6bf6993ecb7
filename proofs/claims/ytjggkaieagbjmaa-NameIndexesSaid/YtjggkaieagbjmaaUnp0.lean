/- Package name: what a block of entries is read as, by plain functions; rows of bytes compared. -/
import Derived.Test.YtjggkaieagbjmaaPack1
namespace Go.Proofs.Ytjggkaieagbjmaa.Hand
set_option linter.unusedVariables false
set_option linter.unusedSimpArgs false
open Go.Lib (toList_data)
open Go.Shelf Go.RowKit Go.Proofs.YtjggkaieagbjmaaW.PrintWords Go.Proofs.YtjggkaieagbjmaaW.PrintLast Go.Proofs.YtjggkaieagbjmaaW.PrintMore

/-- All are bytes. -/
def allB (l : List Int) : Prop := ∀ x ∈ l, 0 ≤ x ∧ x < 256
instance (l : List Int) : Decidable (allB l) := by unfold allB; infer_instance
theorem allB_get {l : List Int} (h : allB l) (j : Nat) : 0 ≤ l.getD j 0 ∧ l.getD j 0 < 256 := by
  rw [List.getD_eq_getElem?_getD]
  cases hj : l[j]? with
  | none => simp
  | some x => exact h x (List.mem_of_getElem? hj)
theorem allB_drop {l : List Int} (h : allB l) (j : Nat) : allB (l.drop j) := fun x hx => h x (List.mem_of_mem_drop hx)
theorem allB_take {l : List Int} (h : allB l) (j : Nat) : allB (l.take j) := fun x hx => h x (List.mem_of_mem_take hx)
theorem allB_set {l : List Int} (h : allB l) (i : Nat) (x : Int) (hx : 0 ≤ x ∧ x < 256) : allB (l.set i x) := fun y hy => by
  rcases List.mem_or_eq_of_mem_set hy with h' | rfl
  · exact h y h'
  · exact hx
theorem allB_append {l m : List Int} (h : allB l) (h' : allB m) : allB (l ++ m) := fun y hy => by
  rcases List.mem_append.1 hy with h1 | h1
  · exact h y h1
  · exact h' y h1
theorem allB_lay {l : List Int} (h : allB l) (off : Nat) (x : Int) (k : Nat) : allB (layL l off x k) := by
  induction k with
  | zero => exact h
  | succ k ih => exact allB_set ih _ _ (by unfold leB; omega)
theorem allB_bytes (s : ByteArray) : allB (bytesOf s) := fun y hy => by
  unfold bytesOf at hy
  obtain ⟨b, _, rfl⟩ := List.mem_map.1 hy
  have := b.toNat_lt
  omega
theorem allB_pad {l : List Int} (h : allB l) : allB (pad l) := allB_append h fun y hy => by rw [List.eq_of_mem_replicate hy]; omega
theorem allB_ent (x : Ent) : allB (entB x) := by
  unfold entB
  refine allB_append (fun y hy => ?_) (allB_bytes _)
  simp only [List.mem_cons, List.not_mem_nil, or_false] at hy
  rcases hy with rfl | rfl | rfl | rfl <;> omega
theorem allB_packB (l : List Ent) : allB (packB l) := by
  unfold packB
  refine allB_append (fun y hy => ?_) (fun y hy => ?_)
  · simp only [List.mem_cons, List.not_mem_nil, or_false] at hy
    rcases hy with rfl | rfl <;> omega
  · obtain ⟨x, _, hx⟩ := List.mem_flatMap.1 hy
    exact allB_ent x y hx
theorem allB_pack (l : List Ent) (s : Int) : allB (packI l s).1 := by
  unfold packI
  split
  · split
    · intro y hy; cases hy
    · exact allB_lay (allB_pad (allB_packB l)) _ _ _
  · intro y hy; cases hy
theorem strOf_bytes {l : List Int} (h : allB l) : bytesOf (strOfNums l) = l := by
  unfold bytesOf
  rw [strOfNums_data, List.map_map]
  conv => rhs; rw [← List.map_id l]
  refine List.map_congr_left fun x hx => ?_
  have := h x hx
  simp only [Function.comp, id]
  rw [UInt8.toNat_ofNat', Nat.mod_eq_of_lt (by omega)]
  omega
theorem strOf_toList (l : List Int) : (strOfNums l).toList = l.map fun n => UInt8.ofNat n.toNat := by
  rw [toList_data]
  rfl
theorem strOf_eq {l m : List Int} (h : allB l) (h' : allB m) : ((strOfNums l).toList == (strOfNums m).toList) = (l == m) := by
  rw [Bool.eq_iff_iff, beq_iff_eq, beq_iff_eq, toList_data, toList_data]
  refine ⟨fun e => ?_, fun e => by rw [e]⟩
  rw [← strOf_bytes h, ← strOf_bytes h']
  unfold Go.Proofs.YtjggkaieagbjmaaW.PrintWords.bytesOf
  rw [e]

theorem i64_or_nat (a b : Nat) (ha : a < 9223372036854775808) (hb : b < 9223372036854775808) : Go.bits .or .i64 (a : Int) (b : Int) = ((a ||| b : Nat) : Int) := by
  have hx : a ||| b < 2 ^ 63 := Nat.or_lt_two_pow (by omega) (by omega)
  have ho : ∀ a : Nat, a < 9223372036854775808 → (BitVec.ofInt 64 (a : Int)).toNat = a := fun a ha => by
    rw [BitVec.ofInt_natCast, BitVec.toNat_ofNat]; exact Nat.mod_eq_of_lt (by omega)
  show IntKind.i64.wrap ((BitVec.ofInt 64 (a : Int) ||| BitVec.ofInt 64 (b : Int)).toNat : Int) = _
  rw [BitVec.toNat_or, ho a ha, ho b hb]
  simp [IntKind.wrap, IntKind.bits, IntKind.signed]
  split <;> omega
theorem or_bytes {x y : Int} (h : 0 ≤ x ∧ x < 256) (h' : 0 ≤ y ∧ y < 256) : Go.bits .or .i64 x (wrap64 (y * 256)) = x + 256 * y := by
  have e : wrap64 (y * 256) = y * 256 := by unfold wrap64; omega
  obtain ⟨a, rfl⟩ : ∃ a : Nat, x = a := ⟨x.toNat, by omega⟩
  obtain ⟨b, rfl⟩ : ∃ b : Nat, y = b := ⟨y.toNat, by omega⟩
  have e2 : ((b : Int) * 256) = ((b * 256 : Nat) : Int) := by omega
  rw [e, e2, i64_or_nat a (b * 256) (by omega) (by omega)]
  have := Nat.shiftLeft_add_eq_or_of_lt (i := 8) (b := a) (by omega) b
  rw [Nat.shiftLeft_eq] at this
  rw [Nat.or_comm, ← this]
  omega

/-- An entry that stands at the head of bytes: its inode has two, its kind one, its name as many as the fourth says. -/
def entI (r : List Int) : Ent := ⟨r.getD 0 0 + 256 * r.getD 1 0, r.getD 2 0, strOfNums ((r.drop 4).take (r.getD 3 0).toNat)⟩
/-- As many entries as are asked are read off. -/
def readI : Nat → List Int → List Ent → Option (List Ent)
  | 0, _, out => some out
  | g + 1, r, out => if (r.length : Int) < 4 ∨ (r.length : Int) < 4 + r.getD 3 0 then none else readI g (r.drop (4 + (r.getD 3 0).toNat)) (out ++ [entI r])
/-- What UnpackLeaf answers. -/
def unpackI (l : List Int) (s : Int) : List Ent × Int :=
  if l.length ≠ 256 then ([], 117) else
  match readI (l.getD 1 0).toNat ((l.drop 2).take 250) [] with
  | none => ([], 117)
  | some out => if (packI out s).2 = 0 ∧ (packI out s).1 = l then (out, 0) else ([], 117)

/-- The cells of an entry. -/
def ecells (x : Ent) : List Value := [.int .i64 x.ino, .int .i64 x.kind, .string x.name]
theorem ecells_at (l : List Ent) (j : Nat) (hj : j < l.length) (i : Nat) (hi : i < 3) : (l.flatMap ecells)[j * 3 + i]? = (ecells (entAt l j))[i]? := by
  induction l generalizing j with
  | nil => simp at hj
  | cons x l ih =>
    rw [List.flatMap_cons]
    cases j with
    | zero => rw [List.getElem?_append_left (by simp [ecells]; omega)]; simp [entAt]
    | succ j =>
      rw [List.getElem?_append_right (by simp [ecells]; omega)]
      have : (j + 1) * 3 + i - (ecells x).length = j * 3 + i := by simp [ecells]; omega
      rw [this, ih j (by simpa using hj)]
      simp [entAt]
/-- A row of entries that a call owns. -/
def OwnE (w : World) (base : Nat) (v : Value) (l : List Ent) : Prop := w.ownsRow base 61 3 v l.length (l.flatMap ecells)
theorem OwnE.reads {w : World} {base : Nat} {v : Value} {l : List Ent} (h : OwnE w base v l) (hs : l.length ≤ 1125899906842624) : ∃ A c, v = .slice A l.length c ∧ l.length ≤ c ∧ Ents w A l := by
  have h0 := h
  rcases h.2 with ⟨rfl, hz⟩ | ⟨g, cap, cur, rfl, hb, hh, h1, h2, h3, h4⟩
  · obtain rfl : l = [] := List.eq_nil_of_length_eq_zero hz
    exact ⟨none, 0, rfl, by simp, ⟨by simp, fun j hj => absurd hj (by simp)⟩⟩
  · refine ⟨_, cap, rfl, h1, hs, fun j hj => ⟨_, rfl, ?_, ?_, ?_⟩⟩
    all_goals rw [add_plain]
    · have := h0.cells (g := g) rfl (j * 3 + 0) (.int .i64 (entAt l j).ino) (by rw [ecells_at l j hj 0 (by omega)]; rfl)
      rw [add_plain] at this
      exact this
    · have := h0.cells (g := g) rfl (j * 3 + 1) (.int .i64 (entAt l j).kind) (by rw [ecells_at l j hj 1 (by omega)]; rfl)
      rw [add_plain] at this
      exact this
    · have := h0.cells (g := g) rfl (j * 3 + 2) (.string (entAt l j).name) (by rw [ecells_at l j hj 2 (by omega)]; rfl)
      rw [add_plain] at this
      exact this
theorem ownE_snoc {w : World} {base : Nat} {v : Value} {l : List Ent} {x : Ent} {news : List Value} (h : w.ownsRow base 61 3 v (l.length + 1) (l.flatMap ecells ++ news)) (hn : news = ecells x) : OwnE w base v (l ++ [x]) := by
  unfold OwnE
  rw [List.length_append, List.flatMap_append, show [x].length = 1 from rfl, show [x].flatMap ecells = ecells x by simp, ← hn]
  exact h
theorem OwnE.below {w w1 : World} {base : Nat} {v : Value} {l : List Ent} (h : OwnE w base v l) (hb : Below w.heap.size w w1) : OwnE w1 base v l := pw_own_below h hb

set_option maxHeartbeats 2000000 in
set_option maxRecDepth 100000 in
theorem equal_calls (A B : Option Addr) (c d : Nat) (l m : List Int) (w : World) (hl : Kd.C (Kd.int .u8) w A l.length l) (hm : Kd.C (Kd.int .u8) w B m.length m) :
    Calls Try.prog 40 #[.slice A l.length c, .slice B m.length d] w fun e w' => e = .returned (.bool ((strOfNums l).toList == (strOfNums m).toList)) ∧ w = w' := by
  have h1 : (convert 30 9 (.slice A l.length c)).run Try.prog w = .ok (.string (strOfNums l)) w := Kd.C_string rfl rfl rfl hl
  have h2 : (convert 30 9 (.slice B m.length d)).run Try.prog w = .ok (.string (strOfNums m)) w := Kd.C_string rfl rfl rfl hm
  clear hl hm
  go_enter Try.func40, Try.ntmps40
  go_wp2
  go_ret
  exact ⟨rfl, rfl⟩
theorem infoEnt : (Try.prog.info? 61).map (fun i => (i.zero, i.size, i.bytes)) = some (some (.agg #[.int .i64 0, .int .i64 0, .string ⟨#[]⟩]), 3, 32) := by kernel_rfl
end Go.Proofs.Ytjggkaieagbjmaa.Hand
