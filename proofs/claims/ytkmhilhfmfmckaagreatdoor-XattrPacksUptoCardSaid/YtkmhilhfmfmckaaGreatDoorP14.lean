/- Own texts and printed words of the kit, put together and trimmed by a program of mine (merge.py). -/
import Derived.Test.YtkmhilhfmfmckaaGreatDoorP13
import Derived.Lib.AppendZerosOnto
import Derived.Lib.Overlaps
import Derived.Laws.IdiomCopy
namespace Go.Proofs.YtkmhilhfmfmckaaGreatDoor.Hand
set_option linter.unusedSimpArgs false
set_option linter.unusedVariables false
open Go.Shelf Go.RowKit Go.Proofs.YtkmhilhfmfmckaaGreatDoorW.PrintWords Go.Proofs.YtkmhilhfmfmckaaGreatDoorW.PrintLast Go.Proofs.YtkmhilhfmfmckaaGreatDoorW.PrintMore
structure Ino where
  kind : Int
  perm : Int
  uid : Int
  gid : Int
  links : Int
  size : Int
  blocks : Int
  atime : Int
  mtime : Int
  ctime : Int
  next : Int
  parent : Int
  xattr : Int
  indexed : Bool
deriving DecidableEq
def Ino.cells (r : Ino) (rv : Value) : List Value := [.int .i64 r.kind, .int .i64 r.perm, .int .i64 r.uid, .int .i64 r.gid, .int .i64 r.links, .int .i64 r.size, .int .i64 r.blocks, .int .i64 r.atime, .int .i64 r.mtime, .int .i64 r.ctime, .int .i64 r.next, .int .i64 r.parent, .int .i64 r.xattr, .bool r.indexed, rv]
def Ino.nums (r : Ino) : List Int := [r.kind, if r.indexed then 1 else 0, r.perm, r.uid, r.gid, r.links, r.size, r.blocks, r.atime, r.mtime, r.ctime, r.next, r.parent, r.xattr]
theorem infoInt64 : (Tryz.prog.info? 2).map (fun i => (i.zero, i.size, i.bytes)) = some (some (.int .i64 0), 1, 8) := by kernel_rfl
set_option maxHeartbeats 4000000 in
set_option maxRecDepth 100000 in
theorem inums_calls (kind perm uid gid links size blocks atime mtime ctime next parent xattr : Int) (indexed : Bool) (A : Option Addr) (n c : Nat) (w : World) :
    Calls Tryz.prog 125 #[.agg #[.int .i64 kind, .int .i64 perm, .int .i64 uid, .int .i64 gid, .int .i64 links, .int .i64 size, .int .i64 blocks, .int .i64 atime, .int .i64 mtime, .int .i64 ctime, .int .i64 next, .int .i64 parent, .int .i64 xattr, .bool indexed, .slice A n c]] w fun e w' => ∃ v, e = .returned v ∧ Own w' w.heap.size 2 .i64 v (Ino.nums ⟨kind, perm, uid, gid, links, size, blocks, atime, mtime, ctime, next, parent, xattr, indexed⟩) ∧ Below w.heap.size w w' := by
  cases indexed with
  | true =>
    go_enter Tryz.func125, Tryz.ntmps125
    go_wp2
    have hst1 : Strc ((w.alloc (.cells #[.int .i64 kind, .int .i64 perm, .int .i64 uid, .int .i64 gid, .int .i64 links, .int .i64 size, .int .i64 blocks, .int .i64 atime, .int .i64 mtime, .int .i64 ctime, .int .i64 next, .int .i64 parent, .int .i64 xattr, .bool true, .slice A n c] 47)).alloc (.cells #[.int .i64 kind, .int .i64 1, .int .i64 perm, .int .i64 uid, .int .i64 gid, .int .i64 links, .int .i64 size, .int .i64 blocks] 3)) w.heap.size 47 (#[.int .i64 kind, .int .i64 perm, .int .i64 uid, .int .i64 gid, .int .i64 links, .int .i64 size, .int .i64 blocks, .int .i64 atime, .int .i64 mtime, .int .i64 ctime, .int .i64 next, .int .i64 parent, .int .i64 xattr, .bool true, .slice A n c] : Array Value).toList := Strc.below (w := w.alloc _) (alloc_last w _) (below_alloc (Below.refl _ _) _)
    have hst2 : Strc ((w.alloc (.cells #[.int .i64 kind, .int .i64 perm, .int .i64 uid, .int .i64 gid, .int .i64 links, .int .i64 size, .int .i64 blocks, .int .i64 atime, .int .i64 mtime, .int .i64 ctime, .int .i64 next, .int .i64 parent, .int .i64 xattr, .bool true, .slice A n c] 47)).alloc (.cells #[.int .i64 kind, .int .i64 1, .int .i64 perm, .int .i64 uid, .int .i64 gid, .int .i64 links, .int .i64 size, .int .i64 blocks] 3)) (w.heap.size + 1) 3 (nums .i64 [kind, 1, perm, uid, gid, links, size, blocks]) := by
      have := alloc_last (w.alloc (.cells #[.int .i64 kind, .int .i64 perm, .int .i64 uid, .int .i64 gid, .int .i64 links, .int .i64 size, .int .i64 blocks, .int .i64 atime, .int .i64 mtime, .int .i64 ctime, .int .i64 next, .int .i64 parent, .int .i64 xattr, .bool true, .slice A n c] 47)) (.cells #[.int .i64 kind, .int .i64 1, .int .i64 perm, .int .i64 uid, .int .i64 gid, .int .i64 links, .int .i64 size, .int .i64 blocks] 3)
      rw [show ∀ o, (w.alloc o).heap.size = w.heap.size + 1 from fun o => by simp] at this
      exact this
    have hb2 := below_alloc (below_alloc (Below.refl w.heap.size w) (.cells #[.int .i64 kind, .int .i64 perm, .int .i64 uid, .int .i64 gid, .int .i64 links, .int .i64 size, .int .i64 blocks, .int .i64 atime, .int .i64 mtime, .int .i64 ctime, .int .i64 next, .int .i64 parent, .int .i64 xattr, .bool true, .slice A n c] 47)) (.cells #[.int .i64 kind, .int .i64 1, .int .i64 perm, .int .i64 uid, .int .i64 gid, .int .i64 links, .int .i64 size, .int .i64 blocks] 3)
    generalize (w.alloc (.cells #[.int .i64 kind, .int .i64 perm, .int .i64 uid, .int .i64 gid, .int .i64 links, .int .i64 size, .int .i64 blocks, .int .i64 atime, .int .i64 mtime, .int .i64 ctime, .int .i64 next, .int .i64 parent, .int .i64 xattr, .bool true, .slice A n c] 47)).alloc (.cells #[.int .i64 kind, .int .i64 1, .int .i64 perm, .int .i64 uid, .int .i64 gid, .int .i64 links, .int .i64 size, .int .i64 blocks] 3) = W2 at hst1 hst2 hb2 ⊢
    obtain ⟨xs, hxs⟩ : ∃ xs : List Int, [kind, 1, perm, uid, gid, links, size, blocks] = xs := ⟨_, rfl⟩
    have hxl : xs.length = 8 := by rw [← hxs]; rfl
    rw [hxs] at hst2
    have HXS := Aside0.mk (And.intro hxs hxl)
    have HS1 := Aside0.mk hst1
    have HS2 := Aside0.mk hst2
    have HB2 := Aside0.mk hb2
    clear hst1 hst2 hb2 hxs hxl
    go_loopg [4, 6, 26] 8 (fun g v u i wr => ∃ k : Nat, k + g = 8 ∧ i = .int .i64 k ∧ Aside0 (Own wr W2.heap.size 2 .i64 v (xs.take k)) ∧ Aside0 (Below W2.heap.size W2 wr))
    case atStart => exact ⟨0, rfl, rfl, ⟨own_of_nil _ _ _ _⟩, ⟨Below.refl _ _⟩⟩
    case round =>
      obtain ⟨k, hk, rfl, HO, HB⟩ := hrel
      cases gk with
      | zero =>
        have hk8 : k = 8 := by omega
        subst hk8
        have hs1 := HS1.out.below HB.out
        have c7 := hs1.cell 7 _ rfl
        have c8 := hs1.cell 8 _ rfl
        have c9 := hs1.cell 9 _ rfl
        have c10 := hs1.cell 10 _ rfl
        have c11 := hs1.cell 11 _ rfl
        have c12 := hs1.cell 12 _ rfl
        have HLN := Aside0.mk (show (xs.take 8).length = 8 by rw [List.length_take, HXS.out.2]; rfl)
        have HTK := Aside0.mk (show xs.take 8 = xs by rw [List.take_of_length_le (by rw [HXS.out.2]; exact Nat.le_refl _)])
        have HOa := Aside0.mk (fun o => HO.out.below (below_alloc (Below.refl _ _) o))
        have HBa := Aside0.mk (fun o => below_alloc HB.out o)
        obtain ⟨e0, he, hz0, hz1, hz2⟩ := info_parts infoInt64
        clear hs1
        go_wp2_with ((with_reducible refine gate_dst (N := 49) rfl ?_); (refine wpList_append_own _ rfl (.tmp 35) (.tmp 48) 184 rfl W2.heap.size 2 e0 (.int .i64 0) 1 8 Tryz.underlying184 he hz0 hz1 hz2 rfl (by decide) _ _ _ rfl (HOa.out _) ⟨wr.heap.size, 0, none⟩ 6 6 [.int .i64 atime, .int .i64 mtime, .int .i64 ctime, .int .i64 next, .int .i64 parent, .int .i64 xattr] rfl ?c6 ?c1 ?c2 ?c3 ?c4 ?c5 ?_; (case c6 => rfl); (case c1 => (intro j u hj; rw [add_plain]; exact cell_alloc wr _ _ j u (by simpa using hj))); (case c2 => simp [Value.oneCell']); (case c3 => (rw [HLN.out]; simp only [maxLen]; omega)); (case c4 => (rw [HLN.out]; omega)); (case c5 => exact (HBa.out _).size); intro v1 w5 hown1 hgrow1 _; have HO5 := Aside0.mk (own_snoc (ys := [atime, mtime, ctime, next, parent, xattr]) hown1 rfl rfl); have HB5 := Aside0.mk (pw_below_grown (HBa.out _) _ (HBa.out _).size hgrow1 (fun g hg => HO.out.base g hg)); clear hown1 hgrow1 hz0 hz1 hz2 he))
        go_ret
        refine ⟨_, rfl, ?_, below_then HB2.out HB2.out.size HB5.out⟩
        have ho := HO5.out
        rw [HTK.out, ← HXS.out.1] at ho
        exact own_any ho (fun g hg => by have := own_base ho g hg; have := HB2.out.size; omega)
      | succ g =>
        have hk8 : k < 8 := by omega
        have i1 : (k : Int) < 8 := by omega
        have hsn : xs.take (k + 1) = xs.take k ++ [xs.getD k 0] := by
          rw [List.take_succ_eq_append_getElem (by rw [HXS.out.2]; exact hk8)]
          simp [List.getD_eq_getElem?_getD, HXS.out.2, hk8]
        have c1 := (HS2.out.below HB.out).cell k _ (nums_at _ _ _ (by rw [HXS.out.2]; exact hk8))
        obtain ⟨y, hy⟩ : ∃ y, xs.getD k 0 = y := ⟨_, rfl⟩
        rw [hy] at c1 hsn
        have HSN := Aside0.mk hsn
        have HLN := Aside0.mk (show (xs.take k).length = k by rw [List.length_take, HXS.out.2]; omega)
        have HOa := Aside0.mk (fun o => HO.out.below (below_alloc (Below.refl _ _) o))
        have HBa := Aside0.mk (fun o => below_alloc HB.out o)
        obtain ⟨e0, he, hz0, hz1, hz2⟩ := info_parts infoInt64
        clear hsn hy
        go_wp2_with ((with_reducible refine gate_dst (N := 33) rfl ?_); (refine wpList_append_own _ rfl (.tmp 30) (.tmp 32) 184 rfl W2.heap.size 2 e0 (.int .i64 0) 1 8 Tryz.underlying184 he hz0 hz1 hz2 rfl (by decide) _ _ _ rfl (HOa.out _) ⟨wr.heap.size, 0, none⟩ 1 1 [.int .i64 y] rfl ?c6 ?c1 ?c2 ?c3 ?c4 ?c5 ?_; (case c6 => rfl); (case c1 => (intro j u hj; rw [add_plain]; exact cell_alloc wr _ _ j u (by simpa using hj))); (case c2 => simp [Value.oneCell']); (case c3 => (rw [HLN.out]; simp only [maxLen]; omega)); (case c4 => (rw [HLN.out]; omega)); (case c5 => exact (HBa.out _).size); intro v1 w5 hown1 hgrow1 _; have HO5 := Aside0.mk (own_snoc (ys := [y]) hown1 rfl rfl); have HB5 := Aside0.mk (pw_below_grown (HBa.out _) _ (HBa.out _).size hgrow1 (fun g hg => HO.out.base g hg)); clear hown1 hgrow1 hz0 hz1 hz2 he))
        go_roundg g
        case measure => omega
        case rel => exact ⟨k + 1, by omega, by go_num, ⟨by rw [HSN.out]; exact HO5.out⟩, HB5⟩
  | false =>
    go_enter Tryz.func125, Tryz.ntmps125
    go_wp2
    have hst1 : Strc ((w.alloc (.cells #[.int .i64 kind, .int .i64 perm, .int .i64 uid, .int .i64 gid, .int .i64 links, .int .i64 size, .int .i64 blocks, .int .i64 atime, .int .i64 mtime, .int .i64 ctime, .int .i64 next, .int .i64 parent, .int .i64 xattr, .bool false, .slice A n c] 47)).alloc (.cells #[.int .i64 kind, .int .i64 0, .int .i64 perm, .int .i64 uid, .int .i64 gid, .int .i64 links, .int .i64 size, .int .i64 blocks] 3)) w.heap.size 47 (#[.int .i64 kind, .int .i64 perm, .int .i64 uid, .int .i64 gid, .int .i64 links, .int .i64 size, .int .i64 blocks, .int .i64 atime, .int .i64 mtime, .int .i64 ctime, .int .i64 next, .int .i64 parent, .int .i64 xattr, .bool false, .slice A n c] : Array Value).toList := Strc.below (w := w.alloc _) (alloc_last w _) (below_alloc (Below.refl _ _) _)
    have hst2 : Strc ((w.alloc (.cells #[.int .i64 kind, .int .i64 perm, .int .i64 uid, .int .i64 gid, .int .i64 links, .int .i64 size, .int .i64 blocks, .int .i64 atime, .int .i64 mtime, .int .i64 ctime, .int .i64 next, .int .i64 parent, .int .i64 xattr, .bool false, .slice A n c] 47)).alloc (.cells #[.int .i64 kind, .int .i64 0, .int .i64 perm, .int .i64 uid, .int .i64 gid, .int .i64 links, .int .i64 size, .int .i64 blocks] 3)) (w.heap.size + 1) 3 (nums .i64 [kind, 0, perm, uid, gid, links, size, blocks]) := by
      have := alloc_last (w.alloc (.cells #[.int .i64 kind, .int .i64 perm, .int .i64 uid, .int .i64 gid, .int .i64 links, .int .i64 size, .int .i64 blocks, .int .i64 atime, .int .i64 mtime, .int .i64 ctime, .int .i64 next, .int .i64 parent, .int .i64 xattr, .bool false, .slice A n c] 47)) (.cells #[.int .i64 kind, .int .i64 0, .int .i64 perm, .int .i64 uid, .int .i64 gid, .int .i64 links, .int .i64 size, .int .i64 blocks] 3)
      rw [show ∀ o, (w.alloc o).heap.size = w.heap.size + 1 from fun o => by simp] at this
      exact this
    have hb2 := below_alloc (below_alloc (Below.refl w.heap.size w) (.cells #[.int .i64 kind, .int .i64 perm, .int .i64 uid, .int .i64 gid, .int .i64 links, .int .i64 size, .int .i64 blocks, .int .i64 atime, .int .i64 mtime, .int .i64 ctime, .int .i64 next, .int .i64 parent, .int .i64 xattr, .bool false, .slice A n c] 47)) (.cells #[.int .i64 kind, .int .i64 0, .int .i64 perm, .int .i64 uid, .int .i64 gid, .int .i64 links, .int .i64 size, .int .i64 blocks] 3)
    generalize (w.alloc (.cells #[.int .i64 kind, .int .i64 perm, .int .i64 uid, .int .i64 gid, .int .i64 links, .int .i64 size, .int .i64 blocks, .int .i64 atime, .int .i64 mtime, .int .i64 ctime, .int .i64 next, .int .i64 parent, .int .i64 xattr, .bool false, .slice A n c] 47)).alloc (.cells #[.int .i64 kind, .int .i64 0, .int .i64 perm, .int .i64 uid, .int .i64 gid, .int .i64 links, .int .i64 size, .int .i64 blocks] 3) = W2 at hst1 hst2 hb2 ⊢
    obtain ⟨xs, hxs⟩ : ∃ xs : List Int, [kind, 0, perm, uid, gid, links, size, blocks] = xs := ⟨_, rfl⟩
    have hxl : xs.length = 8 := by rw [← hxs]; rfl
    rw [hxs] at hst2
    have HXS := Aside0.mk (And.intro hxs hxl)
    have HS1 := Aside0.mk hst1
    have HS2 := Aside0.mk hst2
    have HB2 := Aside0.mk hb2
    clear hst1 hst2 hb2 hxs hxl
    go_loopg [4, 6, 26] 8 (fun g v u i wr => ∃ k : Nat, k + g = 8 ∧ i = .int .i64 k ∧ Aside0 (Own wr W2.heap.size 2 .i64 v (xs.take k)) ∧ Aside0 (Below W2.heap.size W2 wr))
    case atStart => exact ⟨0, rfl, rfl, ⟨own_of_nil _ _ _ _⟩, ⟨Below.refl _ _⟩⟩
    case round =>
      obtain ⟨k, hk, rfl, HO, HB⟩ := hrel
      cases gk with
      | zero =>
        have hk8 : k = 8 := by omega
        subst hk8
        have hs1 := HS1.out.below HB.out
        have c7 := hs1.cell 7 _ rfl
        have c8 := hs1.cell 8 _ rfl
        have c9 := hs1.cell 9 _ rfl
        have c10 := hs1.cell 10 _ rfl
        have c11 := hs1.cell 11 _ rfl
        have c12 := hs1.cell 12 _ rfl
        have HLN := Aside0.mk (show (xs.take 8).length = 8 by rw [List.length_take, HXS.out.2]; rfl)
        have HTK := Aside0.mk (show xs.take 8 = xs by rw [List.take_of_length_le (by rw [HXS.out.2]; exact Nat.le_refl _)])
        have HOa := Aside0.mk (fun o => HO.out.below (below_alloc (Below.refl _ _) o))
        have HBa := Aside0.mk (fun o => below_alloc HB.out o)
        obtain ⟨e0, he, hz0, hz1, hz2⟩ := info_parts infoInt64
        clear hs1
        go_wp2_with ((with_reducible refine gate_dst (N := 49) rfl ?_); (refine wpList_append_own _ rfl (.tmp 35) (.tmp 48) 184 rfl W2.heap.size 2 e0 (.int .i64 0) 1 8 Tryz.underlying184 he hz0 hz1 hz2 rfl (by decide) _ _ _ rfl (HOa.out _) ⟨wr.heap.size, 0, none⟩ 6 6 [.int .i64 atime, .int .i64 mtime, .int .i64 ctime, .int .i64 next, .int .i64 parent, .int .i64 xattr] rfl ?c6 ?c1 ?c2 ?c3 ?c4 ?c5 ?_; (case c6 => rfl); (case c1 => (intro j u hj; rw [add_plain]; exact cell_alloc wr _ _ j u (by simpa using hj))); (case c2 => simp [Value.oneCell']); (case c3 => (rw [HLN.out]; simp only [maxLen]; omega)); (case c4 => (rw [HLN.out]; omega)); (case c5 => exact (HBa.out _).size); intro v1 w5 hown1 hgrow1 _; have HO5 := Aside0.mk (own_snoc (ys := [atime, mtime, ctime, next, parent, xattr]) hown1 rfl rfl); have HB5 := Aside0.mk (pw_below_grown (HBa.out _) _ (HBa.out _).size hgrow1 (fun g hg => HO.out.base g hg)); clear hown1 hgrow1 hz0 hz1 hz2 he))
        go_ret
        refine ⟨_, rfl, ?_, below_then HB2.out HB2.out.size HB5.out⟩
        have ho := HO5.out
        rw [HTK.out, ← HXS.out.1] at ho
        exact own_any ho (fun g hg => by have := own_base ho g hg; have := HB2.out.size; omega)
      | succ g =>
        have hk8 : k < 8 := by omega
        have i1 : (k : Int) < 8 := by omega
        have hsn : xs.take (k + 1) = xs.take k ++ [xs.getD k 0] := by
          rw [List.take_succ_eq_append_getElem (by rw [HXS.out.2]; exact hk8)]
          simp [List.getD_eq_getElem?_getD, HXS.out.2, hk8]
        have c1 := (HS2.out.below HB.out).cell k _ (nums_at _ _ _ (by rw [HXS.out.2]; exact hk8))
        obtain ⟨y, hy⟩ : ∃ y, xs.getD k 0 = y := ⟨_, rfl⟩
        rw [hy] at c1 hsn
        have HSN := Aside0.mk hsn
        have HLN := Aside0.mk (show (xs.take k).length = k by rw [List.length_take, HXS.out.2]; omega)
        have HOa := Aside0.mk (fun o => HO.out.below (below_alloc (Below.refl _ _) o))
        have HBa := Aside0.mk (fun o => below_alloc HB.out o)
        obtain ⟨e0, he, hz0, hz1, hz2⟩ := info_parts infoInt64
        clear hsn hy
        go_wp2_with ((with_reducible refine gate_dst (N := 33) rfl ?_); (refine wpList_append_own _ rfl (.tmp 30) (.tmp 32) 184 rfl W2.heap.size 2 e0 (.int .i64 0) 1 8 Tryz.underlying184 he hz0 hz1 hz2 rfl (by decide) _ _ _ rfl (HOa.out _) ⟨wr.heap.size, 0, none⟩ 1 1 [.int .i64 y] rfl ?c6 ?c1 ?c2 ?c3 ?c4 ?c5 ?_; (case c6 => rfl); (case c1 => (intro j u hj; rw [add_plain]; exact cell_alloc wr _ _ j u (by simpa using hj))); (case c2 => simp [Value.oneCell']); (case c3 => (rw [HLN.out]; simp only [maxLen]; omega)); (case c4 => (rw [HLN.out]; omega)); (case c5 => exact (HBa.out _).size); intro v1 w5 hown1 hgrow1 _; have HO5 := Aside0.mk (own_snoc (ys := [y]) hown1 rfl rfl); have HB5 := Aside0.mk (pw_below_grown (HBa.out _) _ (HBa.out _).size hgrow1 (fun g hg => HO.out.base g hg)); clear hown1 hgrow1 hz0 hz1 hz2 he))
        go_roundg g
        case measure => omega
        case rel => exact ⟨k + 1, by omega, by go_num, ⟨by rw [HSN.out]; exact HO5.out⟩, HB5⟩
def numOk (r : Ino) (k : Nat) : Bool := decide ((mostL r.kind).getD k 0 < 0) || (decide (0 ≤ r.nums.getD k 0) && decide (r.nums.getD k 0 ≤ (mostL r.kind).getD k 0))
def inoI (r : Ino) (rl : Nat) : Int :=
  if (List.range 14).all (fun k => numOk r k) = true ∧ r.kind ≠ 0 ∧ rl = 48 ∧ (r.kind = 2 ∨ (r.parent = 0 ∧ r.indexed = false)) then 0 else 22
theorem fieldC_len (kind : Int) : (fieldC kind).length = 28 := rfl
theorem field_at (kind : Int) (k : Nat) (h : k < 14) : (fieldC kind).getD (k * 2) 0 = wideL.getD k 0 ∧ (fieldC kind).getD (k * 2 + 1) 0 = (mostL kind).getD k 0 := by
  have : k = 0 ∨ k = 1 ∨ k = 2 ∨ k = 3 ∨ k = 4 ∨ k = 5 ∨ k = 6 ∨ k = 7 ∨ k = 8 ∨ k = 9 ∨ k = 10 ∨ k = 11 ∨ k = 12 ∨ k = 13 := by omega
  rcases this with h | h | h | h | h | h | h | h | h | h | h | h | h | h <;> subst h <;> exact ⟨rfl, rfl⟩
theorem inoI_bad {r : Ino} {n k : Nat} (hk : k < 14) (h : numOk r k = false) : inoI r n = 22 := by
  unfold inoI
  rw [if_neg]
  intro h2
  have := List.all_eq_true.1 h2.1 k (List.mem_range.2 hk)
  rw [h] at this
  cases this
set_option maxHeartbeats 4000000 in
set_option maxRecDepth 100000 in
theorem icheck_calls (kind perm uid gid links size blocks atime mtime ctime next parent xattr : Int) (indexed : Bool) (A : Option Addr) (n c : Nat) (w : World) :
    Calls Tryz.prog 61 #[.agg #[.int .i64 kind, .int .i64 perm, .int .i64 uid, .int .i64 gid, .int .i64 links, .int .i64 size, .int .i64 blocks, .int .i64 atime, .int .i64 mtime, .int .i64 ctime, .int .i64 next, .int .i64 parent, .int .i64 xattr, .bool indexed, .slice A n c]] w fun e w' => e = .returned (.int .i64 (inoI ⟨kind, perm, uid, gid, links, size, blocks, atime, mtime, ctime, next, parent, xattr, indexed⟩ n)) ∧ Below w.heap.size w w' := by
  obtain ⟨r, hr⟩ : ∃ r : Ino, (⟨kind, perm, uid, gid, links, size, blocks, atime, mtime, ctime, next, parent, xattr, indexed⟩ : Ino) = r := ⟨_, rfl⟩
  rw [hr]
  obtain ⟨q, hq⟩ : ∃ q, inoI r n = q := ⟨_, rfl⟩
  rw [hq]
  have HNU := Aside0.mk (fun W => inums_calls kind perm uid gid links size blocks atime mtime ctime next parent xattr indexed A n c W)
  rw [hr] at HNU
  have HFI := Aside0.mk (fun W => fields_calls kind W)
  have hrk : r.kind = kind := by rw [← hr]
  have HRK := Aside0.mk hrk
  have HR := Aside0.mk hr
  have HQ := Aside0.mk hq
  clear hrk hr hq
  go_enter Tryz.func61, Tryz.ntmps61
  go_wp2_with fail
  have hst1 := alloc_last w (.cells #[.int .i64 kind, .int .i64 perm, .int .i64 uid, .int .i64 gid, .int .i64 links, .int .i64 size, .int .i64 blocks, .int .i64 atime, .int .i64 mtime, .int .i64 ctime, .int .i64 next, .int .i64 parent, .int .i64 xattr, .bool indexed, .slice A n c] 47)
  have hb1 := below_alloc (Below.refl w.heap.size w) (.cells #[.int .i64 kind, .int .i64 perm, .int .i64 uid, .int .i64 gid, .int .i64 links, .int .i64 size, .int .i64 blocks, .int .i64 atime, .int .i64 mtime, .int .i64 ctime, .int .i64 next, .int .i64 parent, .int .i64 xattr, .bool indexed, .slice A n c] 47)
  generalize w.alloc (.cells #[.int .i64 kind, .int .i64 perm, .int .i64 uid, .int .i64 gid, .int .i64 links, .int .i64 size, .int .i64 blocks, .int .i64 atime, .int .i64 mtime, .int .i64 ctime, .int .i64 next, .int .i64 parent, .int .i64 xattr, .bool indexed, .slice A n c] 47) = W1 at hst1 hb1 ⊢
  have hst : Strc W1 w.heap.size 47 [.int .i64 kind, .int .i64 perm, .int .i64 uid, .int .i64 gid, .int .i64 links, .int .i64 size, .int .i64 blocks, .int .i64 atime, .int .i64 mtime, .int .i64 ctime, .int .i64 next, .int .i64 parent, .int .i64 xattr, .bool indexed, .slice A n c] := hst1
  have HST := Aside0.mk hst
  have HB1 := Aside0.mk hb1
  clear hst hst1 hb1
  refine (HNU.out W1).mono ?_
  rintro e W2 ⟨v2, rfl, ho2, hb2⟩
  obtain ⟨A2, c2, rfl, hc2, hk2⟩ := ho2.reads
  have hst2 := HST.out.below hb2
  have k0 := hst2.cell 0 _ rfl
  have HST2 := Aside0.mk hst2
  have HB2 := Aside0.mk (below_then HB1.out HB1.out.size hb2)
  have HK2 := Aside0.mk hk2
  clear hst2 hb2 hk2 ho2
  dsimp only
  go_wp2_with fail
  refine (HFI.out W2).mono ?_
  rintro e W3 ⟨gf, cf, rfl, hgf, hcf, hs3, hb3⟩
  have HS3 := Aside0.mk hs3
  have HB3 := Aside0.mk hb3
  clear hs3 hb3 k0
  dsimp only
  go_wp2
  have hnl : r.nums.length = 14 := rfl
  rw [hnl] at hc2 ⊢
  go_loopg [12] 14 (fun g i wr => ∃ k : Nat, k + g = 14 ∧ i = .int .i64 k ∧ Aside0 ((List.range k).all (fun j => numOk r j) = true) ∧ Aside0 (Below W3.heap.size W3 wr))
  case atStart => exact ⟨0, rfl, rfl, ⟨rfl⟩, ⟨Below.refl _ _⟩⟩
  case round =>
    obtain ⟨k, hk, rfl, HA, HB⟩ := hrel
    cases gk with
    | zero =>
      have hk14 : k = 14 := by omega
      subst hk14
      have hs := HST2.out.below (below_then HB3.out HB3.out.size HB.out)
      have d0 := hs.cell 0 _ rfl
      have d14 := hs.cell 14 _ rfl
      have d11 := hs.cell 11 _ rfl
      have d13 := hs.cell 13 _ rfl
      have HPA := Aside0.mk (show r.parent = parent by rw [← HR.out])
      have HIX := Aside0.mk (show r.indexed = indexed by rw [← HR.out])
      clear hs
      by_cases z0 : kind = 0
      · have z0b : (kind == 0) = true := by simpa using z0
        have hq2 : q = 22 := by rw [← HQ.out]; unfold inoI; rw [if_neg (by rw [HRK.out, HPA.out, HIX.out]; simp [z0])]
        subst hq2
        go_wp2
        go_ret
        exact ⟨rfl, below_then HB2.out HB2.out.size (below_then HB3.out HB3.out.size HB.out)⟩
      · have z0b : (kind == 0) = false := by simpa using z0
        by_cases n0 : n = 48
        · have n1 : ((n : Int) != 48) = false := by simp; omega
          by_cases k2 : kind = 2
          · have k2b : (kind != 2) = false := by simpa using k2
            have hq2 : q = 0 := by rw [← HQ.out]; unfold inoI; rw [if_pos ⟨HA.out, by rw [HRK.out]; exact z0, n0, by rw [HRK.out, HPA.out, HIX.out]; simp [k2]⟩]
            subst hq2
            go_wp2
            go_ret
            exact ⟨rfl, below_then HB2.out HB2.out.size (below_then HB3.out HB3.out.size HB.out)⟩
          · have k2b : (kind != 2) = true := by simpa using k2
            by_cases p0 : parent = 0
            · have p0b : (parent != 0) = false := by simpa using p0
              cases indexed with
              | true =>
                have hq2 : q = 22 := by rw [← HQ.out]; unfold inoI; rw [if_neg (by rw [HRK.out, HPA.out, HIX.out]; simp [k2, p0])]
                subst hq2
                go_wp2
                go_ret
                exact ⟨rfl, below_then HB2.out HB2.out.size (below_then HB3.out HB3.out.size HB.out)⟩
              | false =>
                have hq2 : q = 0 := by rw [← HQ.out]; unfold inoI; rw [if_pos ⟨HA.out, by rw [HRK.out]; exact z0, n0, by rw [HRK.out, HPA.out, HIX.out]; simp [k2, p0]⟩]
                subst hq2
                go_wp2
                go_ret
                exact ⟨rfl, below_then HB2.out HB2.out.size (below_then HB3.out HB3.out.size HB.out)⟩
            · have p0b : (parent != 0) = true := by simpa using p0
              have hq2 : q = 22 := by rw [← HQ.out]; unfold inoI; rw [if_neg (by rw [HRK.out, HPA.out, HIX.out]; simp [k2, p0])]
              subst hq2
              go_wp2
              go_ret
              exact ⟨rfl, below_then HB2.out HB2.out.size (below_then HB3.out HB3.out.size HB.out)⟩
        · have n1 : ((n : Int) != 48) = true := by simp; omega
          have hq2 : q = 22 := by rw [← HQ.out]; unfold inoI; rw [if_neg (by rw [HRK.out, HPA.out, HIX.out]; simp [n0])]
          subst hq2
          go_wp2
          go_ret
          exact ⟨rfl, below_then HB2.out HB2.out.size (below_then HB3.out HB3.out.size HB.out)⟩
    | succ g =>
      have hk14 : k < 14 := by omega
      have i1 : (k : Int) < 14 := by omega
      have hk3 : Kd.C (Kd.int .i64) wr A2 r.nums.length r.nums := Kd.C_below (Kd.C_below HK2.out HB3.out) HB.out
      obtain ⟨ad, rfl, hx⟩ := C_int_at hk3 k (by rw [hnl]; exact hk14)
      have hs3 := HS3.out.below HB.out
      obtain ⟨f0, f1⟩ := field_at kind k hk14
      have c0 := hs3.cell (k * 2) _ (nums_at _ _ _ (by rw [fieldC_len]; omega))
      have c1 := hs3.cell (k * 2 + 1) _ (nums_at _ _ _ (by rw [fieldC_len]; omega))
      obtain ⟨y, hy⟩ : ∃ y, (fieldC kind).getD (k * 2) 0 = y := ⟨_, rfl⟩
      obtain ⟨m, hm⟩ : ∃ m, (mostL kind).getD k 0 = m := ⟨_, rfl⟩
      obtain ⟨x, hxx⟩ : ∃ x, r.nums.getD k 0 = x := ⟨_, rfl⟩
      rw [hy] at c0
      rw [f1, hm] at c1
      rw [hxx] at hx
      have HOK := Aside0.mk (show numOk r k = (decide (m < 0) || (decide (0 ≤ x) && decide (x ≤ m))) by unfold numOk; rw [HRK.out, hm, hxx])
      clear f0 f1 hy hm hxx hs3 hk3
      have e1 := cell_alloc wr #[.int .i64 y, .int .i64 m] 189 1 _ rfl
      have e2 := pw_cell_below (below_alloc (Below.refl wr.heap.size wr) (.cells #[.int .i64 y, .int .i64 m] 189)) hx
      rcases Int.lt_or_le m 0 with m0 | m0
      · have m1 : ¬ m ≥ 0 := by omega
        have hok : numOk r k = true := by rw [HOK.out]; simp; omega
        have HA1 := Aside0.mk (show (List.range (k + 1)).all (fun j => numOk r j) = true by rw [List.range_succ, List.all_append, HA.out]; simp [hok])
        clear hok
        go_upto_region 5 with fail
        refine wp_region_in [0, 1, 0, 0, 0, 0, 0, 1, 0, 0, 0, 0, 0, 1, 0, 1, 0, 0, 0] [] (fun w' => w'.cell? ⟨wr.heap.size, 1, none⟩ = some (.int .i64 m) ∧ w'.cell? (ad.add k) = some (.int .i64 x)) (by kernel_rfl) rfl (by kernel_rfl) (fun _ _ _ _ h => h) ⟨e1, e2⟩ ?_
        iterate 19 (first
          | (refine in_off0 (by rfl) ?_; simp only [Act.put, stA, stZ, stS, i64_w, i32_w])
          | (refine in_off1 (by rfl) ?_; simp only [Act.put, stA, stZ, stS, i64_w, i32_w])
          | (refine in_0 (v := ?_) (by rfl) rfl ?_ (a' := ?_) ?_ ?_; rotate_left; (intro w'; go_simp; with_reducible rfl); rotate_left; (simp only [Act.put, stA, stZ, stS, i64_w, i32_w]; rfl))
          | (refine in_1 (v := ?_) (by rfl) rfl ?_ (a' := ?_) ?_ ?_; rotate_left; (rintro w' hs; go_split_ands; go_simp; with_reducible rfl); rotate_left; (simp only [Act.put, stA, stZ, stS, i64_w, i32_w]; rfl)))
        refine in_nil ?_
        go_wp2
        go_roundg g
        case measure => omega
        case rel => exact ⟨k + 1, by omega, by go_num, HA1, ⟨(below_alloc HB.out _).drew⟩⟩
      · have m1 : m ≥ 0 := m0
        rcases Int.lt_or_le x 0 with x0 | x0
        · have x1 : x < 0 := x0
          have hq22 : q = 22 := by rw [← HQ.out]; exact inoI_bad hk14 (by rw [HOK.out]; simp; omega)
          subst hq22
          go_upto_region 5 with fail
          refine wp_region_in [0, 1, 0, 0, 0, 0, 0, 1, 0, 0, 0, 0, 0, 1, 0, 1, 0, 0, 0] [] (fun w' => w'.cell? ⟨wr.heap.size, 1, none⟩ = some (.int .i64 m) ∧ w'.cell? (ad.add k) = some (.int .i64 x)) (by kernel_rfl) rfl (by kernel_rfl) (fun _ _ _ _ h => h) ⟨e1, e2⟩ ?_
          iterate 19 (first
            | (refine in_off0 (by rfl) ?_; simp only [Act.put, stA, stZ, stS, i64_w, i32_w])
            | (refine in_off1 (by rfl) ?_; simp only [Act.put, stA, stZ, stS, i64_w, i32_w])
            | (refine in_0 (v := ?_) (by rfl) rfl ?_ (a' := ?_) ?_ ?_; rotate_left; (intro w'; go_simp; with_reducible rfl); rotate_left; (simp only [Act.put, stA, stZ, stS, i64_w, i32_w]; rfl))
            | (refine in_1 (v := ?_) (by rfl) rfl ?_ (a' := ?_) ?_ ?_; rotate_left; (rintro w' hs; go_split_ands; go_simp; with_reducible rfl); rotate_left; (simp only [Act.put, stA, stZ, stS, i64_w, i32_w]; rfl)))
          refine in_nil ?_
          go_wp2
          go_ret
          exact ⟨rfl, below_then HB2.out HB2.out.size (below_then HB3.out HB3.out.size (below_alloc HB.out _).drew)⟩
        · rcases Int.lt_or_le m x with y0 | y0
          · have x1 : ¬ x < 0 := by omega
            have x2 : x > m := y0
            have hq22 : q = 22 := by rw [← HQ.out]; exact inoI_bad hk14 (by rw [HOK.out]; simp; omega)
            subst hq22
            go_upto_region 5 with fail
            refine wp_region_in [0, 1, 0, 0, 0, 0, 0, 1, 0, 0, 0, 0, 0, 1, 0, 1, 0, 0, 0] [] (fun w' => w'.cell? ⟨wr.heap.size, 1, none⟩ = some (.int .i64 m) ∧ w'.cell? (ad.add k) = some (.int .i64 x)) (by kernel_rfl) rfl (by kernel_rfl) (fun _ _ _ _ h => h) ⟨e1, e2⟩ ?_
            iterate 19 (first
              | (refine in_off0 (by rfl) ?_; simp only [Act.put, stA, stZ, stS, i64_w, i32_w])
              | (refine in_off1 (by rfl) ?_; simp only [Act.put, stA, stZ, stS, i64_w, i32_w])
              | (refine in_0 (v := ?_) (by rfl) rfl ?_ (a' := ?_) ?_ ?_; rotate_left; (intro w'; go_simp; with_reducible rfl); rotate_left; (simp only [Act.put, stA, stZ, stS, i64_w, i32_w]; rfl))
              | (refine in_1 (v := ?_) (by rfl) rfl ?_ (a' := ?_) ?_ ?_; rotate_left; (rintro w' hs; go_split_ands; go_simp; with_reducible rfl); rotate_left; (simp only [Act.put, stA, stZ, stS, i64_w, i32_w]; rfl)))
            refine in_nil ?_
            go_wp2
            go_ret
            exact ⟨rfl, below_then HB2.out HB2.out.size (below_then HB3.out HB3.out.size (below_alloc HB.out _).drew)⟩
          · have x1 : ¬ x < 0 := by omega
            have x2 : ¬ x > m := by omega
            have hok : numOk r k = true := by rw [HOK.out]; simp; omega
            have HA1 := Aside0.mk (show (List.range (k + 1)).all (fun j => numOk r j) = true by rw [List.range_succ, List.all_append, HA.out]; simp [hok])
            clear hok
            go_upto_region 5 with fail
            refine wp_region_in [0, 1, 0, 0, 0, 0, 0, 1, 0, 0, 0, 0, 0, 1, 0, 1, 0, 0, 0] [] (fun w' => w'.cell? ⟨wr.heap.size, 1, none⟩ = some (.int .i64 m) ∧ w'.cell? (ad.add k) = some (.int .i64 x)) (by kernel_rfl) rfl (by kernel_rfl) (fun _ _ _ _ h => h) ⟨e1, e2⟩ ?_
            iterate 19 (first
              | (refine in_off0 (by rfl) ?_; simp only [Act.put, stA, stZ, stS, i64_w, i32_w])
              | (refine in_off1 (by rfl) ?_; simp only [Act.put, stA, stZ, stS, i64_w, i32_w])
              | (refine in_0 (v := ?_) (by rfl) rfl ?_ (a' := ?_) ?_ ?_; rotate_left; (intro w'; go_simp; with_reducible rfl); rotate_left; (simp only [Act.put, stA, stZ, stS, i64_w, i32_w]; rfl))
              | (refine in_1 (v := ?_) (by rfl) rfl ?_ (a' := ?_) ?_ ?_; rotate_left; (rintro w' hs; go_split_ands; go_simp; with_reducible rfl); rotate_left; (simp only [Act.put, stA, stZ, stS, i64_w, i32_w]; rfl)))
            refine in_nil ?_
            go_wp2
            go_roundg g
            case measure => omega
            case rel => exact ⟨k + 1, by omega, by go_num, HA1, ⟨(below_alloc HB.out _).drew⟩⟩
set_option maxHeartbeats 1000000 in
set_option maxRecDepth 100000 in
theorem sreadbad_calls {D : Nat → Prop} {s0 : Nat} {s : St} (n : Nat) (w : World) (h : StIs w D s0 s) (hn : s.now.length ≤ n) :
    Calls Tryz.prog 20 #[.pointer (some ⟨s0, 0, none⟩), .int .i64 n] w fun e w' => e = .returned (.tuple #[.slice none 0 0, .int .i64 5]) ∧ w = w' := by
  obtain ⟨Dd, M, Mc, R, p0, L, m, room, ns, gs, cap, bc, bw, bh, uv, found, asked, fc, fh, us, h, rfl⟩ := h
  rw [h.view.1] at hn
  obtain ⟨hd0, hd1, hd2, hdp, hdl⟩ := h.disk.n
  have hc0 := h.st.cell 0 _ rfl
  have hdec : decide (0 ≤ (n : Int) ∧ (n : Int) < (L.length : Int)) = false := by simp; omega
  have hhas := shas_calls (x := (n : Int)) hc0 hd0
  rw [hdec] at hhas
  have HHAS := Aside0.mk hhas
  clear h hhas hdec hc0 hd0
  go_enter Tryz.func20, Tryz.ntmps20
  go_wp2_with (go_at_call 54; refine HHAS.out.mono ?_; rintro e w' ⟨rfl, rfl⟩)
  go_ret2
  exact ⟨rfl, rfl⟩
def xlistI (now : List (List Int)) (r : Ino) (rl : Nat) : List Att × Int :=
  if inoI r rl ≠ 0 then ([], 22) else
  if r.xattr = 0 then ([], 0) else
  if (xunpI (now.getD r.xattr.toNat []) r.xattr).2 ≠ 0 ∨ (xunpI (now.getD r.xattr.toNat []) r.xattr).1 = [] then ([], 117) else
  ((xunpI (now.getD r.xattr.toNat []) r.xattr).1, 0)
def XListPost (D : Nat → Prop) (s0 : Nat) (s : St) (r : List Att × Int) (w : World) (e : Ending) (w' : World) : Prop :=
  ∃ D' v b, e = .returned (.tuple #[v, .int .i64 r.2]) ∧ OwnA w' b v r.1 ∧ (∀ k, D' k → k < b) ∧ w.heap.size ≤ b ∧ StIs w' D' s0 s ∧ (∀ k, D' k → D k ∨ w.heap.size ≤ k) ∧ Mod w w' D
theorem OwnA.mod {w w1 : World} {b : Nat} {S : Nat → Prop} {v : Value} {l : List Att} (h : OwnA w b v l) (hm : Mod w w1 S) (hn : ∀ k, b ≤ k → k < w.heap.size → ¬ S k) : OwnA w1 b v l := by
  obtain ⟨vs, h1, h2, h3⟩ := h
  exact ⟨vs, h1, own_mod h2 hm (fun g hg => hn g (own_base h2 g hg) (own_lt h2 g hg)), fun j hj => ⟨own_mod (h3 j hj).1 hm (fun g hg => hn g (own_base (h3 j hj).1 g hg) (own_lt (h3 j hj).1 g hg)), (h3 j hj).2⟩⟩
theorem xunpI_zero {l : List Int} {s : Int} : (xunpI l s).2 = 0 ∨ xunpI l s = ([], 117) := by
  unfold xunpI
  split
  · exact .inr rfl
  · split
    · exact .inr rfl
    · split
      · exact .inl rfl
      · exact .inr rfl
theorem xreadI_len : ∀ (g : Nat) (r : List Int) (out o : List Att), xreadI g r out = some o → o.length = out.length + g
  | 0, _, out, o, h => by simp only [xreadI, Option.some.injEq] at h; rw [h]; rfl
  | g + 1, r, out, o, h => by
    rw [xreadI] at h
    split at h
    · cases h
    · rw [xreadI_len g _ _ o h, List.length_append]
      simp
      omega
theorem xunpI_len {l : List Int} (s : Int) (h : allB l) : (xunpI l s).1.length ≤ 255 := by
  unfold xunpI
  split
  · simp
  · split
    · simp
    · rename_i out hr
      have h1 := xreadI_len _ _ _ _ hr
      have h2 := allB_get h 1
      rw [List.length_nil, Nat.zero_add] at h1
      split
      · dsimp only
        omega
      · simp
theorem inoI_zero {r : Ino} {n : Nat} (h : inoI r n = 0) : 0 ≤ r.xattr ∧ r.xattr ≤ 65535 ∧ n = 48 := by
  unfold inoI at h
  split at h
  · rename_i hh
    have h13 := List.all_eq_true.1 hh.1 13 (by simp)
    have e1 : (mostL r.kind).getD 13 0 = 65535 := rfl
    have e2 : r.nums.getD 13 0 = r.xattr := rfl
    unfold numOk at h13
    rw [e1, e2] at h13
    simp at h13
    exact ⟨h13.1, h13.2, hh.2.2.1⟩
  · cases h
set_option maxHeartbeats 4000000 in
set_option maxRecDepth 100000 in
theorem xlist_calls {D : Nat → Prop} {s0 : Nat} {s : St} (r : Ino) (A : Option Addr) (n c : Nat) (w : World) (h : StIs w D s0 s) :
    Calls Tryz.prog 26 #[.pointer (some ⟨s0, 0, none⟩), .agg (r.cells (.slice A n c)).toArray] w (XListPost D s0 s (xlistI s.now r n) w) := by
  have HCK := Aside0.mk (fun W : World => icheck_calls r.kind r.perm r.uid r.gid r.links r.size r.blocks r.atime r.mtime r.ctime r.next r.parent r.xattr r.indexed A n c W)
  obtain ⟨res, hres⟩ : ∃ res, xlistI s.now r n = res := ⟨_, rfl⟩
  have hr0 : inoI r n ≠ 0 → res = ([], 22) := fun h => by rw [← hres]; unfold xlistI; rw [if_pos h]
  have hr1 : inoI r n = 0 → r.xattr = 0 → res = ([], 0) := fun h h2 => by rw [← hres]; unfold xlistI; rw [if_neg (fun h' => h' h), if_pos h2]
  have hr2 : inoI r n = 0 → r.xattr ≠ 0 → res = if (xunpI (s.now.getD r.xattr.toNat []) r.xattr).2 ≠ 0 ∨ (xunpI (s.now.getD r.xattr.toNat []) r.xattr).1 = [] then ([], 117) else ((xunpI (s.now.getD r.xattr.toNat []) r.xattr).1, 0) := fun h h2 => by rw [← hres]; unfold xlistI; rw [if_neg (fun h' => h' h), if_neg h2]
  have hz := inoI_zero (r := r) (n := n)
  rw [hres]
  clear hres
  have HH := Aside0.mk h
  have HR := Aside0.mk (And.intro hr0 (And.intro hr1 hr2))
  have hsub := h.sub
  have HSUB := Aside0.mk hsub
  have hlen := h.len
  have HBLK := Aside0.mk (fun k hk => h.blk k hk)
  clear h hr0 hr1 hr2 hsub
  obtain ⟨kind, perm, uid, gid, links, size, blocks, atime, mtime, ctime, next, parent, xattr, indexed⟩ := r
  dsimp only at HCK hz HR
  obtain ⟨iv, hiv⟩ : ∃ iv, inoI ⟨kind, perm, uid, gid, links, size, blocks, atime, mtime, ctime, next, parent, xattr, indexed⟩ n = iv := ⟨_, rfl⟩
  rw [hiv] at HCK HR hz
  clear hiv
  unfold Ino.cells
  dsimp only
  go_enter Tryz.func26, Tryz.ntmps26
  go_upto_region 1 with fail
  have hs0 : Strc (w.alloc (.cells #[.int .i64 kind, .int .i64 perm, .int .i64 uid, .int .i64 gid, .int .i64 links, .int .i64 size, .int .i64 blocks, .int .i64 atime, .int .i64 mtime, .int .i64 ctime, .int .i64 next, .int .i64 parent, .int .i64 xattr, .bool indexed, .slice A n c] 47)) w.heap.size 47 [.int .i64 kind, .int .i64 perm, .int .i64 uid, .int .i64 gid, .int .i64 links, .int .i64 size, .int .i64 blocks, .int .i64 atime, .int .i64 mtime, .int .i64 ctime, .int .i64 next, .int .i64 parent, .int .i64 xattr, .bool indexed, .slice A n c] := alloc_last w _
  have hb0 := below_alloc (Below.refl w.heap.size w) (.cells #[.int .i64 kind, .int .i64 perm, .int .i64 uid, .int .i64 gid, .int .i64 links, .int .i64 size, .int .i64 blocks, .int .i64 atime, .int .i64 mtime, .int .i64 ctime, .int .i64 next, .int .i64 parent, .int .i64 xattr, .bool indexed, .slice A n c] 47)
  generalize w.alloc (.cells #[.int .i64 kind, .int .i64 perm, .int .i64 uid, .int .i64 gid, .int .i64 links, .int .i64 size, .int .i64 blocks, .int .i64 atime, .int .i64 mtime, .int .i64 ctime, .int .i64 next, .int .i64 parent, .int .i64 xattr, .bool indexed, .slice A n c] 47) = w0 at hs0 hb0 ⊢
  obtain ⟨q, hq⟩ : ∃ q, w.heap.size = q := ⟨_, rfl⟩
  rw [hq] at hs0 ⊢
  have HQ := Aside0.mk hq
  clear hq
  have HB0 := Aside0.mk hb0
  have HS0 := Aside0.mk hs0
  have c0 := hs0.cell 0 _ rfl
  have c1 := hs0.cell 1 _ rfl
  have c2 := hs0.cell 2 _ rfl
  have c3 := hs0.cell 3 _ rfl
  have c4 := hs0.cell 4 _ rfl
  have c5 := hs0.cell 5 _ rfl
  have c6 := hs0.cell 6 _ rfl
  have c7 := hs0.cell 7 _ rfl
  have c8 := hs0.cell 8 _ rfl
  have c9 := hs0.cell 9 _ rfl
  have c10 := hs0.cell 10 _ rfl
  have c11 := hs0.cell 11 _ rfl
  have c12 := hs0.cell 12 _ rfl
  have c13 := hs0.cell 13 _ rfl
  have c14 := hs0.cell 14 _ rfl
  clear hs0 hb0
  go_wp2_with fail
  refine (HCK.out w0).mono ?_
  rintro e w1 ⟨rfl, hb1⟩
  have HB1 := Aside0.mk (below_then HB0.out HB0.out.size hb1)
  have hs1 := HS0.out.below hb1
  have HS1 := Aside0.mk hs1
  have c12' := hs1.cell 12 _ rfl
  clear c0 c1 c2 c3 c4 c5 c6 c7 c8 c9 c10 c11 c12 c13 c14 hs1 hb1 HS0 HB0 HCK
  dsimp only
  by_cases hiv : iv = 0
  · subst hiv
    obtain ⟨hx0, hx1, hn48⟩ := hz rfl
    by_cases hxa : xattr = 0
    · have hrr := HR.out.2.1 rfl hxa
      have HRR := Aside0.mk hrr
      subst hxa
      clear hrr HR
      go_wp2
      go_ret2
      rw [HRR.out]
      exact ⟨D, _, w1.heap.size, rfl, OwnA.nil _ _, fun k hk => by have := HSUB.out k hk; have := HB1.out.size; omega, HB1.out.size, HH.out.below HB1.out, fun _ => .inl, Mod.of_below HB1.out D⟩
    · have hrr := HR.out.2.2 rfl hxa
      obtain ⟨X, rfl⟩ : ∃ X : Nat, xattr = X := ⟨xattr.toNat, by omega⟩
      rw [Int.toNat_natCast] at hrr
      have hX0 : ¬ X = 0 := by omega
      have hX0i : ¬ (X : Int) = 0 := by omega
      have hXb : ((X : Int) == 0) = false := by rw [beq_eq_false_iff_ne]; omega
      have hX1 : X < 65536 := by omega
      have huz := xunpI_zero (l := s.now.getD X []) (s := X)
      obtain ⟨bl, hbl⟩ : ∃ bl, s.now.getD X [] = bl := ⟨_, rfl⟩
      rw [hbl] at hrr huz
      have HRR := Aside0.mk hrr
      have HUZ := Aside0.mk huz
      have HBL := Aside0.mk hbl
      clear hrr huz hbl HR hx0 hx1 hxa
      by_cases hXn : X < s.now.length
      · have hblk := HBLK.out X hXn
        rw [HBL.out] at hblk
        have HBK := Aside0.mk hblk
        have hrd := sread_calls X w1 (HH.out.below HB1.out) hXn
        rw [HBL.out] at hrd
        have HRD := Aside0.mk hrd
        clear hblk hrd
        go_wp2_with fail
        refine HRD.out.mono ?_
        rintro e w2 ⟨D2, g2, cc2, rfl, h2, hD2, hm2, hg2, hgD2, hc2, hrow2⟩
        have hup := xunpack_calls (some ⟨g2, 0, none⟩) cc2 (X : Int) bl w2 (hrow2.reads (by rw [HBK.out.1]; omega)) (by rw [HBK.out.1]; exact hc2) (by omega) (by omega) HBK.out.2
        rw [HBK.out.1] at hup
        have HX2 := Aside0.mk (And.intro h2 (And.intro hD2 hm2))
        have hq1 : q < w1.heap.size := HS1.out.lt
        have hqD : ¬ D q := fun hd => by have := HSUB.out q hd; have := HQ.out; omega
        have c12 := (HS1.out.mod hm2 hqD).cell 12 _ rfl
        obtain ⟨⟨ul, ue⟩, hu⟩ : ∃ u, xunpI bl X = u := ⟨_, rfl⟩
        have HU0 := Aside0.mk hu
        rw [hu] at hup HRR HUZ
        have HUP := Aside0.mk hup
        clear c12' h2 hD2 hm2 hrow2 hup hu hgD2
        dsimp only
        go_wp2_with fail
        refine HUP.out.mono ?_
        rintro e w3 ⟨v3, rfl, ho3, hb3⟩
        have HO3 := Aside0.mk ho3
        have HB3 := Aside0.mk hb3
        have hD3 : ∀ k, D2 k → D k ∨ w.heap.size ≤ k := fun k hk => (HX2.out.2.1 k hk).imp id (fun h => Nat.le_trans HB1.out.size h)
        have hm3 : Mod w w3 D := ((Mod.of_below HB1.out D).trans HX2.out.2.2 (fun _ _ e => e)).below hb3
        have hws : w.heap.size ≤ w2.heap.size := Nat.le_trans HB1.out.size HX2.out.2.2.size
        have HF := Aside0.mk (And.intro hD3 (And.intro hm3 hws))
        dsimp only at ho3 ⊢
        have hlen3 : ul.length ≤ 1125899906842624 := by
          have h1 := xunpI_len (X : Int) HBK.out.2
          rw [HU0.out] at h1
          dsimp only at h1
          omega
        obtain ⟨A3, c3, rfl, hc3, _⟩ := ho3.reads hlen3
        clear c12 hb3 hD3 hm3 hws ho3
        by_cases hue : ue = 0
        · subst hue
          by_cases hul : ul.length = 0
          · have hrr := HRR.out
            have hul' : ul = [] := List.eq_nil_of_length_eq_zero hul
            rw [if_pos (.inr hul')] at hrr
            have HR4 := Aside0.mk hrr
            clear hrr HRR
            go_wp2
            go_ret2
            rw [HR4.out]
            exact ⟨D2, _, w2.heap.size, rfl, OwnA.nil _ _, fun k hk => HX2.out.1.sub k hk, HF.out.2.2, HX2.out.1.below HB3.out, HF.out.1, HF.out.2.1⟩
          · have hrr := HRR.out
            rw [if_neg (by rintro (h | h); exact h rfl; exact hul (by rw [h]; rfl))] at hrr
            have HR4 := Aside0.mk hrr
            have hulb : (ul.length == 0) = false := by simpa using hul
            have huli : ((ul.length : Int) == 0) = false := by rw [beq_eq_false_iff_ne]; omega
            clear hrr HRR
            go_wp2
            go_ret2
            rw [HR4.out]
            exact ⟨D2, _, w2.heap.size, rfl, HO3.out, fun k hk => HX2.out.1.sub k hk, HF.out.2.2, HX2.out.1.below HB3.out, HF.out.1, HF.out.2.1⟩
        · have hrr := HRR.out
          rw [if_pos (.inl hue)] at hrr
          have HR4 := Aside0.mk hrr
          have hub : (ue != 0) = true := by simpa using hue
          clear hrr HRR
          go_wp2
          go_ret2
          rw [HR4.out]
          exact ⟨D2, _, w2.heap.size, rfl, OwnA.nil _ _, fun k hk => HX2.out.1.sub k hk, HF.out.2.2, HX2.out.1.below HB3.out, HF.out.1, HF.out.2.1⟩
      · have hbn : bl = [] := by
          rw [← HBL.out, List.getD_eq_getElem?_getD, List.getElem?_eq_none (by omega)]
          rfl
        subst hbn
        have hrd := sreadbad_calls (s := s) X w1 (HH.out.below HB1.out) (by omega)
        have HRD := Aside0.mk hrd
        have hup := xunpack_calls none 0 (X : Int) [] w1 (C_int_nil _ _ _) (Nat.le_refl _) (by omega) (by omega) (fun x hx => by cases hx)
        have hu : xunpI [] (X : Int) = ([], 117) := rfl
        rw [hu] at hup HRR
        have HUP := Aside0.mk hup
        have hrr := HRR.out
        rw [if_pos (.inl (by decide))] at hrr
        have HR4 := Aside0.mk hrr
        clear hrd hup hu hrr HRR HUZ
        go_wp2_with fail
        refine HRD.out.mono ?_
        rintro e _w2 ⟨rfl, rfl⟩
        dsimp only
        go_wp2_with fail
        refine HUP.out.mono ?_
        rintro e w3 ⟨v3, rfl, ho3, hb3⟩
        obtain ⟨A3, c3, rfl, hc3, _⟩ := ho3.reads (by simp)
        have HB3 := Aside0.mk (below_then HB1.out HB1.out.size hb3)
        clear ho3 hb3 c12'
        dsimp only
        go_wp2
        go_ret2
        rw [HR4.out]
        exact ⟨D, _, w3.heap.size, rfl, OwnA.nil _ _, fun k hk => by have := HSUB.out k hk; have := HB3.out.size; omega, HB3.out.size, HH.out.below HB3.out, fun _ => .inl, Mod.of_below HB3.out D⟩
  · have hivb : (iv != 0) = true := by simpa using hiv
    have HRR := Aside0.mk (HR.out.1 hiv)
    clear HR
    go_wp2
    go_ret2
    rw [HRR.out]
    exact ⟨D, _, w1.heap.size, rfl, OwnA.nil _ _, fun k hk => by have := HSUB.out k hk; have := HB1.out.size; omega, HB1.out.size, HH.out.below HB1.out, fun _ => .inl, Mod.of_below HB1.out D⟩
def cmpN (a b : ByteArray) : Int := Lib.compareBytes a.data.toList b.data.toList
def bsGo (l : List Att) (nm : ByteArray) : Nat → Nat → Nat → Nat
  | 0, i, _ => i
  | g + 1, i, j => if i < j then (if cmpN (attAt l ((i + j) / 2)).name nm < 0 then bsGo l nm g ((i + j) / 2 + 1) j else bsGo l nm g i ((i + j) / 2)) else i
def seekI (l : List Att) (nm : ByteArray) : Nat × Bool := (bsGo l nm l.length 0 l.length, decide (bsGo l nm l.length 0 l.length < l.length) && (cmpN (attAt l (bsGo l nm l.length 0 l.length)).name nm == 0))
theorem bsGo_le (l : List Att) (nm : ByteArray) : ∀ (g i j : Nat), i ≤ j → i ≤ bsGo l nm g i j ∧ bsGo l nm g i j ≤ j
  | 0, i, j, h => ⟨Nat.le_refl _, h⟩
  | g + 1, i, j, h => by
    rw [bsGo]
    split
    · split
      · have := bsGo_le l nm g ((i + j) / 2 + 1) j (by omega)
        omega
      · have := bsGo_le l nm g i ((i + j) / 2) (by omega)
        omega
    · omega
set_option maxHeartbeats 1000000 in
set_option maxRecDepth 100000 in
theorem seek1_calls (a nm : ByteArray) (A : Option Addr) (n c : Nat) (w : World) : Calls Tryz.prog 119 #[.agg #[.string a, .slice A n c], .string nm] w fun e w' => e = .returned (.int .i64 (cmpN a nm)) ∧ Below w.heap.size w w' := by
  have HC := Aside0.mk (fun W : World => scmp_calls a nm W)
  go_enter Tryz.func119, Tryz.ntmps119
  go_wp2_with fail
  refine (HC.out _).mono ?_
  rintro e w1 ⟨rfl, rfl⟩
  dsimp only
  go_wp2
  go_ret
  exact ⟨rfl, below_alloc (Below.refl _ _) _⟩
set_option maxHeartbeats 4000000 in
set_option maxRecDepth 100000 in
theorem bsearch_calls (A : Option Addr) (c : Nat) (l : List Att) (nm : ByteArray) (w : World) (hl : Atts w A l) (hn : l.length ≤ 100000) :
    Calls Tryz.prog 118 #[.slice A l.length c, .string nm, .func (.func 119) #[] #[]] w fun e w' => e = .returned (.tuple #[.int .i64 (seekI l nm).1, .bool (seekI l nm).2]) ∧ Below w.heap.size w w' := by
  have HL := Aside0.mk hl
  clear hl
  obtain ⟨n, hnn⟩ : ∃ n, l.length = n := ⟨_, rfl⟩
  have HN := Aside0.mk hnn
  unfold seekI
  rw [hnn] at hn ⊢
  have hrg := bsGo_le l nm n 0 n (by omega)
  obtain ⟨r, hr⟩ : ∃ r, bsGo l nm n 0 n = r := ⟨_, rfl⟩
  rw [hr] at hrg ⊢
  have HR := Aside0.mk hr
  clear hr hnn
  go_enter Tryz.func118, Tryz.ntmps118
  go_wp2
  go_loopg [9, 10] n (fun g v9 v10 wr => ∃ i j : Nat, v9 = .int .i64 i ∧ v10 = .int .i64 j ∧ i ≤ j ∧ j ≤ n ∧ j - i ≤ g ∧ Aside0 (bsGo l nm g i j = r) ∧ Aside0 (Below w.heap.size w wr))
  case atStart => exact ⟨0, n, rfl, rfl, by omega, Nat.le_refl _, by omega, HR, ⟨Below.refl _ _⟩⟩
  case round =>
    obtain ⟨i, j, rfl, rfl, hij, hjn, hg, HB, HW⟩ := hrel
    by_cases hlt : i < j
    · obtain ⟨g, rfl⟩ : ∃ g, gk = g + 1 := ⟨gk - 1, by omega⟩
      obtain ⟨h, hh⟩ : ∃ h, (i + j) / 2 = h := ⟨_, rfl⟩
      have hbs : bsGo l nm (g + 1) i j = if i < j then (if cmpN (attAt l ((i + j) / 2)).name nm < 0 then bsGo l nm g ((i + j) / 2 + 1) j else bsGo l nm g i ((i + j) / 2)) else i := rfl
      rw [if_pos hlt, hh, HB.out] at hbs
      obtain ⟨ad, Av, cv, rfl, h1, h2, _⟩ := (HL.out.below HW.out).cells h (by rw [HN.out]; omega)
      obtain ⟨x, hx⟩ : ∃ x, attAt l h = x := ⟨_, rfl⟩
      rw [hx] at h1 h2 hbs
      obtain ⟨an, av⟩ := x
      dsimp only at h1 h2 hbs
      have HSK := Aside0.mk (seek1_calls an nm Av av.length cv wr)
      obtain ⟨q, hq⟩ : ∃ q, cmpN an nm = q := ⟨_, rfl⟩
      rw [hq] at HSK hbs
      have HBS := Aside0.mk hbs
      have hlti : (i : Int) < (j : Int) := by omega
      have ht : (i : Int) + (j : Int) = ((i + j : Nat) : Int) := by omega
      obtain ⟨t, hte⟩ : ∃ t, i + j = t := ⟨_, rfl⟩
      rw [hte] at ht hh
      have hh2 : h < n := by omega
      have hh2i : (h : Int) < (n : Int) := by omega
      have hhi : (t : Int) / 2 = (h : Int) := by omega
      have ht2 : t ≤ 200000 := by omega
      clear hbs hq hx hte
      go_wp2_with fail
      refine HSK.out.mono ?_
      rintro e w2 ⟨rfl, hb2⟩
      have HB2 := Aside0.mk (below_then HW.out HW.out.size hb2)
      clear h1 h2 hb2
      dsimp only
      by_cases hq0 : q < 0
      · have hbs := HBS.out
        rw [if_pos hq0] at hbs
        have HB3 := Aside0.mk hbs.symm
        clear hbs
        go_wp2
        go_roundg g
        case measure => omega
        case rel => exact ⟨h + 1, j, by go_num, rfl, by omega, hjn, by omega, HB3, HB2⟩
      · have hbs := HBS.out
        rw [if_neg hq0] at hbs
        have HB3 := Aside0.mk hbs.symm
        clear hbs
        go_wp2
        go_roundg g
        case measure => omega
        case rel => exact ⟨i, h, rfl, rfl, by omega, by omega, by omega, HB3, HB2⟩
    · have hri : r = i := by
        have hb := HB.out
        cases gk with
        | zero => exact hb.symm
        | succ g =>
          rw [bsGo, if_neg hlt] at hb
          exact hb.symm
      subst hri
      have hlti : ¬ (r : Int) < (j : Int) := by omega
      by_cases hrn : r < n
      · obtain ⟨ad, Av, cv, rfl, h1, h2, _⟩ := (HL.out.below HW.out).cells r (by rw [HN.out]; exact hrn)
        obtain ⟨x, hx⟩ : ∃ x, attAt l r = x := ⟨_, rfl⟩
        rw [hx] at h1 h2
        obtain ⟨an, av⟩ := x
        dsimp only at h1 h2
        have HSK := Aside0.mk (seek1_calls an nm Av av.length cv wr)
        obtain ⟨q, hq⟩ : ∃ q, cmpN an nm = q := ⟨_, rfl⟩
        rw [hq] at HSK
        have HQ := Aside0.mk (And.intro hx hq)
        have hrni : (r : Int) < (n : Int) := by omega
        clear hx hq
        go_wp2_with fail
        refine HSK.out.mono ?_
        rintro e w2 ⟨rfl, hb2⟩
        have HB2 := Aside0.mk (below_then HW.out HW.out.size hb2)
        clear h1 h2 hb2
        dsimp only
        go_wp2
        go_ret2
        exact ⟨by rw [HQ.out.1]; simp [hrn, HQ.out.2], HB2.out⟩
      · have hrni : ¬ (r : Int) < (n : Int) := by omega
        go_wp2
        go_ret2
        exact ⟨by simp [hrn], HW.out⟩
set_option maxHeartbeats 1000000 in
set_option maxRecDepth 100000 in
theorem seek_calls (A : Option Addr) (c : Nat) (l : List Att) (nm : ByteArray) (w : World) (hl : Atts w A l) (hn : l.length ≤ 100000) :
    Calls Tryz.prog 51 #[.slice A l.length c, .string nm] w fun e w' => e = .returned (.tuple #[.int .i64 (seekI l nm).1, .bool (seekI l nm).2]) ∧ Below w.heap.size w w' := by
  have HB := Aside0.mk (bsearch_calls A c l nm w hl hn)
  obtain ⟨⟨i, b⟩, hs⟩ : ∃ s, seekI l nm = s := ⟨_, rfl⟩
  rw [hs] at HB ⊢
  obtain ⟨n, hnn⟩ : ∃ n, l.length = n := ⟨_, rfl⟩
  rw [hnn] at HB ⊢
  clear hl hn hs hnn
  go_enter Tryz.func51, Tryz.ntmps51
  go_wp2_with fail
  refine HB.out.mono ?_
  rintro e w1 ⟨rfl, hb1⟩
  have HB1 := Aside0.mk hb1
  clear hb1
  dsimp only
  go_wp2
  go_ret2
  exact ⟨rfl, HB1.out⟩
def putC (L : List Value) (k : Nat) (cs : List Value) : List Value := L.take k ++ cs ++ L.drop (k + cs.length)
theorem putC_length {L cs : List Value} {k : Nat} (h : k + cs.length ≤ L.length) : (putC L k cs).length = L.length := by
  unfold putC
  simp only [List.length_append, List.length_take, List.length_drop]
  omega
theorem putC_get {L cs : List Value} {k : Nat} (h : k + cs.length ≤ L.length) (j : Nat) : (putC L k cs)[j]? = if j < k then L[j]? else if j < k + cs.length then cs[j - k]? else L[j]? := by
  unfold putC
  have hk : (L.take k).length = k := by rw [List.length_take]; omega
  by_cases h1 : j < k
  · rw [if_pos h1, List.append_assoc, List.getElem?_append_left (by omega), List.getElem?_take, if_pos h1]
  · rw [if_neg h1]
    by_cases h2 : j < k + cs.length
    · rw [if_pos h2, List.append_assoc, List.getElem?_append_right (by omega), List.getElem?_append_left (by omega), hk]
    · rw [if_neg h2, List.getElem?_append_right (by rw [List.length_append]; omega), List.getElem?_drop, List.length_append, hk]
      congr 1
      omega
theorem setCells_obj (b : Nat) (t : TypeId) : ∀ (vs : List Value) (k : Nat) (L : List Value) (w : World), w.heap[b]? = some (.cells L.toArray t (0, 0)) → k + vs.length ≤ L.length → (w.setCells b k vs).heap[b]? = some (.cells (putC L k vs).toArray t (0, 0))
  | [], k, L, w, h, _ => by rw [World.setCells]; simpa [putC] using h
  | v :: r, k, L, w, h, hl => by
    rw [World.setCells]
    have hl' : k + 1 + r.length ≤ (L.set k v).length := by simp only [List.length_cons] at hl; rw [List.length_set]; omega
    have h1 : (w.setCell ⟨b, k, none⟩ v).heap[b]? = some (.cells (L.set k v).toArray t (0, 0)) := by
      unfold World.setCell
      simp only [Array.getElem?_modify, if_true, h, Option.map_some]
      simp
    rw [setCells_obj b t r (k + 1) (L.set k v) _ h1 hl']
    congr 3
    apply List.ext_getElem?
    intro j
    rw [putC_get hl', putC_get hl]
    simp only [List.length_cons] at hl ⊢
    by_cases a1 : j < k
    · rw [if_pos a1, if_pos (by omega), List.getElem?_set_ne (by omega)]
    · rw [if_neg a1]
      by_cases a2 : j = k
      · subst a2
        rw [if_pos (by omega), if_pos (by omega), List.getElem?_set_self (by omega), Nat.sub_self]
        rfl
      · rw [if_neg (by omega)]
        by_cases a3 : j < k + 1 + r.length
        · rw [if_pos a3, if_pos (by omega), show j - k = (j - (k + 1)) + 1 by omega, List.getElem?_cons_succ]
        · rw [if_neg a3, if_neg (by omega), List.getElem?_set_ne (by omega)]
theorem setCells_mod (b : Nat) : ∀ (vs : List Value) (k : Nat) (w w1 : World), Mod w w1 (· = b) → Mod w (w1.setCells b k vs) (· = b)
  | [], _, _, _, h => h
  | v :: r, k, w, w1, h => setCells_mod b r (k + 1) w _ (h.set_own k v)
theorem setCells_size (b : Nat) : ∀ (vs : List Value) (k : Nat) (w : World), (w.setCells b k vs).heap.size = w.heap.size
  | [], _, _ => rfl
  | v :: r, k, w => by rw [World.setCells, setCells_size b r]; simp [World.setCell]
theorem cell_of_obj {w : World} {b : Nat} {t : TypeId} {L : List Value} (h : w.heap[b]? = some (.cells L.toArray t (0, 0))) (j : Nat) : w.cell? ⟨b, j, none⟩ = L[j]? := by
  simp [World.cell?, h]
theorem free_of_obj {w : World} {b : Nat} {t : TypeId} {L : List Value} (h : w.heap[b]? = some (.cells L.toArray t (0, 0))) (j : Nat) : w.frozen? ⟨b, j, none⟩ = false := by
  simp [World.frozen?, h]
section
variable {P : Program} {w : World} {o : Oper} {a : Act} {K : Act → World → Prop} {Q : Exit → Act → World → Prop}
theorem run_copyE (t e ty : TypeId) (sz : Nat) (ht : P.underlying t = some (.slice e)) (hsz : (P.info? e).map (·.size) = some sz)
    (b k dLen dCap : Nat) (ad : Addr) (sLen sCap : Nat) (L cs : List Value) (te : TypeId)
    (hL : w.heap[b]? = some (.cells L.toArray te (0, 0))) (m : Nat) (hm : Nat.min sLen dLen = m) (hn : cs.length = m * sz) (hsrc : ∀ j u, cs[j]? = some u → w.cell? (ad.add j) = some u) (hfit : k + cs.length ≤ L.length) (h1 : ∀ u ∈ cs, u.oneCell' = true) :
    ∃ w1, (Builtin.copy_ #[t, t] ty #[.slice (some ⟨b, k, none⟩) dLen dCap, .slice (some ad) sLen sCap]).run P w = .ok (goInt m) w1 ∧ w1.heap[b]? = some (.cells (putC L k cs).toArray te (0, 0)) ∧ Mod w w1 (· = b) ∧ w1.heap.size = w.heap.size := by
  have hcl : ∀ j, j < cs.length → (w.cell? ⟨b, k + 0 + j, none⟩).isSome = true := fun j hj => by rw [cell_of_obj hL, List.getElem?_eq_getElem (by omega)]; rfl
  have hst := run_storeCells_cells (P := P) b k cs 0 w hcl (fun j hj => free_of_obj hL _) h1
  have hld := run_firstCells_some (P := P) (w := w) sz (Nat.min sLen dLen) ad sLen sCap cs (by rw [hm]; exact hn) hsrc
  cases hq : P.info? e with
  | none => simp [hq] at hsz
  | some i =>
    have hi : i.size = sz := by simpa [hq] using hsz
    have hr : (Builtin.copy_ #[t, t] ty #[.slice (some ⟨b, k, none⟩) dLen dCap, .slice (some ad) sLen sCap]).run P w = .ok (goInt (Nat.min sLen dLen)) (w.setCells b k cs) := by
      simp [Builtin.copy_, run_underlying ht, Builtin.lenOf, sizeOf, typeInfo, hq, hi, hld, hst]
    exact ⟨_, by rw [hr, hm], setCells_obj b te cs k L w hL hfit, setCells_mod b cs k w w (Mod.refl _ _), setCells_size b cs k w⟩
theorem wp_append_zerosE (s x : Operand) (t tn e : TypeId) (ho : o.op = .call { callee := .builtin .append, args := #[s, x], argTypes := #[t, tn] }) (i : TypeInfo) (z : Value) (kn : IntKind) (ht : P.underlying t = some (.slice e)) (htn : P.underlying tn = some (.int kn)) (hi : P.info? e = some i) (hz : i.zero = some z) (sz bt : Nat) (hs1 : i.size = sz) (hs2 : i.bytes = bt) (hs3 : z.cells.size = sz) (hs0 : 0 < sz)
    (g n c k : Nat) (xs : List Value) (hs : a.eval s = .slice (some ⟨g, 0, none⟩) n c) (hx : a.eval x = .int .i64 k) (hxs : xs.length = n * sz) (hc : ∀ j u, xs[j]? = some u → w.cell? ⟨g, j, none⟩ = some u) (h0 : 0 < k) (hg : c < n + k) (hbig : (n + k) * bt ≤ 140737488355328) (hbt : 0 < bt) (hnk : n + k ≤ 1000000)
    (h : ∀ w1 G zs, w1.heap[w.heap.size]? = some (.cells (xs ++ zs).toArray e (0, 0)) → (xs ++ zs).length = G * sz → n + k ≤ G → G ≤ maxLen → Below w.heap.size w w1 → w1.heap.size = w.heap.size + 1 → K (a.put o.dst (.slice (some ⟨w.heap.size, 0, none⟩) (n + k) G)) w1) : o.wp P a w K Q := by
  have hold : (Builtin.firstCells i.size n (.slice (some ⟨g, 0, none⟩) n c)).run P w.drew = .ok xs.toArray w.drew := by
    rw [hs1]
    exact run_firstCells_some (w := w.drew) sz n ⟨g, 0, none⟩ n c xs hxs (fun j u hj => by
      rw [show (⟨g, 0, none⟩ : Addr).add j = ⟨g, j, none⟩ by unfold Addr.add; split <;> simp_all]
      exact hc j u hj)
  have hkb : k * bt ≤ (n + k) * bt := Nat.mul_le_mul_right _ (by omega)
  have hrun := Lib.run_append_grow_zeros w t tn o.type e i z .i64 kn ht htn hi hz (some ⟨g, 0, none⟩) n c xs hold k h0 (by omega) hg (by omega) (by rw [hs2]; omega) (by rw [hs2]; exact growslice_fits hg hbig)
  unfold Oper.wp execOp
  simp only [ho, resolve, invoke, builtin, Sem.run_bind, Sem.run_pure, Result.andThen_ok, List.map_toArray, List.map_cons, List.map_nil, hs, hx, hrun]
  have hGn := grownCap_ge w (n + k) c e
  have hGm := grownCap_le_maxLen w (n + k) c e (by unfold maxLen; omega)
  generalize grownCap w (n + k) c e = G at hGn hGm ⊢
  have hzl : ∀ m, (Builtin.zeroCells z.cells m).size = m * sz := fun m => by rw [← hs3]; simp [Builtin.zeroCells]
  refine h _ G ((Builtin.zeroCells z.cells k).toList ++ (Builtin.zeroCells z.cells (G - (n + k))).toList) ?_ ?_ hGn hGm ?_ ?_
  · have : (xs ++ ((Builtin.zeroCells z.cells k).toList ++ (Builtin.zeroCells z.cells (G - (n + k))).toList)).toArray = xs.toArray ++ Builtin.zeroCells z.cells k ++ Builtin.zeroCells z.cells (G - (n + k)) := by
      apply Array.ext'
      simp
    rw [this]
    exact alloc_last w.drew _
  · simp only [List.length_append, Array.length_toList, hzl, hxs]
    rw [← Nat.add_mul, ← Nat.add_mul]
    congr 1
    omega
  · exact below_alloc (Below.refl _ _).drew _
  · show (w.heap.push _).size = _
    exact Array.size_push _
end
def insL {α : Type} (l : List α) (i : Nat) (x : α) : List α := l.take i ++ x :: l.drop i
theorem insL_length {α : Type} (l : List α) (i : Nat) (x : α) : (insL l i x).length = l.length + 1 := by
  unfold insL
  simp only [List.length_append, List.length_take, List.length_cons, List.length_drop]
  omega
theorem acells_append (l m : List Att) (vs us : List Value) (h : vs.length = l.length) : acells (l ++ m) (vs ++ us) = acells l vs ++ acells m us := by
  unfold acells
  rw [List.zip_append h.symm, List.flatMap_append]
theorem acells_take (l : List Att) (vs : List Value) (i : Nat) (h : vs.length = l.length) (hi : i ≤ l.length) : acells l vs = acells (l.take i) (vs.take i) ++ acells (l.drop i) (vs.drop i) ∧ (acells (l.take i) (vs.take i)).length = i * 2 ∧ (acells (l.drop i) (vs.drop i)).length = (l.length - i) * 2 := by
  refine ⟨?_, ?_, ?_⟩
  · rw [← acells_append _ _ _ _ (by rw [List.length_take, List.length_take, h]), List.take_append_drop, List.take_append_drop]
  · rw [acells_length _ _ (by rw [List.length_take, List.length_take, h]), List.length_take]
    congr 1
    omega
  · rw [acells_length _ _ (by rw [List.length_drop, List.length_drop, h]), List.length_drop]
theorem acells_ins (l : List Att) (vs : List Value) (i : Nat) (x : Att) (u : Value) (h : vs.length = l.length) : acells (insL l i x) (insL vs i u) = acells (l.take i) (vs.take i) ++ [.string x.name, u] ++ acells (l.drop i) (vs.drop i) := by
  unfold insL
  rw [acells_append _ _ _ _ (by rw [List.length_take, List.length_take, h])]
  simp [acells]
theorem put_shift (A D N R : List Value) (hN : N.length ≤ R.length) : (putC (putC (A ++ D ++ R) (A.length + N.length) D) A.length N).take (A.length + N.length + D.length) = A ++ N ++ D := by
  have h1 : A.length + N.length + D.length ≤ (A ++ D ++ R).length := by simp only [List.length_append]; omega
  have h2 : A.length + N.length ≤ (putC (A ++ D ++ R) (A.length + N.length) D).length := by rw [putC_length h1]; omega
  apply List.ext_getElem?
  intro j
  rw [List.getElem?_take]
  by_cases hj : j < A.length + N.length + D.length
  · rw [if_pos hj, putC_get h2]
    by_cases a1 : j < A.length
    · rw [if_pos a1, putC_get h1, if_pos (by omega), List.append_assoc, List.append_assoc, List.getElem?_append_left a1, List.getElem?_append_left a1]
    · rw [if_neg a1]
      by_cases a2 : j < A.length + N.length
      · rw [if_pos a2, List.append_assoc, List.getElem?_append_right (by omega), List.getElem?_append_left (by omega)]
      · rw [if_neg a2, putC_get h1, if_neg a2, if_pos hj, List.getElem?_append_right (by rw [List.length_append]; omega), List.length_append]
  · rw [if_neg hj, List.getElem?_eq_none (by simp only [List.length_append]; omega)]
theorem put_grow (A D N Z : List Value) (hZ : N.length + D.length ≤ Z.length) : (putC (putC (A ++ Z) A.length N) (A.length + N.length) D).take (A.length + N.length + D.length) = A ++ N ++ D := by
  have h2 : A.length + N.length ≤ (A ++ Z).length := by simp only [List.length_append]; omega
  have h1 : A.length + N.length + D.length ≤ (putC (A ++ Z) A.length N).length := by rw [putC_length h2]; simp only [List.length_append]; omega
  apply List.ext_getElem?
  intro j
  rw [List.getElem?_take]
  by_cases hj : j < A.length + N.length + D.length
  · rw [if_pos hj, putC_get h1]
    by_cases a1 : j < A.length + N.length
    · rw [if_pos a1, putC_get h2]
      by_cases a2 : j < A.length
      · rw [if_pos a2, List.append_assoc, List.getElem?_append_left a2, List.getElem?_append_left a2]
      · rw [if_neg a2, if_pos a1, List.append_assoc, List.getElem?_append_right (by omega), List.getElem?_append_left (by omega)]
    · rw [if_neg a1, if_pos hj, List.getElem?_append_right (by rw [List.length_append]; omega), List.length_append]
  · rw [if_neg hj, List.getElem?_eq_none (by simp only [List.length_append]; omega)]
def InsPost (b0 : Nat) (v : Value) (n : Nat) (cs : List Value) (w : World) (e : Ending) (w' : World) : Prop :=
  ∃ v', e = .returned v' ∧ w'.ownsRow b0 72 2 v' (n + 1) cs ∧ Mod w w' (fun k => v.ownBlock = some k)
set_option maxRecDepth 100000 in
theorem szAtt : ∀ w : World, (sizeOf 72).run Tryz.prog w = .ok 2 w := fun w => by
  obtain ⟨e0, he, hz0, hz1, hz2⟩ := info_parts infoAtt
  simp [sizeOf, typeInfo, he, hz1]
set_option maxRecDepth 100000 in
theorem cut_at (A : Option Addr) (n c j : Nat) (h : j ≤ n) (W : World) : (Instr.slice 29 (.slice A n c) (some (.int .i64 (j : Int))) none none).run Tryz.prog W = .ok (.slice (if c = j then A else A.map (·.add (j * 2))) (n - j) (c - j)) W := by
  obtain ⟨e0, he, hz0, hz1, hz2⟩ := info_parts infoAtt
  have := cut_from (P := Tryz.prog) 29 72 .i64 (i := e0) rfl he 2 hz1 A n c (j : Int) (by omega) (by omega) W
  simpa using this
set_option maxRecDepth 100000 in
theorem cut_up (A : Option Addr) (n c j : Nat) (h : j ≤ c) (W : World) : (Instr.slice 29 (.slice A n c) none (some (.int .i64 (j : Int))) none).run Tryz.prog W = .ok (.slice A j c) W := by
  have hel : Tryz.prog.elem 29 = 72 := by kernel_rfl
  have hu : Tryz.prog.underlying 29 = some (.slice (Tryz.prog.elem 29)) := by kernel_rfl
  have ha : (A.map fun x => x.add 0) = A := by cases A <;> simp [Addr.add]
  obtain ⟨e0, he, hz0, hz1, hz2⟩ := info_parts infoAtt
  rw [run_slice_h W 29 A n c hu .i64 (j : Int) (by omega) (by omega), hel]
  simp [sizeOf, typeInfo, he, hz1, sliced, Result.andThen, ha]
theorem two_one (x : Att) {u : Value} (hu : u.oneCell' = true) : ∀ q ∈ [Value.string x.name, u], q.oneCell' = true := by
  intro q hq
  simp only [List.mem_cons, List.not_mem_nil, or_false] at hq
  rcases hq with rfl | rfl
  · rfl
  · exact hu
theorem two_at {w : World} {vb : Nat} {t : TypeId} {x : Att} {u : Value} (h : w.heap[vb]? = some (.cells #[.string x.name, u] t)) (j : Nat) (q : Value) (hj : [Value.string x.name, u][j]? = some q) : w.cell? ((⟨vb, 0, none⟩ : Addr).add j) = some q := by
  rw [add_plain]
  simpa [World.cell?, h] using hj
set_option maxHeartbeats 4000000 in
set_option maxRecDepth 100000 in
theorem ins_end (b0 : Nat) (v : Value) (n : Nat) (cs : List Value) (x : Att) (u : Value) (vb : Nat) (w : World) (hrow : w.ownsRow b0 72 2 v n cs) (hn : n ≤ 1000) (hvb : w.heap[vb]? = some (.cells #[.string x.name, u] 72)) (hu : u.oneCell' = true) (hb0 : b0 ≤ w.heap.size) :
    Calls Tryz.prog 52 #[v, .int .i64 n, .slice (some ⟨vb, 0, none⟩) 1 1] w (InsPost b0 v n (cs ++ [.string x.name, u]) w) := by
  obtain ⟨A, c, rfl, hc, _⟩ := own_shape hrow
  have HROW := Aside0.mk hrow
  obtain ⟨V, hcut⟩ : ∃ V, ∀ W : World, (Instr.slice 29 (.slice A n c) (some (.int .i64 (n : Int))) none none).run Tryz.prog W = .ok V W := ⟨_, cut_at A n c n (Nat.le_refl _)⟩
  obtain ⟨e0, he, hz0, hz1, hz2⟩ := info_parts infoAtt
  clear hrow
  go_enter Tryz.func52, Tryz.ntmps52
  have hc1 := two_at hvb
  have hc2 := two_one x hu
  go_wp2_with (at_builtin; go_loud (refine wpList_append_own _ rfl (.tmp 23) (.tmp 24) 29 rfl b0 72 e0 (.agg #[.string ⟨#[]⟩, .slice none 0 0]) 2 40 Tryz.underlying29 he hz0 hz1 hz2 rfl (by decide) _ n cs rfl HROW.out ⟨vb, 0, none⟩ 1 1 [.string x.name, u] rfl rfl hc1 hc2 (by simp only [maxLen]; omega) (by omega) hb0 ?_; intro v' w' h2 h3 _; have H2 := Aside0.mk (And.intro h2 h3); clear h2 h3))
  go_ret
  exact ⟨v', rfl, H2.out.1, (mod_grown H2.out.2)⟩
theorem insgrow_row {w3 : World} {t : TypeId} {b0 N n i i1 k G : Nat} {A D zs N2 : List Value} (hb0 : b0 ≤ N) (hA : A.length = i * 2) (hD : D.length = (n - i) * 2) (hi : i < n) (hi1 : i + 1 = i1) (hik : i + k = n + 1) (hkG : i + k ≤ G) (hGm : G ≤ maxLen) (hl : (A ++ zs).length = G * 2) (h2 : N2.length = 2)
    (hobj : w3.heap[N]? = some (.cells (putC (putC (A ++ zs) (i * 2) N2) (i1 * 2) D).toArray t (0, 0))) : w3.ownsRow b0 t 2 (.slice (some ⟨N, 0, none⟩) (n + 1) G) (n + 1) (A ++ N2 ++ D) := by
  have hl' := hl
  rw [List.length_append, hA] at hl'
  have hp1 : (putC (A ++ zs) (i * 2) N2).length = G * 2 := by rw [putC_length (by rw [hl, h2]; omega), hl]
  have hp2 : (putC (putC (A ++ zs) (i * 2) N2) (i1 * 2) D).length = G * 2 := by rw [putC_length (by rw [hp1, hD]; omega), hp1]
  refine ⟨?_, .inr ⟨N, G, _, rfl, hb0, hobj, by omega, hGm, by rw [List.size_toArray, hp2], ?_⟩⟩
  · rw [List.length_append, List.length_append, hA, hD, h2]
    omega
  · have := put_grow A D N2 zs (by rw [hD, h2]; omega)
    rw [hA, hD, h2] at this
    rw [show i1 * 2 = i * 2 + 2 by omega, show (n + 1) * 2 = i * 2 + 2 + (n - i) * 2 by omega]
    exact this
theorem insshift_row {w3 : World} {t : TypeId} {b0 g n i i1 c : Nat} {A D R N2 : List Value} (hb0 : b0 ≤ g) (hA : A.length = i * 2) (hD : D.length = (n - i) * 2) (hi : i < n) (hi1 : i + 1 = i1) (hc : n + 1 ≤ c) (hcm : c ≤ maxLen) (hl : (A ++ D ++ R).length = c * 2) (h2 : N2.length = 2)
    (hobj : w3.heap[g]? = some (.cells (putC (putC (A ++ D ++ R) (i1 * 2) D) (i * 2) N2).toArray t (0, 0))) : w3.ownsRow b0 t 2 (.slice (some ⟨g, 0, none⟩) (n + 1) c) (n + 1) (A ++ N2 ++ D) := by
  have hl' := hl
  rw [List.length_append, List.length_append, hA, hD] at hl'
  have hp1 : (putC (A ++ D ++ R) (i1 * 2) D).length = c * 2 := by rw [putC_length (by rw [hl, hD]; omega), hl]
  have hp2 : (putC (putC (A ++ D ++ R) (i1 * 2) D) (i * 2) N2).length = c * 2 := by rw [putC_length (by rw [hp1, h2]; omega), hp1]
  refine ⟨?_, .inr ⟨g, c, _, rfl, hb0, hobj, hc, hcm, by rw [List.size_toArray, hp2], ?_⟩⟩
  · rw [List.length_append, List.length_append, hA, hD, h2]
    omega
  · have := put_shift A D N2 R (by rw [h2]; omega)
    rw [hA, hD, h2] at this
    rw [show i1 * 2 = i * 2 + 2 by omega, show (n + 1) * 2 = i * 2 + 2 + (n - i) * 2 by omega]
    exact this
set_option maxHeartbeats 4000000 in
set_option maxRecDepth 100000 in
theorem ins_grow (b0 g : Nat) (n i : Nat) (A D L : List Value) (x : Att) (u : Value) (vb : Nat) (w : World) (hb0 : b0 ≤ w.heap.size) (hA : A.length = i * 2) (hD : D.length = (n - i) * 2) (hi : i < n) (hL : w.heap[g]? = some (.cells (A ++ D ++ L).toArray 72 (0, 0)))
    (h1 : ∀ q ∈ D, q.oneCell' = true) (hn : n ≤ 1000) (hvb : w.heap[vb]? = some (.cells #[.string x.name, u] 72)) (hu : u.oneCell' = true) :
    Calls Tryz.prog 52 #[.slice (some ⟨g, 0, none⟩) n n, .int .i64 i, .slice (some ⟨vb, 0, none⟩) 1 1] w (InsPost b0 (.slice (some ⟨g, 0, none⟩) n n) n (A ++ [.string x.name, u] ++ D) w) := by
  obtain ⟨e0, he, hz0, hz1, hz2⟩ := info_parts infoAtt
  have HL := Aside0.mk hL
  have HV := Aside0.mk hvb
  have hgl := lt_of_obj hL
  have hvl := lt_of_obj hvb
  have hcut := cut_at (some ⟨g, 0, none⟩) n n i (by omega)
  rw [if_neg (by omega)] at hcut
  have hup := cut_up (some ⟨g, 0, none⟩) n n i (by omega)
  have hni : ¬ ((i : Int) = (n : Int)) := by omega
  have hnn : (n : Int) < (n : Int) + 1 := by omega
  have hk : (n : Int) + 1 - (i : Int) = ((n + 1 - i : Nat) : Int) := by omega
  have hkk : i + (n + 1 - i) = n + 1 := by omega
  obtain ⟨k, hk0⟩ : ∃ k, n + 1 - i = k := ⟨_, rfl⟩
  rw [hk0] at hk hkk
  have hk1 : 0 < k := by omega
  have HS := Aside0.mk (And.intro hb0 (And.intro hgl hvl))
  obtain ⟨i1, hi1e⟩ : ∃ i1, i + 1 = i1 := ⟨_, rfl⟩
  have HP := Aside0.mk (And.intro hA (And.intro hD (And.intro hi (And.intro hi1e hkk))))
  have hi1 : (i : Int) + 1 = (i1 : Int) := by omega
  have hi1n : i1 ≤ n := by omega
  have hi1w : (i1 : Int) ≤ (n : Int) + 1 := by omega
  clear hL hvb hgl hvl hb0
  go_enter Tryz.func52, Tryz.ntmps52
  have hc1 : ∀ j q, A[j]? = some q → w.cell? ⟨g, j, none⟩ = some q := by
    intro j q hj
    rw [cell_of_obj HL.out, List.append_assoc, List.getElem?_append_left (List.getElem?_eq_some_iff.1 hj).1]
    exact hj
  have hc2 := two_one x hu
  have hsz2 : (Tryz.prog.info? 72).map (·.size) = some 2 := by rw [he]; simp [hz1]
  have hmin : Nat.min 1 k = 1 := Nat.min_eq_left hk1
  go_upto_region 10 with (at_builtin; go_loud (refine wpList_plain rfl fun K hK => ?_; refine wp_append_zerosE (.tmp 34) (.tmp 39) 29 3 72 rfl e0 (.agg #[.string ⟨#[]⟩, .slice none 0 0]) .i64 Tryz.underlying29 Tryz.underlying3 he hz0 2 40 hz1 hz2 rfl (by decide) g i n k A rfl ?c2 hA hc1 hk1 (by omega) (by omega) (by decide) (by omega) ?_; (case c2 => (go_simp; done)); intro w1 G zs a1 a2 a3 a4 a5 a6; refine hK _ _ ?_; have HGM := Aside0.mk a4; have HG := Aside0.mk (And.intro a1 (And.intro a2 (And.intro a3 (And.intro a5 a6)))); clear a1 a2 a4 a5 a6 hK K))
  have hcut3 := cut_at (some ⟨w.heap.size, 0, none⟩) (n + 1) G i (by omega)
  rw [if_neg (by omega)] at hcut3
  have hcut4 := cut_at (some ⟨w.heap.size, 0, none⟩) (n + 1) G i1 (by omega)
  rw [if_neg (by omega)] at hcut4
  have hb1 := HG.out.2.2.2.1
  have hv1 : w1.heap[vb]? = some (.cells #[.string x.name, u] 72) := (hb1.block vb HS.out.2.2).trans HV.out
  have hg1 : w1.heap[g]? = some (.cells (A ++ D ++ L).toArray 72 (0, 0)) := (hb1.block g HS.out.2.1).trans HL.out
  have hnk : n + 1 - i = k := hk0
  obtain ⟨w2, hr2, a1, a2, a3⟩ := run_copyE (P := Tryz.prog) (w := w1) 29 72 3 2 Tryz.underlying29 hsz2 w.heap.size (i * 2) k (G - i) ⟨vb, 0, none⟩ 1 1 (A ++ zs) [.string x.name, u] 72 HG.out.1 1 hmin rfl (two_at hv1) (by rw [HG.out.2.1]; simp only [List.length_cons, List.length_nil]; omega) hc2
  have hg2 : w2.heap[g]? = some (.cells (A ++ D ++ L).toArray 72 (0, 0)) := a2.obj hg1 (Nat.ne_of_lt HS.out.2.1)
  have hpl : (putC (A ++ zs) (i * 2) [Value.string x.name, u]).length = G * 2 := by rw [putC_length (by rw [HG.out.2.1]; simp only [List.length_cons, List.length_nil]; omega), HG.out.2.1]
  have hD2 : ∀ (W : World), W.heap[g]? = some (.cells (A ++ D ++ L).toArray 72 (0, 0)) → ∀ j q, D[j]? = some q → W.cell? ((⟨g, i * 2, none⟩ : Addr).add j) = some q := fun W hW j q hj => by
    rw [show (⟨g, i * 2, none⟩ : Addr).add j = ⟨g, i * 2 + j, none⟩ by unfold Addr.add; split <;> simp_all, cell_of_obj hW, List.append_assoc, List.getElem?_append_right (by omega), hA, show i * 2 + j - i * 2 = j by omega, List.getElem?_append_left (List.getElem?_eq_some_iff.1 hj).1]
    exact hj
  obtain ⟨w3, hr3, d1, d2, d3⟩ := run_copyE (P := Tryz.prog) (w := w2.drew) 29 72 3 2 Tryz.underlying29 hsz2 w.heap.size (i1 * 2) (n + 1 - i1) (G - i1) ⟨g, i * 2, none⟩ (n - i) (n - i) (putC (A ++ zs) (i * 2) [Value.string x.name, u]) D 72 a1 (n - i) (by rw [show n + 1 - i1 = n - i by omega]; exact Nat.min_self _) hD (hD2 _ hg2) (by rw [hpl, hD]; omega) h1
  have HW := Aside0.mk (And.intro a2 (And.intro a3 (And.intro d1 (And.intro d2 d3))))
  clear a1 a2 a3 d1 d2 d3 hv1 hg1 hg2 hb1
  go_upto_region 11 with fail
  have hcut4' : ∀ W : World, (Instr.slice 29 (.slice (some ⟨w.heap.size, 0, none⟩) (n + 1) G) (some (.int .i64 ((i : Int) + 1))) none none).run Tryz.prog W = .ok (.slice (some ⟨w.heap.size, i1 * 2, none⟩) (n + 1 - i1) (G - i1)) W := fun W => by
    rw [hi1, hcut4]
    simp [add_plain]
  have hw1 : wrap64 ((i : Int) + 1) = (i : Int) + 1 := by unfold wrap64; omega
  clear hi1
  refine wp_region_in [0, 0, 0, 0, 0, 0, 0, 0, 2] [] (fun _ => True) (by kernel_rfl) rfl (by kernel_rfl) (fun _ _ _ _ h => h) trivial ?_
  iterate 8 (first
    | (refine in_off0 (by rfl) ?_; simp only [Act.put, stA, stZ, stS, i64_w, i32_w])
    | (refine in_off1 (by rfl) ?_; simp only [Act.put, stA, stZ, stS, i64_w, i32_w])
    | (refine in_0 (v := ?_) (by rfl) rfl ?_ (a' := ?_) ?_ ?_; rotate_left; (intro w'; go_simp; with_reducible rfl); rotate_left; (simp only [Act.put, stA, stZ, stS, i64_w, i32_w]; rfl))
    | (refine in_1 (v := ?_) (by rfl) rfl ?_ (a' := ?_) ?_ ?_; rotate_left; (rintro w' hs; go_split_ands; go_simp; with_reducible rfl); rotate_left; (simp only [Act.put, stA, stZ, stS, i64_w, i32_w]; rfl)))
  refine in_2 (by rfl) (fun K hK => ?_)
  unfold Oper.wp execOp
  go_simp
  refine hK _ _ trivial ?_
  clear hK K
  refine in_nil ?_
  go_wp2
  go_ret
  exact ⟨_, rfl, insgrow_row HS.out.1 HP.out.1 HP.out.2.1 HP.out.2.2.1 HP.out.2.2.2.1 HP.out.2.2.2.2 HG.out.2.2.1 HGM.out HG.out.2.1 rfl HW.out.2.2.1, Mod.trans (Mod.of_below HG.out.2.2.2.1 _) (Mod.trans HW.out.1 (Mod.trans ((Mod.refl _ _).drew) HW.out.2.2.2.1 (fun k _ h => h)) (fun k _ h => h)) (fun k hk h => absurd h (Nat.ne_of_lt hk))⟩
set_option maxHeartbeats 4000000 in
set_option maxRecDepth 100000 in
theorem ins_shift (b0 g : Nat) (n i c : Nat) (A D R : List Value) (x : Att) (u : Value) (vb : Nat) (w : World) (hb0 : b0 ≤ g) (hA : A.length = i * 2) (hD : D.length = (n - i) * 2) (hi : i < n) (hc : n + 1 ≤ c) (hcm : c ≤ maxLen) (hl : (A ++ D ++ R).length = c * 2) (hL : w.heap[g]? = some (.cells (A ++ D ++ R).toArray 72 (0, 0)))
    (h1 : ∀ q ∈ D, q.oneCell' = true) (hn : n ≤ 1000) (hvb : w.heap[vb]? = some (.cells #[.string x.name, u] 72)) (hne : vb ≠ g) (hu : u.oneCell' = true) :
    Calls Tryz.prog 52 #[.slice (some ⟨g, 0, none⟩) n c, .int .i64 i, .slice (some ⟨vb, 0, none⟩) 1 1] w (InsPost b0 (.slice (some ⟨g, 0, none⟩) n c) n (A ++ [.string x.name, u] ++ D) w) := by
  obtain ⟨e0, he, hz0, hz1, hz2⟩ := info_parts infoAtt
  have hsz2 : (Tryz.prog.info? 72).map (·.size) = some 2 := by rw [he]; simp [hz1]
  obtain ⟨i1, hi1e⟩ : ∃ i1, i + 1 = i1 := ⟨_, rfl⟩
  have HP := Aside0.mk (And.intro hA (And.intro hD (And.intro hi (And.intro hi1e (And.intro hc (And.intro hcm hl))))))
  simp only [maxLen] at hcm
  have hc2 := two_one x hu
  have hv0 := two_at hvb
  have hcut := cut_at (some ⟨g, 0, none⟩) n c i (by omega)
  rw [if_neg (by omega)] at hcut
  have hup := cut_up (some ⟨g, 0, none⟩) n c (n + 1) (by omega)
  have hcut3 := cut_at (some ⟨g, 0, none⟩) (n + 1) c i (by omega)
  rw [if_neg (by omega)] at hcut3
  have hcut4 : ∀ W : World, (Instr.slice 29 (.slice (some ⟨g, 0, none⟩) (n + 1) c) (some (.int .i64 ((i : Int) + 1))) none none).run Tryz.prog W = .ok (.slice (some ⟨g, i1 * 2, none⟩) (n + 1 - i1) (c - i1)) W := fun W => by
    have := cut_at (some ⟨g, 0, none⟩) (n + 1) c i1 (by omega) W
    rw [if_neg (by omega)] at this
    rw [show (i : Int) + 1 = (i1 : Int) by omega, this]
    simp [add_plain]
  have hup' : ∀ W : World, (Instr.slice 29 (.slice (some ⟨g, 0, none⟩) n c) none (some (.int .i64 ((n : Int) + 1))) none).run Tryz.prog W = .ok (.slice (some ⟨g, 0, none⟩) (n + 1) c) W := fun W => by
    rw [show (n : Int) + 1 = ((n + 1 : Nat) : Int) by omega, hup]
  have hov : ∀ lb cb, (callFunc 121 #[.slice (some ⟨vb, 0, none⟩) 1 1, .slice (some ⟨g, i1 * 2, none⟩) lb cb]).run Tryz.prog w = .ok (.value (.bool false)) w := fun lb cb => by
    rw [run_callFunc_extern Tryz.func121 (by kernel_rfl) (by kernel_rfl) (by kernel_rfl) (e := Extern.SlicesOverlaps.overlaps #[29, 29] #[4]) (by kernel_rfl),
      Lib.run_overlaps_apart w 29 4 72 Tryz.underlying29 2 szAtt ⟨vb, 0, none⟩ ⟨g, i1 * 2, none⟩ 1 1 lb cb hne 72 72 2 (c * 2) (by simp [World.shape?, hvb]) (by simp only [World.shape?, hL, ← hl]; simp) (by omega) (by simp [World.frozen?, hvb]) (by simp [World.frozen?, hvb])]
    rfl
  have hD2 : ∀ j q, D[j]? = some q → w.drew.cell? ((⟨g, i * 2, none⟩ : Addr).add j) = some q := fun j q hj => by
    rw [show (⟨g, i * 2, none⟩ : Addr).add j = ⟨g, i * 2 + j, none⟩ by unfold Addr.add; split <;> simp_all, cell_of_obj (w := w.drew) hL, List.append_assoc, List.getElem?_append_right (by omega), hA, show i * 2 + j - i * 2 = j by omega, List.getElem?_append_left (List.getElem?_eq_some_iff.1 hj).1]
    exact hj
  obtain ⟨w2, hr2, a1, a2, a3⟩ := run_copyE (P := Tryz.prog) (w := w.drew) 29 72 3 2 Tryz.underlying29 hsz2 g (i1 * 2) (n + 1 - i1) (c - i1) ⟨g, i * 2, none⟩ (n + 1 - i) (c - i) (A ++ D ++ R) D 72 hL (n - i) (by simp only [Nat.min_def]; split <;> omega) hD hD2 (by rw [hl, hD]; omega) h1
  have hpl : (putC (A ++ D ++ R) (i1 * 2) D).length = c * 2 := by rw [putC_length (by rw [hl, hD]; omega), hl]
  have hv2 : w2.heap[vb]? = some (.cells #[.string x.name, u] 72) := a2.obj (w := w.drew) hvb hne
  obtain ⟨w3, hr3, d1, d2, d3⟩ := run_copyE (P := Tryz.prog) (w := w2) 29 72 3 2 Tryz.underlying29 hsz2 g (i * 2) (n + 1 - i) (c - i) ⟨vb, 0, none⟩ 1 1 (putC (A ++ D ++ R) (i1 * 2) D) [.string x.name, u] 72 a1 1 (Nat.min_eq_left (by omega)) rfl (two_at hv2) (by rw [hpl]; simp only [List.length_cons, List.length_nil]; omega) hc2
  have HW := Aside0.mk (And.intro a2 (And.intro d1 (And.intro d2 hb0)))
  have hni : ¬ ((i : Int) = (n : Int)) := by omega
  have hroom : ¬ ((c : Int) < (n : Int) + 1) := by omega
  have hii : (i : Int) ≤ (n : Int) := by omega
  have hc63 : c ≤ 9223372036854775807 := by omega
  obtain ⟨cs, hcs⟩ : ∃ cs, A ++ [Value.string x.name, u] ++ D = cs := ⟨_, rfl⟩
  rw [hcs]
  have HC := Aside0.mk hcs
  clear hcs
  clear a1 a2 a3 d1 d2 d3 hL hvb hv2 hpl hl hD2 hv0 hc2 hup h1 hA hD hb0
  go_enter Tryz.func52, Tryz.ntmps52
  go_upto_region 14 with fail
  go_upto_region 15 with (simp only [hov])
  have hw1 : wrap64 ((i : Int) + 1) = (i : Int) + 1 := by unfold wrap64; omega
  refine wp_region_in [0, 0, 0, 0, 0, 0, 0, 0, 2] [] (fun _ => True) (by kernel_rfl) rfl (by kernel_rfl) (fun _ _ _ _ h => h) trivial ?_
  iterate 8 (first
    | (refine in_off0 (by rfl) ?_; simp only [Act.put, stA, stZ, stS, i64_w, i32_w])
    | (refine in_off1 (by rfl) ?_; simp only [Act.put, stA, stZ, stS, i64_w, i32_w])
    | (refine in_0 (v := ?_) (by rfl) rfl ?_ (a' := ?_) ?_ ?_; rotate_left; (intro w'; go_simp; with_reducible rfl); rotate_left; (simp only [Act.put, stA, stZ, stS, i64_w, i32_w]; rfl))
    | (refine in_1 (v := ?_) (by rfl) rfl ?_ (a' := ?_) ?_ ?_; rotate_left; (rintro w' hs; go_split_ands; go_simp; with_reducible rfl); rotate_left; (simp only [Act.put, stA, stZ, stS, i64_w, i32_w]; rfl)))
  refine in_2 (by rfl) (fun K hK => ?_)
  unfold Oper.wp execOp
  go_simp
  refine hK _ _ trivial ?_
  clear hK K hw1
  refine in_nil ?_
  go_wp2
  go_ret
  exact ⟨_, rfl, HC.out ▸ insshift_row HW.out.2.2.2 HP.out.1 HP.out.2.1 HP.out.2.2.1 HP.out.2.2.2.1 HP.out.2.2.2.2.1 HP.out.2.2.2.2.2.1 HP.out.2.2.2.2.2.2 rfl HW.out.2.1, Mod.trans ((Mod.refl _ _).drew) (Mod.trans HW.out.1 HW.out.2.2.1 (fun k _ h => h)) (fun k _ h => by rw [h]; rfl)⟩
theorem own_one {w : World} {b e : Nat} {k : IntKind} {v : Value} {l : List Int} (h : Own w b e k v l) : v.oneCell' = true := by
  obtain ⟨A, c, rfl, _⟩ := h.reads
  rfl
theorem acells_one : ∀ (l : List Att) (vs : List Value), (∀ v ∈ vs, v.oneCell' = true) → ∀ q ∈ acells l vs, q.oneCell' = true := by
  intro l vs h q hq
  unfold acells at hq
  obtain ⟨p, hp, hq⟩ := List.mem_flatMap.1 hq
  simp only [List.mem_cons, List.not_mem_nil, or_false] at hq
  rcases hq with rfl | rfl
  · rfl
  · exact h _ (List.of_mem_zip hp).2
theorem vals_one {w : World} {b : Nat} {l : List Att} {vs : List Value} (hv : vs.length = l.length) (h : ∀ j, j < l.length → Own w b 5 .u8 (vs.getD j undef) (attAt l j).val ∧ allB (attAt l j).val) : ∀ v ∈ vs, v.oneCell' = true := by
  intro v hm
  obtain ⟨j, hj, rfl⟩ := List.getElem_of_mem hm
  have := own_one (h j (by omega)).1
  simpa [List.getD_eq_getElem?_getD, hj] using this
theorem insL_get {α : Type} (l : List α) (i : Nat) (x d : α) (j : Nat) (hi : i ≤ l.length) : (insL l i x).getD j d = if j < i then l.getD j d else if j = i then x else l.getD (j - 1) d := by
  unfold insL
  have hk : (l.take i).length = i := by rw [List.length_take]; omega
  simp only [List.getD_eq_getElem?_getD]
  by_cases h1 : j < i
  · rw [if_pos h1, List.getElem?_append_left (by omega), List.getElem?_take, if_pos h1]
  · rw [if_neg h1, List.getElem?_append_right (by omega), hk]
    by_cases h2 : j = i
    · rw [if_pos h2, h2, Nat.sub_self]
      rfl
    · rw [if_neg h2, show j - i = (j - 1 - i) + 1 by omega, List.getElem?_cons_succ, List.getElem?_drop]
      congr 2
      omega
theorem ins_own {w w1 : World} {b0 : Nat} {v v1 vx : Value} {l : List Att} {vs : List Value} {x : Att} {i : Nat} (hv : vs.length = l.length) (hrow : w.ownsRow b0 72 2 v l.length (acells l vs)) (hvals : ∀ j, j < l.length → Own w b0 5 .u8 (vs.getD j undef) (attAt l j).val ∧ allB (attAt l j).val)
    (hx : Own w b0 5 .u8 vx x.val) (hxb : allB x.val) (hi : i ≤ l.length) (hm : Mod w w1 (fun k => v.ownBlock = some k)) (h1 : w1.ownsRow b0 72 2 v1 (l.length + 1) (acells (insL l i x) (insL vs i vx))) : OwnA w1 b0 v1 (insL l i x) := by
  have hne : (72 : TypeId) ≠ 5 := by decide
  have hk : ∀ {u : Value} {z : List Int}, Own w b0 5 .u8 u z → Own w1 b0 5 .u8 u z := fun hu => own_mod hu hm (fun g hg' e => own_ne hrow hu hne g e hg')
  refine ⟨insL vs i vx, by rw [insL_length, insL_length, hv], by rw [insL_length]; exact h1, fun j hj => ?_⟩
  rw [insL_length] at hj
  have e2 : attAt (insL l i x) j = if j < i then attAt l j else if j = i then x else attAt l (j - 1) := insL_get l i x _ j hi
  rw [insL_get vs i vx _ j (by omega), e2]
  by_cases a1 : j < i
  · rw [if_pos a1, if_pos a1]
    exact ⟨hk (hvals j (by omega)).1, (hvals j (by omega)).2⟩
  · rw [if_neg a1, if_neg a1]
    by_cases a2 : j = i
    · rw [if_pos a2, if_pos a2]
      exact ⟨hk hx, hxb⟩
    · rw [if_neg a2, if_neg a2]
      exact ⟨hk (hvals (j - 1) (by omega)).1, (hvals (j - 1) (by omega)).2⟩
def InsertPost (b0 : Nat) (v : Value) (l : List Att) (w : World) (e : Ending) (w' : World) : Prop :=
  ∃ v', e = .returned v' ∧ OwnA w' b0 v' l ∧ Mod w w' (fun k => v.ownBlock = some k)
theorem insert_calls {w : World} {b0 : Nat} {v vx : Value} {l : List Att} {x : Att} {i vb : Nat} (h : OwnA w b0 v l) (hx : Own w b0 5 .u8 vx x.val) (hxb : allB x.val) (hi : i ≤ l.length) (hl : l.length ≤ 1000) (hvb : w.heap[vb]? = some (.cells #[.string x.name, vx] 72)) (hvn : v.ownBlock ≠ some vb) (hb0 : b0 ≤ w.heap.size) :
    Calls Tryz.prog 52 #[v, .int .i64 i, .slice (some ⟨vb, 0, none⟩) 1 1] w (InsertPost b0 v (insL l i x) w) := by
  obtain ⟨vs, hv, hrow, hvals⟩ := h
  obtain ⟨n, hn⟩ : ∃ n, l.length = n := ⟨_, rfl⟩
  have hu := own_one hx
  obtain ⟨t1, t2, t3⟩ := acells_take l vs i hv hi
  have ti := acells_ins l vs i x vx hv
  have hfin : ∀ (e : Ending) (w1 : World), InsPost b0 v l.length (acells (insL l i x) (insL vs i vx)) w e w1 → InsertPost b0 v (insL l i x) w e w1 := by
    rintro e w1 ⟨v1, he, h1, hm⟩
    exact ⟨v1, he, ins_own hv hrow hvals hx hxb hi hm h1, hm⟩
  by_cases hin : i = l.length
  · have hc := ins_end b0 v l.length (acells l vs) x vx vb w hrow hl hvb hu hb0
    rw [hin]
    refine hc.mono ?_
    intro e w1 h1
    rw [← hin]
    refine hfin e w1 ?_
    have e0 : acells (insL l i x) (insL vs i vx) = acells l vs ++ [.string x.name, vx] := by
      rw [ti, hin, List.take_length, List.drop_length, ← hv, List.take_length, List.drop_length]
      simp [acells]
    rw [e0]
    exact h1
  · have hone : ∀ q ∈ acells (l.drop i) (vs.drop i), q.oneCell' = true := acells_one _ _ (fun v hm => vals_one hv hvals v (List.mem_of_mem_drop hm))
    rcases hrow.2 with ⟨rfl, h0⟩ | ⟨g, c, cur, rfl, hb, hh, hc, hcm, hsz, htk⟩
    · omega
    · have hcur : cur = (acells (l.take i) (vs.take i) ++ acells (l.drop i) (vs.drop i) ++ cur.toList.drop (l.length * 2)).toArray := by
        apply Array.ext'
        rw [← t1, ← htk]
        simp
      have hL : w.heap[g]? = some (.cells (acells (l.take i) (vs.take i) ++ acells (l.drop i) (vs.drop i) ++ cur.toList.drop (l.length * 2)).toArray 72 (0, 0)) := by rw [← hcur]; exact hh
      have hne : vb ≠ g := fun e => hvn (by rw [e]; rfl)
      by_cases hcn : c = l.length
      · subst hcn
        refine (ins_grow b0 g l.length i _ _ _ x vx vb w hb0 t2 t3 (by omega) hL hone hl hvb hu).mono ?_
        intro e w1 h1
        refine hfin e w1 ?_
        rw [ti]
        exact h1
      · refine (ins_shift b0 g l.length i c _ _ _ x vx vb w hb t2 t3 (by omega) (by omega) hcm ?_ hL hone hl hvb hne hu).mono ?_
        · rw [← hsz]
          conv => rhs; rw [hcur]
          rw [List.size_toArray]
        · intro e w1 h1
          refine hfin e w1 ?_
          rw [ti]
          exact h1
end Go.Proofs.YtkmhilhfmfmckaaGreatDoor.Hand
