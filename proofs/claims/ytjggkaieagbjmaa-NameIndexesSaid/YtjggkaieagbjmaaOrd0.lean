/- The document's answers of layer 15 for one text: whether a name may be, its hash, its order. -/
import Derived.Test.YtjggkaieagbjmaaUnp1
namespace Go.Proofs.Ytjggkaieagbjmaa.Hand
set_option linter.unusedVariables false
set_option linter.unusedSimpArgs false
open Go.Lib (toList_data)
open Go.Shelf Go.RowKit Go.Proofs.YtjggkaieagbjmaaW.PrintWords Go.Proofs.YtjggkaieagbjmaaW.PrintLast Go.Proofs.YtjggkaieagbjmaaW.PrintMore

theorem data_at (s : ByteArray) (k : Nat) (h : k < s.size) : s[k]'h = s.data.toList.getD k 0 := by
  have h' : k < s.data.size := h
  show s.data[k]'h' = _
  rw [List.getD_eq_getElem?_getD, Array.getElem?_toList, Array.getElem?_eq_getElem h']
  rfl

set_option maxHeartbeats 1000000 in
set_option maxRecDepth 100000 in
theorem rhash_calls (s : ByteArray) (w : World) (hm : s.size ≤ 4611686018427387904) : Calls Try.prog 14 #[.string s] w fun e w' => e = .returned (.int .u32 (hashI s)) ∧ w = w' := by
  have hsz : s.data.toList.length = s.size := by simp
  go_enter Try.func14, Try.ntmps14
  go_wp2
  go_loop [3, 4] (fun x i => ∃ k : Nat, k ≤ s.size ∧ x = .int .u32 (hashF 2166136261 (s.data.toList.take k)) ∧ i = .int .i64 k) (fun _ i => s.size - (intOf i).toNat)
  case atStart => exact ⟨0, by omega, rfl, rfl⟩
  case round =>
    obtain ⟨k, hk, rfl, rfl⟩ := hrel
    obtain ⟨hr0, hr1⟩ := hashF_range 2166136261 (s.data.toList.take k) (by omega) (by omega)
    obtain ⟨y, hy⟩ : ∃ y, hashF 2166136261 (s.data.toList.take k) = y := ⟨_, rfl⟩
    rw [hy] at hr0 hr1 ⊢
    by_cases hlt : k < s.size
    · have hsn := hashF_snoc 2166136261 s.data.toList k (by omega)
      rw [hy] at hsn
      have hx := data_at s k
      obtain ⟨c, hc⟩ : ∃ c : UInt8, s.data.toList.getD k 0 = c := ⟨_, rfl⟩
      rw [hc] at hx hsn
      have HS := Aside0.mk hsn
      have hc0 : (0 : Int) ≤ (c.toNat : Int) := by omega
      have hc1 : (c.toNat : Int) < 256 := by have := c.toNat_lt; omega
      clear hsn hy hc
      go_wp2
      go_round
      case rel => exact ⟨k + 1, by omega, by rw [HS.out]; rfl, by go_num⟩
      case measure => simp [intOf]; omega
    · have HY := Aside0.mk hy
      clear hy
      go_wp2
      go_ret
      exact ⟨by unfold hashI; rw [← HY.out, List.take_of_length_le (by omega)]; rfl, rfl⟩

theorem barB_snoc (l : List UInt8) (k : Nat) (hk : k < l.length) : barB (l.take (k + 1)) = (barB (l.take k) || (l.getD k 0 == 47 || l.getD k 0 == 0)) := by
  unfold barB
  rw [List.take_succ_eq_append_getElem hk, List.any_append]
  simp [List.getD_eq_getElem?_getD, hk]
theorem barB_all (l : List UInt8) (k : Nat) (hk : k < l.length) (h : barB (l.take (k + 1)) = true) : barB l = true := by
  unfold barB at h ⊢
  rw [List.any_eq_true] at h ⊢
  obtain ⟨x, hx, h⟩ := h
  exact ⟨x, List.mem_of_mem_take hx, h⟩

set_option maxHeartbeats 4000000 in
set_option maxRecDepth 100000 in
theorem rcheck_calls (s : ByteArray) (w : World) :
    Calls Try.prog 12 #[.string s] w fun e w' => e = .returned (.int .i64 (chkI s)) ∧ w = w' := by
  unfold chkI
  by_cases h60 : 60 < s.size
  · rw [if_pos h60]
    go_enter Try.func12, Try.ntmps12
    go_wp2
    go_ret
    exact ⟨rfl, rfl⟩
  · rw [if_neg h60]
    by_cases h0 : s.toList = []
    · rw [if_pos (.inl h0)]
      have h0b : (s.toList == []) = true := by rw [h0]; rfl
      have h0c : s.toList.isEmpty = true := by rw [h0]; rfl
      go_enter Try.func12, Try.ntmps12
      go_wp2
      go_ret
      exact ⟨rfl, rfl⟩
    · have h0b : (s.toList == []) = false := by simpa using h0
      have h0c : s.toList.isEmpty = false := by simpa using h0
      by_cases h1 : s.toList = [46]
      · rw [if_pos (.inr (.inl h1))]
        have h1b : (s.toList == [46]) = true := by rw [h1]; rfl
        clear h0 h1
        go_enter Try.func12, Try.ntmps12
        go_wp2
        go_ret
        exact ⟨rfl, rfl⟩
      · have h1b : (s.toList == [46]) = false := by simpa using h1
        by_cases h2 : s.toList = [46, 46]
        · rw [if_pos (.inr (.inr (.inl h2)))]
          have h2b : (s.toList == [46, 46]) = true := by rw [h2]; rfl
          clear h0 h1 h2
          go_enter Try.func12, Try.ntmps12
          go_wp2
          go_ret
          exact ⟨rfl, rfl⟩
        · have h2b : (s.toList == [46, 46]) = false := by simpa using h2
          have hpost : (if s.toList = [] ∨ s.toList = [46] ∨ s.toList = [46, 46] ∨ barB s.data.toList = true then (22 : Int) else 0) = if barB s.data.toList = true then 22 else 0 := by simp only [h0, h1, h2, false_or]
          rw [hpost]
          obtain ⟨r, hr⟩ : ∃ r : Int, (if barB s.data.toList = true then 22 else 0) = r := ⟨_, rfl⟩
          rw [hr]
          have HR := Aside0.mk hr
          have hsz : s.data.toList.length = s.size := by simp
          clear h0 h1 h2 hpost hr
          go_enter Try.func12, Try.ntmps12
          go_wp2
          go_loop [3] (fun i => ∃ k : Nat, k ≤ s.size ∧ barB (s.data.toList.take k) = false ∧ i = .int .i64 k) (fun i => s.size - (intOf i).toNat)
          case atStart => exact ⟨0, by omega, rfl, rfl⟩
          case round =>
            obtain ⟨k, hk, hb, rfl⟩ := hrel
            have HBB := Aside0.mk hb
            clear hb
            by_cases hlt : k < s.size
            · have hsn := barB_snoc s.data.toList k (by omega)
              have hall := barB_all s.data.toList k (by omega)
              rw [HBB.out, Bool.false_or] at hsn
              have hx := data_at s k
              obtain ⟨c, hc⟩ : ∃ c : UInt8, s.data.toList.getD k 0 = c := ⟨_, rfl⟩
              rw [hc] at hx hsn
              have HS := Aside0.mk hsn
              have HA := Aside0.mk hall
              clear hsn hc hall
              by_cases c0 : c = 0
              · subst c0
                go_wp2
                go_ret
                exact ⟨by rw [← HR.out, if_pos (HA.out (by rw [HS.out]; rfl))]; rfl, rfl⟩
              · by_cases c1 : c = 47
                · subst c1
                  go_wp2
                  go_ret
                  exact ⟨by rw [← HR.out, if_pos (HA.out (by rw [HS.out]; rfl))]; rfl, rfl⟩
                · have d0 : ((c.toNat : Int) == 0) = false := by
                    rw [beq_eq_false_iff_ne]
                    intro h
                    exact c0 (UInt8.toNat_inj.1 (by simpa using h))
                  have d1 : ((c.toNat : Int) == 47) = false := by
                    rw [beq_eq_false_iff_ne]
                    intro h
                    exact c1 (UInt8.toNat_inj.1 (by have : c.toNat = 47 := by omega
                                                    simpa using this))
                  have HC := Aside0.mk (And.intro c0 c1)
                  clear c0 c1
                  go_wp2
                  go_round
                  case rel => exact ⟨k + 1, by omega, by rw [HS.out]; simp [HC.out.1, HC.out.2], by go_num⟩
                  case measure => simp [intOf]; omega
            · go_wp2
              go_ret
              have : barB s.data.toList = false := by have h := HBB.out; rw [List.take_of_length_le (by omega)] at h; exact h
              exact ⟨by rw [← HR.out, this]; rfl, rfl⟩

theorem bytesLess_step (l m : List UInt8) (k : Nat) (h1 : k < l.length) (h2 : k < m.length) (he : l.getD k 0 = m.getD k 0) : Op.bytesLess (l.drop k) (m.drop k) = Op.bytesLess (l.drop (k + 1)) (m.drop (k + 1)) := by
  rw [List.drop_eq_getElem_cons h1, List.drop_eq_getElem_cons h2]
  have : l[k] = m[k] := by simpa [List.getD_eq_getElem?_getD, h1, h2] using he
  rw [this]
  simp [Op.bytesLess]
theorem bytesLess_ne (l m : List UInt8) (k : Nat) (h1 : k < l.length) (h2 : k < m.length) (he : l.getD k 0 ≠ m.getD k 0) : Op.bytesLess (l.drop k) (m.drop k) = decide (((l.getD k 0).toNat : Int) < ((m.getD k 0).toNat : Int)) := by
  rw [List.drop_eq_getElem_cons h1, List.drop_eq_getElem_cons h2]
  have e1 : l.getD k 0 = l[k] := by simp [List.getD_eq_getElem?_getD, h1]
  have e2 : m.getD k 0 = m[k] := by simp [List.getD_eq_getElem?_getD, h2]
  rw [e1, e2] at he ⊢
  have : (l[k] == m[k]) = false := by simpa using he
  rw [Op.bytesLess, this, Bool.false_and, Bool.or_false, decide_eq_decide, UInt8.lt_iff_toNat_lt]
  omega
theorem bytesLess_end (l m : List UInt8) (k : Nat) (h1 : k ≤ l.length) (h2 : k ≤ m.length) (h : ¬ (k < l.length ∧ k < m.length)) : Op.bytesLess (l.drop k) (m.drop k) = decide ((l.length : Int) < (m.length : Int)) := by
  by_cases hk : k < m.length
  · have : k = l.length := by omega
    subst this
    rw [List.drop_length, List.drop_eq_getElem_cons hk, Op.bytesLess]
    simp [hk]
  · have : k = m.length := by omega
    subst this
    rw [List.drop_length]
    have h3 : ∀ l : List UInt8, Op.bytesLess l [] = false := fun l => by cases l <;> rfl
    rw [h3, eq_comm, decide_eq_false_iff_not]
    omega
theorem less_hash_ne (a b : ByteArray) (h : hashI a ≠ hashI b) : lessB a b = decide (hashI a < hashI b) := by
  unfold lessB orI cmpI
  rw [decide_eq_decide]
  repeat' split
  all_goals omega
theorem less_hash_eq (a b : ByteArray) (h : hashI a = hashI b) : lessB a b = Op.bytesLess a.data.toList b.data.toList := by
  unfold lessB orI cmpI cmpS
  rw [h, toList_data, toList_data]
  simp only [Int.lt_irrefl, if_false, if_true]
  cases Op.bytesLess a.data.toList b.data.toList <;> simp
  split <;> omega

set_option maxHeartbeats 400000 in
set_option maxRecDepth 100000 in
theorem rless_calls (a b : ByteArray) (w : World) (ha : a.size ≤ 4611686018427387904) (hb : b.size ≤ 4611686018427387904) :
    Calls Try.prog 15 #[.string a, .string b] w fun e w' => e = .returned (.bool (lessB a b)) ∧ Below w.heap.size w w' := by
  have hsa : a.data.toList.length = a.size := by simp
  have hsb : b.data.toList.length = b.size := by simp
  have h1 := less_hash_ne a b
  have h2 := less_hash_eq a b
  obtain ⟨p, hp⟩ : ∃ p, hashI a = p := ⟨_, rfl⟩
  obtain ⟨q, hq⟩ : ∃ q, hashI b = q := ⟨_, rfl⟩
  rw [hp, hq] at h1 h2
  obtain ⟨r, hr⟩ : ∃ r, lessB a b = r := ⟨_, rfl⟩
  rw [hr] at h1 h2 ⊢
  have HP := Aside0.mk hp
  have HQ := Aside0.mk hq
  have HE := Aside0.mk h2
  clear hp hq hr h2
  by_cases hpq : p = q
  · subst hpq
    clear h1
    go_enter Try.func15, Try.ntmps15
    go_wp2_with fail
    refine (rhash_calls a w ha).mono ?_
    rintro e w' ⟨rfl, rfl⟩
    rw [HP.out]
    go_wp2_with fail
    refine (rhash_calls b _ hb).mono ?_
    rintro e w' ⟨rfl, rfl⟩
    rw [HQ.out]
    go_wp2
    go_loopg [7] (a.size) (fun g i wr => ∃ k : Nat, k + g = a.size ∧ k ≤ b.size ∧ i = .int .i64 k ∧ Aside0 (Below w.heap.size w wr) ∧ Aside0 (r = Op.bytesLess (a.data.toList.drop k) (b.data.toList.drop k)))
    case atStart => exact ⟨0, by omega, by omega, rfl, ⟨Below.refl _ _⟩, ⟨HE.out trivial⟩⟩
    case round =>
      obtain ⟨k, hk, hkb, rfl, HB, HR⟩ := hrel
      by_cases hlt : k < a.size
      · by_cases hltb : k < b.size
        · have hst := bytesLess_step a.data.toList b.data.toList k (by omega) (by omega)
          have hne := bytesLess_ne a.data.toList b.data.toList k (by omega) (by omega)
          have hxa := data_at a k
          have hxb := data_at b k
          obtain ⟨c, hc⟩ : ∃ c : UInt8, a.data.toList.getD k 0 = c := ⟨_, rfl⟩
          obtain ⟨d, hd⟩ : ∃ d : UInt8, b.data.toList.getD k 0 = d := ⟨_, rfl⟩
          rw [hc] at hxa hst hne
          rw [hd] at hxb hst hne
          have HST := Aside0.mk hst
          have HNE := Aside0.mk hne
          clear hst hne hc hd
          obtain ⟨g, rfl⟩ : ∃ g, gk = g + 1 := ⟨gk - 1, by omega⟩
          have i1 : (k : Int) < (a.size : Int) := by omega
          have i2 : (k : Int) < (b.size : Int) := by omega
          by_cases hcd : c = d
          · subst hcd
            go_wp2
            go_quiet (fail)
            go_wp2
            go_roundg g
            case measure => omega
            case rel => exact ⟨k + 1, by omega, by omega, by go_num, ⟨pw_below_drewN HB.out _⟩, ⟨by rw [HR.out]; exact HST.out trivial⟩⟩
          · have hcd1 : ((c.toNat : Int) != (d.toNat : Int)) = true := by
              rw [bne_iff_ne]
              intro h
              exact hcd (UInt8.toNat_inj.1 (by omega))
            have HCD := Aside0.mk hcd
            clear hcd
            go_wp2
            go_quiet (fail)
            go_wp2
            have HB2 := Aside0.mk (pw_below_drewN HB.out nq)
            have e : r = decide (c.toNat < d.toNat) := by
              rw [HR.out, HNE.out HCD.out, decide_eq_decide]
              omega
            have HEE := Aside0.mk e
            clear e
            generalize wr.drewN nq = w2 at HB2 ⊢
            go_quiet (fail)
            go_wp2
            go_ret
            exact ⟨by rw [HEE.out]; rfl, pw_below_drewN HB2.out _⟩
        · go_wp2
          go_ret
          exact ⟨by rw [HR.out, bytesLess_end _ _ k (by omega) (by omega) (by omega)]; simp, HB.out⟩
      · go_wp2
        go_ret
        exact ⟨by rw [HR.out, bytesLess_end _ _ k (by omega) (by omega) (by omega)]; simp, HB.out⟩
  · have h1' := h1 hpq
    clear h1
    have hpq1 : (p != q) = true := by simpa using hpq
    have H1 := Aside0.mk h1'
    clear h1' hpq
    go_enter Try.func15, Try.ntmps15
    go_wp2_with fail
    refine (rhash_calls a w ha).mono ?_
    rintro e w' ⟨rfl, rfl⟩
    rw [HP.out]
    go_wp2_with fail
    refine (rhash_calls b _ hb).mono ?_
    rintro e w' ⟨rfl, rfl⟩
    rw [HQ.out]
    go_wp2
    go_ret
    exact ⟨by rw [H1.out]; rfl, Below.refl _ _⟩
end Go.Proofs.Ytjggkaieagbjmaa.Hand
