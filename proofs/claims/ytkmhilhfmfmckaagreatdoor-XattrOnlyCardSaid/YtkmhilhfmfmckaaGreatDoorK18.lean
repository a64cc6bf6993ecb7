/- Own texts and printed words of the kit, put together and trimmed by a program of mine (merge.py). -/
import Derived.Test.YtkmhilhfmfmckaaGreatDoorK17
namespace Go.Proofs.YtkmhilhfmfmckaaGreatDoor.Hand
set_option linter.unusedSimpArgs false
set_option linter.unusedVariables false
set_option maxRecDepth 100000
open Go.Shelf Go.RowKit Go.Proofs.YtkmhilhfmfmckaaGreatDoorW.PrintWords Go.Proofs.YtkmhilhfmfmckaaGreatDoorW.PrintLast Go.Proofs.YtkmhilhfmfmckaaGreatDoorW.PrintMore
theorem getD_same {L : List (List Int)} {i : Nat} {b : List Int} (h : i < L.length) : (L.set i b).getD i [] = b := by simp [List.getD_eq_getElem?_getD, h]
theorem getD_other {L : List (List Int)} {i j : Nat} {b : List Int} (h : i ≠ j) : (L.set i b).getD j [] = L.getD j [] := by simp [List.getD_eq_getElem?_getD, List.getElem?_set_ne h]
theorem zeroGo_get : ∀ (g n : Nat) (L : List (List Int)) (j : Nat), j < n → (zeroGo g n L).getD j [] = L.getD j []
  | 0, _, _, _, _ => rfl
  | g + 1, n, L, j, h => by rw [zeroGo, zeroGo_get g (n + 1) _ j (by omega), getD_other (by omega)]
theorem exMk : mkFr exG 0 = 0 ∧ mkTo exG 0 = 200 ∧ mkBm exG 0 = 98 ∧ mkDa exG 0 = 108 ∧ mkFr exG 1 = 200 ∧ mkTo exG 1 = 300 ∧ mkBm exG 1 = 200 ∧ mkDa exG 1 = 210 := by
  unfold mkFr mkTo mkBm mkDa
  simp only [show ((0 : Nat) : Int) = 0 from rfl, show ((1 : Nat) : Int) = 1 from rfl]
  rw [exGeo.2.2.1, exGeo.2.2.2.1, exGeo.2.2.2.2.1, exGeo.2.2.2.2.2]
  decide
theorem exBits0 : mkBits exG 0 = (exM0, 0) := by
  unfold mkBits
  obtain ⟨h1, h2, h3, h4, _⟩ := exMk
  rw [h1, h2, h3, h4]
  show turnI (newB 200 98) 200 0 108 true 98 = _
  rw [new200]
  exact turn0
theorem exBits1 : (mkBits exG 1).2 = 0 := by
  unfold mkBits
  obtain ⟨_, _, _, _, h1, h2, h3, h4⟩ := exMk
  rw [h1, h2, h3, h4]
  show (turnI (newB 100 200) 100 0 10 true 200).2 = _
  rw [new100]
  exact turn0b
theorem exGr : (groupsI exG).toNat = 2 := by rw [exGeo.2.1]; rfl
theorem exMkOk : MkOk exG := by
  refine ⟨exGeo.1, fun i hi => ?_, ?_, ?_⟩
  · rw [exGeo.2.1] at hi
    have : i = 0 ∨ i = 1 := by omega
    rcases this with rfl | rfl
    · rw [exBits0]
    · exact exBits1
  · rw [exGr, exSup.2]
    exact exPk.2.2.1
  · rw [exSup.1]
    exact exPk.1
theorem exMkI : mkI exG exL = ((mkGo exG exL 2).set 1 (pgroupsI exG0).1).set 0 (psuperI exX0).1 := by
  unfold mkI
  rw [exGr, exSup.1, exSup.2]
theorem exLen : (mkI exG exL).length = 300 := by
  rw [exMkI, List.length_set, List.length_set, mkGo_length]
  exact List.length_replicate
theorem ex98 : (mkI exG exL).getD 98 [] = exM0 := by
  rw [exMkI, getD_other (by omega), getD_other (by omega)]
  show (mkOne exG 1 (mkOne exG 0 exL)).getD 98 [] = _
  obtain ⟨h1, h2, h3, h4, h5, h6, h7, h8⟩ := exMk
  unfold mkOne
  rw [h3, h4, h7, h8, exBits0, zeroGo_get _ _ _ _ (by omega), getD_other (by omega), getD_other (by omega), zeroGo_get _ _ _ _ (by omega), getD_other (by omega), getD_same (by unfold exL; rw [List.length_replicate]; omega)]
theorem ex0 : (mkI exG exL).getD 0 [] = (psuperI exX0).1 := by
  rw [exMkI, getD_same (by rw [List.length_set, mkGo_length]; unfold exL; rw [List.length_replicate]; omega)]
theorem ex1g : (mkI exG exL).getD 1 [] = (pgroupsI exG0).1 := by
  rw [exMkI, getD_other (by omega), getD_same (by rw [mkGo_length]; unfold exL; rw [List.length_replicate]; omega)]
structure ExSt (s : St) (x : Sup) (l : List Grp) (m : List Int) : Prop where
  len : s.now.length = 300
  b0 : s.now.getD 0 [] = (psuperI x).1
  b1 : s.now.getD 1 [] = (pgroupsI l).1
  bm : s.now.getD 98 [] = m
  held : s.held = List.replicate 300 false
theorem exSt0 : ExSt exS exX0 exG0 exM0 := ⟨exLen, ex0, ex1g, ex98, by show List.replicate (mkI exG exL).length false = _; rw [exLen]⟩
theorem exSit {s : St} {x : Sup} {l : List Grp} {m : List Int} (h : ExSt s x l m) (hx : unsuperI (psuperI x).1 = (x, 0)) (hl : ungroupsI (pgroupsI l).1 2 = (l, 0)) (hg : x.geo = exG) : sitI s.now = some (x, l) := by
  unfold sitI
  rw [h.b0, h.b1, hx]
  dsimp only
  rw [hg, exGeo.2.1, hl, h.len, if_neg (by simp [exG]), if_neg (by simp)]
theorem ExSt.write {s : St} {x : Sup} {l : List Grp} {m b : List Int} (h : ExSt s x l m) (n : Nat) (h0 : n ≠ 0) (h1 : n ≠ 1) (h2 : n ≠ 98) : ExSt (s.write n b) x l m := by
  refine ⟨?_, ?_, ?_, ?_, h.held⟩
  · show (s.now.set n b).length = 300
    rw [List.length_set]; exact h.len
  · show (s.now.set n b).getD 0 [] = _
    rw [getD_other h0]; exact h.b0
  · show (s.now.set n b).getD 1 [] = _
    rw [getD_other h1]; exact h.b1
  · show (s.now.set n b).getD 98 [] = _
    rw [getD_other h2]; exact h.bm
theorem exTake {s : St} (h : ExSt s exX0 exG0 exM0) : ∃ t, blocksI s 0 1 = (t, 108, 1, 0) ∧ ExSt t exX1 exG1 exM1 ∧ t.hist.length = s.hist.length + 3 := by
  have hs := exSit h exUn.1 exUn.2.2.1 rfl
  have hd : dturnI s 98 200 108 1 true = (s.write 98 exM1, 0) := by
    unfold dturnI
    rw [h.bm, show ((98 : Nat) : Int) = 98 from rfl, turn1, if_pos rfl]
  have hlv : leaveI (s.write 98 exM1) s.hist.length exX1 exG1 0 = (((s.write 98 exM1).write 1 (pgroupsI exG1).1).write 0 (psuperI exX1).1, 0) := by
    unfold leaveI
    rw [if_neg (by simp), if_neg (by rw [exPk.2.2.2, exPk.2.1]; simp)]
  have hta : takeAt s exX0 exG0 0 0 200 98 108 1 = (((s.write 98 exM1).write 1 (pgroupsI exG1).1).write 0 (psuperI exX1).1, 0) := by
    unfold takeAt
    rw [show (200 - 0 : Nat) = 200 from rfl, hd]
    exact hlv
  have hb : blkAt s exX0 exG0 0 0 200 98 0 1 = some (((s.write 98 exM1).write 1 (pgroupsI exG1).1).write 0 (psuperI exX1).1, 108, 1, 0) := by
    unfold blkAt
    rw [h.bm, h.held, show (200 - 0 : Nat) = 200 from rfl, show ((98 : Nat) : Int) = 98 from rfl, chk0, if_neg (by simp), if_neg (by simp), show (0 : Int) - ((0 : Nat) : Int) = 0 from rfl, find0]
    dsimp only
    rw [hta]
    unfold tookAt
    rw [if_neg (by simp)]
    rfl
  refine ⟨((s.write 98 exM1).write 1 (pgroupsI exG1).1).write 0 (psuperI exX1).1, ?_, ?_, rfl⟩
  · unfold blocksI
    rw [hs]
    dsimp only
    rw [if_neg (by simp), if_pos (by simp [exX0, exG])]
    show blkGo s exX0 exG0 (((0 : Int) / exX0.geo.per).toNat) 0 1 (1 + 1) 0 = _
    rw [blkGo]
    show (match blkAt s exX0 exG0 0 (spanI exG 0).1.toNat (spanI exG 0).2.1.toNat (placeI exG 0).1.toNat 0 1 with | some r => r | none => _) = _
    rw [exGeo.2.2.1, exGeo.2.2.2.2.1]
    show (match blkAt s exX0 exG0 0 0 200 98 0 1 with | some r => r | none => _) = _
    rw [hb]
  · have hl := h.len
    refine ⟨?_, ?_, ?_, ?_, h.held⟩
    · show (((s.now.set 98 _).set 1 _).set 0 _).length = 300
      rw [List.length_set, List.length_set, List.length_set]; exact hl
    · show (((s.now.set 98 _).set 1 _).set 0 _).getD 0 [] = _
      rw [getD_same (by rw [List.length_set, List.length_set]; omega)]
    · show (((s.now.set 98 _).set 1 _).set 0 _).getD 1 [] = _
      rw [getD_other (by omega), getD_same (by rw [List.length_set]; omega)]
    · show (((s.now.set 98 _).set 1 _).set 0 _).getD 98 [] = _
      rw [getD_other (by omega), getD_other (by omega), getD_same (by omega)]
theorem exGive {s : St} (h : ExSt s exX1 exG1 exM1) : (freeI s 108 1).2 = 0 := by
  have hs := exSit h exUn.2.1 exUn.2.2.2 rfl
  have hd : dturnI s 98 200 108 1 false = (s.write 98 exM0, 0) := by
    unfold dturnI
    rw [h.bm, show ((98 : Nat) : Int) = 98 from rfl, turn2, if_pos rfl]
  have hlv : leaveI (s.write 98 exM0) s.hist.length exX0 exG0 0 = (((s.write 98 exM0).write 1 (pgroupsI exG0).1).write 0 (psuperI exX0).1, 0) := by
    unfold leaveI
    rw [if_neg (by simp), if_neg (by rw [exPk.2.2.1, exPk.1]; simp)]
  unfold freeI
  rw [hs]
  dsimp only
  rw [if_neg (by simp [exX1, exG])]
  rw [show (108 : Int) / exX1.geo.per = 0 from rfl, show exX1.geo = exG from rfl, exGeo.2.2.1, exGeo.2.2.2.2.1]
  dsimp only
  rw [if_neg (by simp)]
  show (freeAt s exX1 exG1 0 0 200 98 108 1).2 = 0
  unfold freeAt
  rw [show (200 - 0 : Nat) = 200 from rfl, show ((108 : Nat) : Int) - ((0 : Nat) : Int) = 108 from rfl, show ((1 : Nat) : Int) = 1 from rfl, hd]
  dsimp only
  rw [show addFb exX1 1 = exX0 from rfl, show setFb exG1 0 ((grpAt exG1 0).fb + 1) = exG0 from rfl, hlv, if_neg (by simp)]
def exRx : Ino := { exR with xattr := 108, blocks := 1 }
def exa : Att := ⟨exA, [2]⟩
def exb : Att := ⟨exB, [1]⟩
theorem exIno : inoI exR 48 = 0 ∧ inoI exRx 48 = 0 := by decide +kernel
theorem exNm : namedB exA = true ∧ namedB exB = true ∧ namedB exC = true := by decide +kernel
theorem exSeek : seekI [] exB = (0, false) ∧ seekI [exb] exA = (0, false) ∧ seekI [exa, exb] exA = (0, true) ∧ seekI [exa, exb] exC = (2, false) ∧ seekI [exb] exB = (0, true) := by decide +kernel
theorem exPack : (xpackI [exb] 0).2 = 0 ∧ (xpackI [exa, exb] 0).2 = 0 := by decide +kernel
theorem exList0 {s : St} : xlistI s.now exR 48 = ([], 0) := by
  unfold xlistI
  rw [exIno.1, if_neg (by simp), if_pos (show exR.xattr = 0 from rfl)]
theorem exList {s : St} {l : List Att} (h : s.now.getD 108 [] = (xpackI l 108).1) (hp : (xpackI l 0).2 = 0) (hl : l ≠ []) : xlistI s.now exRx 48 = (l, 0) := by
  have hb := xback (xpackI_code hp (b := 108))
  unfold xlistI
  rw [exIno.2, show exRx.xattr = 108 from rfl, show (108 : Int).toNat = 108 from rfl, h, hb, if_neg (by simp), if_neg (by simp), if_neg (by simp [hl])]
theorem exSet1 {s : St} (h : ExSt s exX0 exG0 exM0) : ∃ t, xsetR s exR 48 exB [1] 0 0 = (t, exRx, 0) ∧ ExSt t exX1 exG1 exM1 ∧ t.now.getD 108 [] = (xpackI [exb] 108).1 ∧ t.hist.length = s.hist.length + 4 := by
  obtain ⟨t, ht, hx, hl⟩ := exTake h
  refine ⟨t.write 108 (xpackI [exb] 108).1, ?_, hx.write 108 (by omega) (by omega) (by omega), ?_, ?_⟩
  · unfold xsetR
    rw [exList0]
    dsimp only
    rw [exSeek.1, exNm.2.1, ht]
    rw [if_neg (by simp), if_neg (by simp), if_neg (by simp), if_neg (by simp), if_neg (by simp)]
    show (if (xpackI [exb] 0).2 ≠ 0 then _ else _) = _
    rw [exPack.1, if_neg (by simp), if_neg (by simp [exR]), if_neg (by simp)]
    rfl
  · exact getD_same (by rw [hx.len]; omega)
  · show (t.hist.length + 1) = _
    omega
theorem exSet2 {s : St} (h : ExSt s exX1 exG1 exM1) (hb : s.now.getD 108 [] = (xpackI [exb] 108).1) : xsetR s exRx 48 exA [2] 0 0 = (s.write 108 (xpackI [exa, exb] 108).1, exRx, 0) := by
  unfold xsetR
  rw [exList hb exPack.1 (by simp)]
  dsimp only
  rw [exSeek.2.1, exNm.1]
  rw [if_neg (by simp), if_neg (by simp), if_neg (by simp), if_neg (by simp), if_neg (by simp)]
  show (if (xpackI [exa, exb] 0).2 ≠ 0 then _ else _) = _
  rw [exPack.2, if_neg (by simp), if_pos (by simp [exRx])]
  rfl
theorem exSet3 {s : St} (hb : s.now.getD 108 [] = (xpackI [exa, exb] 108).1) : xsetR s exRx 48 exA [] 1 0 = (s, exRx, 17) := by
  unfold xsetR
  rw [exList hb exPack.2 (by simp)]
  dsimp only
  rw [exSeek.2.2.1, exNm.1]
  rw [if_neg (by simp), if_neg (by simp), if_neg (by simp), if_pos (by simp)]
theorem exSet4 {s : St} (hb : s.now.getD 108 [] = (xpackI [exa, exb] 108).1) : xsetR s exRx 48 exC [] 2 0 = (s, exRx, 61) := by
  unfold xsetR
  rw [exList hb exPack.2 (by simp)]
  dsimp only
  rw [exSeek.2.2.2.1, exNm.2.2]
  rw [if_neg (by simp), if_neg (by simp), if_neg (by simp), if_neg (by simp), if_pos (by simp)]
theorem exRem1 {s : St} (hb : s.now.getD 108 [] = (xpackI [exa, exb] 108).1) : xremR s exRx 48 exA = (s.write 108 (xpackI [exb] 108).1, exRx, 0) := by
  unfold xremR
  rw [exList hb exPack.2 (by simp)]
  dsimp only
  rw [exSeek.2.2.1]
  rw [if_neg (by simp), if_neg (by simp), if_neg (by simp)]
  rfl
theorem exRem2 {s : St} (h : ExSt s exX1 exG1 exM1) (hb : s.now.getD 108 [] = (xpackI [exb] 108).1) : ∃ t, xremR s exRx 48 exB = (t, exR, 0) := by
  refine ⟨(freeI s 108 1).1, ?_⟩
  unfold xremR
  rw [exList hb exPack.1 (by simp)]
  dsimp only
  rw [exSeek.2.2.2.2]
  rw [if_neg (by simp), if_neg (by simp), if_pos (by simp)]
  unfold xdropR
  rw [exList hb exPack.1 (by simp)]
  rw [if_neg (by simp), if_neg (by simp [exRx])]
  show (if (freeI s 108 1).2 ≠ 0 then _ else _) = _
  rw [exGive h, if_neg (by simp)]
  rfl
theorem exAll : ∃ s1 s2 s3 s4, xsetR exS exR 48 exB [1] 0 0 = (s1, exRx, 0) ∧ xsetR s1 exRx 48 exA [2] 0 0 = (s2, exRx, 0) ∧ xlistI s2.now exRx 48 = ([exa, exb], 0) ∧ xsetR s2 exRx 48 exA [] 1 0 = (s2, exRx, 17) ∧ xsetR s2 exRx 48 exC [] 2 0 = (s2, exRx, 61) ∧
    xremR s2 exRx 48 exA = (s3, exRx, 0) ∧ xremR s3 exRx 48 exB = (s4, exR, 0) ∧ s1.hist.length ≤ 100 ∧ s2.hist.length ≤ 100 ∧ s3.hist.length ≤ 100 := by
  obtain ⟨s1, h1, h2, h3, h4⟩ := exSet1 exSt0
  have hh : exS.hist.length = 0 := rfl
  have e2 := exSet2 h2 h3
  have b2 : (s1.write 108 (xpackI [exa, exb] 108).1).now.getD 108 [] = (xpackI [exa, exb] 108).1 := getD_same (by rw [h2.len]; omega)
  have x2 := h2.write (b := (xpackI [exa, exb] 108).1) 108 (by omega) (by omega) (by omega)
  have e3 := exRem1 b2
  have b3 : ((s1.write 108 (xpackI [exa, exb] 108).1).write 108 (xpackI [exb] 108).1).now.getD 108 [] = (xpackI [exb] 108).1 := getD_same (by rw [x2.len]; omega)
  obtain ⟨s4, e4⟩ := exRem2 (x2.write (b := (xpackI [exb] 108).1) 108 (by omega) (by omega) (by omega)) b3
  exact ⟨s1, _, _, s4, h1, e2, exList b2 exPack.2 (by simp), exSet3 b2, exSet4 b2, e3, e4, by omega, by show s1.hist.length + 1 ≤ 100; omega, by show s1.hist.length + 1 + 1 ≤ 100; omega⟩
end Go.Proofs.YtkmhilhfmfmckaaGreatDoor.Hand
