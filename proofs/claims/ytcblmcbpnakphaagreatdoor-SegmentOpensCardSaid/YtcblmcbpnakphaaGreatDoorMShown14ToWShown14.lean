/- Joined texts of one proof: Shown14, WShown14. -/
import Derived.Test.YtcblmcbpnakphaaGreatDoorMIx2ToSegRd
import Derived.Test.YtcblmcbpnakphaaGreatDoorMWSegPToWOpenS
import Derived.StillTailTactics
set_option linter.unusedSimpArgs false
set_option linter.unusedVariables false
set_option linter.unnecessarySimpa false
/- (Shown14) Plain: chapter 14's examples. No program in sight. -/
section
namespace Go.Proofs.YtcblmcbpnakphaaGreatDoor
set_option linter.unusedVariables false

/-- "x": "b a1 b"; "y": "A1" -/
def exA : List DocL := [([120], [98, 32, 97, 49, 32, 98]), ([121], [65, 49])]
theorem exA_ok : docsOk exA := ⟨by decide +kernel, by decide⟩
theorem exA_a1 : postsF [97, 49] exA 0 = [(0, [1]), (1, [0])] := by decide +kernel
theorem exA_b : postsF [98] exA 0 = [(0, [0, 2])] := by decide +kernel
theorem exA_terms : termsL exA = [[97, 49], [98]] := by decide +kernel
theorem exA_all : (termsL exA).filter (fun t => ([] : Bytes).isPrefixOf t) = [[97, 49], [98]] := by rw [exA_terms]; rfl
theorem exA_p0 : fromP (postsF [97, 49] exA 0) 0 = [(0, [1]), (1, [0])] := by rw [exA_a1]; rfl
theorem exA_p1 : fromP (postsF [97, 49] exA 0) 1 = [(1, [0])] := by rw [exA_a1]; rfl
theorem exA_p2 : fromP (postsF [98] exA 0) 0 = [(0, [0, 2])] := by rw [exA_b]; rfl
theorem exA_find : findL exA [121] = some 1 := by decide
end Go.Proofs.YtcblmcbpnakphaaGreatDoor
end

/- (WShown14) codexlaw14.shown: walked: true. -/
section
namespace Go.Proofs.YtcblmcbpnakphaaGreatDoor
open Go.RowKit
set_option linter.unusedVariables false

theorem docs_lit2' (w : World) (a b c d : Bytes) (e : TypeId) : Docs (w.alloc (.cells #[strV a, strV b, strV c, strV d] e)) (.slice (some ⟨w.heap.size, 0, none⟩) 2 2) [(a, b), (c, d)] := Sl.lit w _ _ 2 2 rfl
theorem posts_two (w : World) (d1 x1 d2 x2 : Int) :
    Posts (((w.alloc (.cells #[.int .i64 x1] 3)).alloc (.cells #[.int .i64 x2] 3)).alloc (.cells #[.int .i64 d1, .slice (some ⟨w.heap.size, 0, none⟩) 1 1, .int .i64 d2, .slice (some ⟨w.heap.size + 1, 0, none⟩) 1 1] 74)) (.slice (some ⟨w.heap.size + 1 + 1, 0, none⟩) 2 2) [(d1, .slice (some ⟨w.heap.size, 0, none⟩) 1 1, [x1]), (d2, .slice (some ⟨w.heap.size + 1, 0, none⟩) 1 1, [x2])] := by
  have h1 : Ints (w.alloc (.cells #[.int .i64 x1] 3)) (.slice (some ⟨w.heap.size, 0, none⟩) 1 1) [x1] := Sl.lit w _ _ 1 1 rfl
  have h2 : Ints ((w.alloc (.cells #[.int .i64 x1] 3)).alloc (.cells #[.int .i64 x2] 3)) (.slice (some ⟨w.heap.size + 1, 0, none⟩) 1 1) [x2] := by
    have := Sl.lit (w.alloc (.cells #[.int .i64 x1] 3)) #[.int .i64 x2] 3 1 1 rfl
    rwa [World.size_alloc] at this
  have h3 := Sl.lit ((w.alloc (.cells #[.int .i64 x1] 3)).alloc (.cells #[.int .i64 x2] 3)) #[.int .i64 d1, .slice (some ⟨w.heap.size, 0, none⟩) 1 1, .int .i64 d2, .slice (some ⟨w.heap.size + 1, 0, none⟩) 1 1] 74 2 2 rfl
  rw [World.size_alloc, World.size_alloc] at h3
  refine ⟨h3, fun r hr => ?_⟩
  simp only [List.mem_cons, List.not_mem_nil, or_false] at hr
  rcases hr with rfl | rfl
  · exact (h1.stays (Q.alloc _ _)).stays (Q.alloc _ _)
  · exact h2.stays (Q.alloc _ _)
theorem posts_one (w : World) (d : Int) (ps : List Int) (n : Nat) (hn : ps.length = n) :
    Posts ((w.alloc (.cells (intVs ps).toArray 3)).alloc (.cells #[.int .i64 d, .slice (some ⟨w.heap.size, 0, none⟩) n n] 74)) (.slice (some ⟨w.heap.size + 1, 0, none⟩) 1 1) [(d, .slice (some ⟨w.heap.size, 0, none⟩) n n, ps)] := by
  subst hn
  have h1 : Ints (w.alloc (.cells (intVs ps).toArray 3)) (.slice (some ⟨w.heap.size, 0, none⟩) ps.length ps.length) ps := Sl.lit w _ _ ps.length 1 (by simp)
  have h3 := Sl.lit (w.alloc (.cells (intVs ps).toArray 3)) #[.int .i64 d, .slice (some ⟨w.heap.size, 0, none⟩) ps.length ps.length] 74 1 2 rfl
  rw [World.size_alloc] at h3
  refine ⟨h3, fun r hr => ?_⟩
  simp only [List.mem_cons, List.not_mem_nil, or_false] at hr
  subst hr
  exact h1.stays (Q.alloc _ _)
theorem exA_twice : buildS [([120], [98, 32, 97, 49, 32, 98]), ([120], [98, 32, 97, 49, 32, 98])] = ([], 1) := by
  unfold buildS
  rw [if_neg (by decide), if_neg (fun h => by have := h.2; revert this; decide)]
set_option maxRecDepth 100000 in
set_option maxHeartbeats 8000000 in
theorem Shown14 (w : World) (hT : Tabs w) (hSp : Spans w) : Calls Tryz.prog 19 #[] w fun e w' => e = .returned (.bool true) ∧ Q w w' := by
  have HT := Lib.hid hT; have HSP := Lib.hid hSp
  clear hT hSp
  have hd0 := docs_lit2' w [120] [98, 32, 97, 49, 32, 98] [121] [65, 49] 52
  have hq0 := Q.alloc w (.cells #[strV [120], strV [98, 32, 97, 49, 32, 98], strV [121], strV [65, 49]] 52)
  have c1 := Build_ok _ exA _ hd0 (by decide) exA_ok (HT.out.stays hq0) (HSP.out.stays hq0)
  have C1 := Lib.hid c1; have HD0 := Lib.hid hd0; have HQ0 := Lib.hid hq0
  clear c1 hd0 hq0
  go_enter Tryz.func19, Tryz.ntmps19
  go_wp2_with fail
  refine C1.out.mono ?_
  rintro e w1 ⟨rfl, q1⟩
  have hq1 := HQ0.out.trans q1
  have hd1 : Docs w1 _ exA := HD0.out.stays q1
  have co := Open_ok exA w1 (by decide) exA_ok (HT.out.stays hq1) (HSP.out.stays hq1)
  have CO := Lib.hid co; have HQ1 := Lib.hid hq1; have HD1 := Lib.hid hd1
  have hcl : w1.cell? ⟨w.heap.size, 0, none⟩ = some (strV [120]) ∧ w1.cell? ⟨w.heap.size, 1, none⟩ = some (strV [98, 32, 97, 49, 32, 98]) := ⟨(Blk.stays (Blk.new w _ _) q1).cell 0 _ rfl, (Blk.stays (Blk.new w _ _) q1).cell 1 _ rfl⟩
  have HCL := Lib.hid hcl
  clear co hq1 hd1 q1 C1 HD0 HQ0 hcl
  generalize segE exA (idxS exA) = sg at *
  go_wp2_with fail
  refine CO.out.mono ?_
  rintro e w2 ⟨⟨p, rfl, hsg⟩, q2⟩
  have hq2 := HQ1.out.trans q2
  have cb := Build_any (.slice none 0 0) [] w2 (Sl.nil _ _) (by decide) (by simp) (HT.out.stays hq2) (HSP.out.stays hq2)
  rw [show buildS [] = ([], 6) from rfl] at cb
  have CB := Lib.hid cb; have HG2 := Lib.hid hsg; have HQ2 := Lib.hid hq2; have HD2 := Lib.hid (HD1.out.stays q2); have HCL2 := Lib.hid (show _ ∧ _ from ⟨cell_stays q2 HCL.out.1, cell_stays q2 HCL.out.2⟩)
  clear cb hsg hq2 q2 CO HQ1 HD1 HCL
  go_wp2_with fail
  refine CB.out.mono ?_
  rintro e w3 ⟨rfl, q3⟩
  obtain ⟨k1, k2⟩ := (show _ ∧ _ from ⟨cell_stays q3 HCL2.out.1, cell_stays q3 HCL2.out.2⟩)
  have HG3 := Lib.hid (HG2.out.stays q3); have HQ3 := Lib.hid (HQ2.out.trans q3); have HD3 := Lib.hid (HD2.out.stays q3)
  clear q3 CB HG2 HQ2 HD2 HCL2
  go_wp2_with fail
  have cbf : ∀ W v, Docs W v [([120], [98, 32, 97, 49, 32, 98]), ([120], [98, 32, 97, 49, 32, 98])] → Q w W → Calls Tryz.prog 21 #[v] W fun e w' => e = .returned (.tuple #[.string ⟨([] : Bytes).toArray⟩, .int .i64 1]) ∧ Q W w' := fun W v hd hq => by
    have cb := Build_any v _ W hd (by decide) (by decide) (HT.out.stays hq) (HSP.out.stays hq)
    rw [exA_twice] at cb
    exact cb
  have hl4 := docs_lit2' w3 [120] [98, 32, 97, 49, 32, 98] [120] [98, 32, 97, 49, 32, 98] 52
  have ql4 := Q.alloc w3 (.cells #[strV [120], strV [98, 32, 97, 49, 32, 98], strV [120], strV [98, 32, 97, 49, 32, 98]] 52)
  have CBF := Lib.hid cbf; have HL4 := Lib.hid hl4; have QL4 := Lib.hid ql4
  clear cbf hl4 ql4
  go_region_law
    (go_simp; go_at_call 21; refine (CBF.out _ _ (by first | exact HL4.out | exact HL4.out.stays (Q.drew _)) (by first | exact (HQ3.out.trans QL4.out) | exact (HQ3.out.trans QL4.out).trans (Q.drew _))).mono ?_; rintro e w6 ⟨rfl, q6⟩)
  all_goals
    have qq := (QL4.out.trans (Q.drew _)).trans q6
    have HG6 := Lib.hid (HG3.out.stays qq); have HQ6 := Lib.hid (HQ3.out.trans qq); have HD6 := Lib.hid (HD3.out.stays qq)
    clear q6 qq CBF HL4 QL4 HG3 HQ3 HD3 k1 k2
    have co := Open_short [] w6 (by decide)
    have CO := Lib.hid co
    clear co
    go_wp2_with fail
    refine CO.out.mono ?_
    rintro e w7 ⟨rfl, q7⟩
    have HG7 := Lib.hid (HG6.out.stays q7); have HQ7 := Lib.hid (HQ6.out.trans q7); have HD7 := Lib.hid (HD6.out.stays q7)
    clear q7 CO HG6 HQ6 HD6
    have cf := SegFind_any p exA _ [121] w7 HG7.out exA_ok.2
    rw [exA_find] at cf
    have CF := Lib.hid cf
    clear cf
    go_wp2_with fail
    refine CF.out.mono ?_
    rintro e w8 ⟨rfl, rfl⟩
    clear CF
    have ct := Told_any p exA [97, 49] 0 w7 HG7.out (by decide) exA_ok
    rw [exA_p0] at ct
    have CT := Lib.hid ct
    clear ct
    go_wp2_with fail
    refine CT.out.mono ?_
    rintro e w9 ⟨v9, rfl, ht9, q9⟩
    obtain ⟨rs9, hr9, hp9⟩ := ht9.posts
    have hl9 : rs9.length = 2 := by have := congrArg List.length hr9; simpa [postsOf] using this
    obtain ⟨a9, c9, hv9, _⟩ := hp9.value
    rw [hl9] at hv9
    subst hv9
    have HP9 := Lib.hid hp9; have HR9 := Lib.hid hr9
    have HG9 := Lib.hid (HG7.out.stays q9); have HQ9 := Lib.hid (HQ7.out.trans q9); have HD9 := Lib.hid (HD7.out.stays q9)
    clear hp9 hr9 ht9 q9 CT HG7 HQ7 HD7
    go_wp2_with fail
    have qa := ((Q.alloc w9 (.cells #[.int .i64 1] 3)).trans (Q.alloc _ (.cells #[.int .i64 0] 3))).trans (Q.alloc _ (.cells #[.int .i64 0, .slice (some ⟨w9.heap.size, 0, none⟩) 1 1, .int .i64 1, .slice (some ⟨w9.heap.size + 1, 0, none⟩) 1 1] 74))
    have cs := samePosts14_any _ _ rs9 _ _ (HP9.out.stays qa) (posts_two w9 0 1 1 0) (by omega) (by simp) (fun r hr => by
      have h1 : postOf r ∈ postsOf rs9 := List.mem_map.2 ⟨r, hr, rfl⟩
      rw [HR9.out] at h1
      simp only [List.mem_cons, List.not_mem_nil, or_false] at h1
      rcases h1 with h1 | h1 <;> (have := congrArg (fun p : PostL => p.2.length) h1; simp [postOf] at this; omega)) (by simp)
    rw [HR9.out, decide_eq_true (by rfl)] at cs
    refine cs.mono ?_
    rintro e w10 ⟨rfl, q10⟩
    have qb := qa.trans q10
    have HG10 := Lib.hid (HG9.out.stays qb); have HQ10 := Lib.hid (HQ9.out.trans qb); have HD10 := Lib.hid (HD9.out.stays qb)
    clear cs qa qb q10 HG9 HQ9 HD9 HP9 HR9 hl9
    have ct := Told_any p exA [97, 49] 1 w10 HG10.out (by decide) exA_ok
    rw [exA_p1] at ct
    have CT := Lib.hid ct
    clear ct
    go_wp2_with fail
    refine CT.out.mono ?_
    rintro e w9 ⟨v9, rfl, ht9, q9⟩
    obtain ⟨rs9, hr9, hp9⟩ := ht9.posts
    have hl9 : rs9.length = 1 := by have := congrArg List.length hr9; simpa [postsOf] using this
    obtain ⟨a9, c9, hv9, _⟩ := hp9.value
    rw [hl9] at hv9
    subst hv9
    have HP9 := Lib.hid hp9; have HR9 := Lib.hid hr9
    have HG9 := Lib.hid (HG10.out.stays q9); have HQ9 := Lib.hid (HQ10.out.trans q9); have HD9 := Lib.hid (HD10.out.stays q9)
    clear hp9 hr9 ht9 q9 CT HG10 HQ10 HD10
    go_wp2_with fail
    have qa := (Q.alloc w9 (.cells #[.int .i64 0] 3)).trans (Q.alloc _ (.cells #[.int .i64 1, .slice (some ⟨w9.heap.size, 0, none⟩) 1 1] 74))
    have cs := samePosts14_any _ _ rs9 _ _ (HP9.out.stays qa) (posts_one w9 1 [0] 1 rfl) (by omega) (by simp) (fun r hr => by
      have h1 : postOf r ∈ postsOf rs9 := List.mem_map.2 ⟨r, hr, rfl⟩
      rw [HR9.out] at h1
      simp only [List.mem_cons, List.not_mem_nil, or_false] at h1
      (have := congrArg (fun p : PostL => p.2.length) h1; simp [postOf] at this; omega)) (by simp)
    rw [HR9.out, decide_eq_true (by rfl)] at cs
    refine cs.mono ?_
    rintro e w10 ⟨rfl, q10⟩
    have qb := qa.trans q10
    have HG10 := Lib.hid (HG9.out.stays qb); have HQ10 := Lib.hid (HQ9.out.trans qb); have HD10 := Lib.hid (HD9.out.stays qb)
    clear cs qa qb q10 HG9 HQ9 HD9 HP9 HR9 hl9
    have ct := Told_any p exA [98] 0 w10 HG10.out (by decide) exA_ok
    rw [exA_p2] at ct
    have CT := Lib.hid ct
    clear ct
    go_wp2_with fail
    refine CT.out.mono ?_
    rintro e w9 ⟨v9, rfl, ht9, q9⟩
    obtain ⟨rs9, hr9, hp9⟩ := ht9.posts
    have hl9 : rs9.length = 1 := by have := congrArg List.length hr9; simpa [postsOf] using this
    obtain ⟨a9, c9, hv9, _⟩ := hp9.value
    rw [hl9] at hv9
    subst hv9
    have HP9 := Lib.hid hp9; have HR9 := Lib.hid hr9
    have HG9 := Lib.hid (HG10.out.stays q9); have HQ9 := Lib.hid (HQ10.out.trans q9); have HD9 := Lib.hid (HD10.out.stays q9)
    clear hp9 hr9 ht9 q9 CT HG10 HQ10 HD10
    go_wp2_with fail
    have qa := (Q.alloc w9 (.cells #[.int .i64 0, .int .i64 2] 3)).trans (Q.alloc _ (.cells #[.int .i64 0, .slice (some ⟨w9.heap.size, 0, none⟩) 2 2] 74))
    have cs := samePosts14_any _ _ rs9 _ _ (HP9.out.stays qa) (posts_one w9 0 [0, 2] 2 rfl) (by omega) (by simp) (fun r hr => by
      have h1 : postOf r ∈ postsOf rs9 := List.mem_map.2 ⟨r, hr, rfl⟩
      rw [HR9.out] at h1
      simp only [List.mem_cons, List.not_mem_nil, or_false] at h1
      (have := congrArg (fun p : PostL => p.2.length) h1; simp [postOf] at this; omega)) (by simp)
    rw [HR9.out, decide_eq_true (by rfl)] at cs
    refine cs.mono ?_
    rintro e w10 ⟨rfl, q10⟩
    have qb := qa.trans q10
    have HG10 := Lib.hid (HG9.out.stays qb); have HQ10 := Lib.hid (HQ9.out.trans qb); have HD10 := Lib.hid (HD9.out.stays qb)
    clear cs qa qb q10 HG9 HQ9 HD9 HP9 HR9 hl9
    have ct := SegTerms_any p exA [] w10 HG10.out (by decide) exA_ok (by decide)
    rw [exA_all] at ct
    have CT := Lib.hid ct
    clear ct
    go_wp2_with fail
    refine CT.out.mono ?_
    rintro e w11 ⟨v11, rfl, ho11, q11⟩
    obtain ⟨a11, c11, rfl, _⟩ := owns_value ho11
    have HT11 := Lib.hid (show Strs w11 (.slice a11 2 c11) [[97, 49], [98]] from Sl.of_owns ho11)
    have HG11 := Lib.hid (HG10.out.stays q11); have HQ11 := Lib.hid (HQ10.out.trans q11); have HD11 := Lib.hid (HD10.out.stays q11)
    clear ho11 q11 CT HG10 HQ10 HD10
    go_wp2_with fail
    have qa := Q.alloc w11 (.cells #[strV [97, 49], strV [98]] 9)
    have cs := sameTexts14_any _ _ [[97, 49], [98]] [[97, 49], [98]] _ (HT11.out.stays qa) (Sl.lit w11 #[strV [97, 49], strV [98]] 9 2 1 rfl) (by decide) (by decide)
    rw [decide_eq_true rfl] at cs
    refine cs.mono ?_
    rintro e w12 ⟨rfl, q12⟩
    have qb := qa.trans q12
    have HG12 := Lib.hid (HG11.out.stays qb); have HQ12 := Lib.hid (HQ11.out.trans qb); have HD12 := Lib.hid (HD11.out.stays qb)
    clear cs qa qb q12 HG11 HQ11 HD11 HT11
    have cd := SegDocs_any p exA _ w12 HG12.out (by decide)
    have CD := Lib.hid cd
    clear cd
    go_wp2_with fail
    refine CD.out.mono ?_
    rintro e w13 ⟨v13, rfl, ho13, q13⟩
    obtain ⟨a13, c13, rfl, _⟩ := owns_value ho13
    have cs := sameDocs14_any _ _ exA exA w13 (Sl.of_owns ho13) (HD12.out.stays q13) (by decide) (by decide)
    rw [decide_eq_true rfl] at cs
    have CS := Lib.hid cs; have HQ13 := Lib.hid (HQ12.out.trans q13)
    clear cs ho13 q13 CD HG12 HQ12 HD12
    go_wp2_with fail
    refine CS.out.mono ?_
    rintro e w14 ⟨rfl, q14⟩
    have HQ14 := Lib.hid (HQ13.out.trans q14)
    clear q14 CS HQ13
    go_wp2_with fail
    go_ret
    exact ⟨rfl, HQ14.out⟩
end Go.Proofs.YtcblmcbpnakphaaGreatDoor
end
