/- The walk of EvalLazy: it answers true. -/
import Derived.Test.YtokbdleokihdaaaDoorG25
namespace Go.Proofs.YtokbdleokihdaaaDoor
open Go.RowKit

theorem valueF_kv (op : Int) (kv kv' : Value) (kids : List Ex) (env : List (List Dt)) (subs : List Dt) : valueF (callX op kv kids) env subs = valueF (callX op kv' kids) env subs := by
  unfold valueF
  rw [call_right, call_right, call_cnt, call_cnt, call_val, call_val]
set_option maxRecDepth 100000 in
set_option maxHeartbeats 16000000 in
theorem lazy_main {w : World} {bad : Ex} (hx : ExAt w bad) (k i : Int) (s : ByteArray) (hi : -9223372036854775808 ≤ i ∧ i ≤ 9223372036854775807) (hT : Tabs w) (hcnt : bad.cnt ≤ 1000000000) (h : bad.right [] = true) (h2 : bad.cnt = 0) (h3 : rightD ⟨k, i, s⟩ = true) (h4 : ¬ k = 0) :
    Calls Tryd.prog 4 #[bad.v, .agg #[.int .i64 k, .int .i64 i, .string s]] w fun e w' => e = .returned (.bool true) ∧ Below w.heap.size w w' := by
  have hl := lit_at (w := w) (d := ⟨k, i, s⟩) hi
  have hyes : ExAt w yesX := lit_at ⟨by decide, by decide⟩
  have hno : ExAt w noX := lit_at ⟨by decide, by decide⟩
  have HR := Lib.hid (refxright_any hx [] (.slice none 0 0) (nil_env w))
  have HM := Lib.hid (refsubs_any hx hcnt)
  have HO := Lib.hid (fun W hW => refof_all hx [] none 0 0 (nil_env w) hT (by simp) hcnt h [] (Nat.le_of_eq h2) (by simp) W (.slice none 0 0) hW (nil_dats W))
  have c2 : ∀ {a b : Ex}, a.cnt = 0 → b.cnt = 0 → cntL [a, b] ≤ 1000000000 := fun ha hb => by simp [cntL, ha, hb]
  have c3 : ∀ {a b c : Ex}, a.cnt = 0 → b.cnt = 0 → c.cnt = 0 → cntL [a, b, c] ≤ 1000000000 := fun ha hb hc => by simp [cntL, ha, hb, hc]
  have HV1 := Lib.hid (fun W kv => value_new 13 [noX, bad] (⟨1, 0, ⟨#[]⟩⟩, 0) (lazy1 h h2) (by simp) (c2 no_cnt h2) (by simp [hno, hx]) hT W kv)
  have HV2 := Lib.hid (fun W kv => value_new 14 [yesX, bad] (⟨1, 1, ⟨#[]⟩⟩, 0) (lazy2 h h2) (by simp) (c2 yes_cnt h2) (by simp [hyes, hx]) hT W kv)
  have HV3 := Lib.hid (fun W kv => value_new 17 [litX ⟨k, i, s⟩, bad] (⟨k, i, s⟩, 0) (lazy3 h h2 h3 h4) (by simp) (c2 (lit_cnt _) h2) (by simp [hl, hx]) hT W kv)
  have HV4 := Lib.hid (fun W kv => value_new 16 [noX, bad, litX ⟨k, i, s⟩] (⟨k, i, s⟩, 0) (lazy4 h h2 h3) (by simp) (c3 no_cnt h2 (lit_cnt _)) (by simp [hl, hx, hno]) hT W kv)
  have HV5 := Lib.hid (fun W kv => value_new 16 [yesX, litX ⟨k, i, s⟩, bad] (⟨k, i, s⟩, 0) (lazy5 h h2 h3) (by simp) (c3 yes_cnt (lit_cnt _) h2) (by simp [hl, hx, hyes]) hT W kv)
  have HV7 := Lib.hid (fun W kv => value_new 17 [bad, litX ⟨k, i, s⟩] (valueF (callX 17 (.slice none 0 0) [bad, litX ⟨k, i, s⟩]) [] []) (fun kv => valueF_kv _ _ _ _ _ _) (by simp) (c2 h2 (lit_cnt _)) (by simp [hl, hx]) hT W kv)
  have HV8 := Lib.hid (fun W kv => value_new 16 [yesX, bad] (valueF (callX 16 (.slice none 0 0) [yesX, bad]) [] []) (fun kv => valueF_kv _ _ _ _ _ _) (by simp) (c2 yes_cnt h2) (by simp [hyes, hx]) hT W kv)
  have HV9 := Lib.hid (fun W kv => value_new 15 [bad] (valueF (callX 15 (.slice none 0 0) [bad]) [] []) (fun kv => valueF_kv _ _ _ _ _ _) (by simp) (by simp [cntL, h2]) (by simp [hx]) hT W kv)
  have e7 := lazy7 h h2 h3 h4 (.slice none 0 0)
  have e8 := lazy8 h h2 (.slice none 0 0)
  have e9 := lazy9 h h2 hx (.slice none 0 0)
  have e6 := outR_snd (bad.val [] [])

  have b4 : (k == 0) = false := by simpa using h4
  obtain ⟨xk, xt, xn, xl, xlev, xcol, xop, xkv, xsv, xkids⟩ := bad
  obtain ⟨xp, xcap, xps, xns, xcs, rfl, rfl⟩ := hx.slices
  have L0 := Lib.hid (show LZ w [(w.heap.size + 1, #[.int .i64 k, .int .i64 i, .string s]), (w.heap.size, #[.int .i64 xk, .int .i64 xt, .bool xn, .int .i64 xl.k, .int .i64 xl.i, .string xl.s, .int .i64 xlev, .int .i64 xcol, .int .i64 xop, .slice xp xkids.length xcap, .slice xps xns xcs])] _ from ((LZ.start w).pushAt rfl #[.int .i64 xk, .int .i64 xt, .bool xn, .int .i64 xl.k, .int .i64 xl.i, .string xl.s, .int .i64 xlev, .int .i64 xcol, .int .i64 xop, .slice xp xkids.length xcap, .slice xps xns xcs] 27).pushAt (by simp) #[.int .i64 k, .int .i64 i, .string s] 23)
  obtain ⟨dz0, dz1, dz2⟩ := (L0.out.l _ (.head _)).cells3
  have dzl := (L0.out.l _ (.head _)).lt
  obtain ⟨⟨xz0, xz1, xz2, xz3⟩, ⟨xz4, xz5, xz6, xz7⟩, xz8, xz9, xz10⟩ := (L0.out.l _ (.tail _ (.head _))).cells
  have xzl := (L0.out.l _ (.tail _ (.head _))).lt
  simp only [Ex.v] at HR HM HO ⊢
  rw [h] at HR
  rw [h2] at HM
  generalize valueF (callX 17 (.slice none 0 0) [(Ex.node xk xt xn xl xlev xcol xop (.slice xp xkids.length xcap) (.slice xps xns xcs) xkids), litX ⟨k, i, s⟩]) [] [] = R7 at *
  generalize valueF (callX 16 (.slice none 0 0) [yesX, (Ex.node xk xt xn xl xlev xcol xop (.slice xp xkids.length xcap) (.slice xps xns xcs) xkids)]) [] [] = R8 at *
  generalize valueF (callX 15 (.slice none 0 0) [(Ex.node xk xt xn xl xlev xcol xop (.slice xp xkids.length xcap) (.slice xps xns xcs) xkids)]) [] [] = R9 at *
  unfold outV at HO
  generalize outR ((Ex.node xk xt xn xl xlev xcol xop (.slice xp xkids.length xcap) (.slice xps xns xcs) xkids).val [] []) = R6 at *
  generalize ((Ex.node xk xt xn xl xlev xcol xop (.slice xp xkids.length xcap) (.slice xps xns xcs) xkids).val [] []).2 = ve at *
  obtain ⟨⟨k6, i6, s6⟩, v6⟩ := R6
  obtain ⟨⟨k7, i7, s7⟩, v7⟩ := R7
  obtain ⟨⟨k8, i8, s8⟩, v8⟩ := R8
  obtain ⟨⟨k9, i9, s9⟩, v9⟩ := R9
  simp only at e6 e7 e8 e9
  subst e6 e7 e8
  subst e9
  have q1 := eqD_me2 1 0 ⟨#[]⟩
  have q2 := eqD_me2 1 1 ⟨#[]⟩
  have q3 := eqD_me2 k i s
  clear hx hT hi hl hyes hno c2 c3 h h2 h4
  go_enter Tryd.func4, Tryd.ntmps4
  go_wp2_with fail
  refine (HR.out _ L0.out.b).mono ?_
  rintro e w1 ⟨rfl, hb⟩
  have L1 := Lib.hid (L0.out.below hb)
  obtain ⟨dl10, dl11, dl12⟩ := (L1.out.l _ (.head _)).cells3
  have dl1l := (L1.out.l _ (.head _)).lt
  obtain ⟨⟨xl10, xl11, xl12, xl13⟩, ⟨xl14, xl15, xl16, xl17⟩, xl18, xl19, xl110⟩ := (L1.out.l _ (.tail _ (.head _))).cells
  have xl1l := (L1.out.l _ (.tail _ (.head _))).lt
  clear hb dz0 dz1 dz2 dzl xz0 xz1 xz2 xz3 xz4 xz5 xz6 xz7 xz8 xz9 xz10 xzl
  go_wp2_with fail
  refine (HM.out _ L1.out.b).mono ?_
  rintro e w2 ⟨v3, rfl, ⟨g3, cp3, xs3, rfl, -, -⟩, hb⟩
  have L2 := Lib.hid (L1.out.below hb)
  obtain ⟨dl20, dl21, dl22⟩ := (L2.out.l _ (.head _)).cells3
  have dl2l := (L2.out.l _ (.head _)).lt
  obtain ⟨⟨xl20, xl21, xl22, xl23⟩, ⟨xl24, xl25, xl26, xl27⟩, xl28, xl29, xl210⟩ := (L2.out.l _ (.tail _ (.head _))).cells
  have xl2l := (L2.out.l _ (.tail _ (.head _))).lt
  clear hb dl10 dl11 dl12 dl1l xl10 xl11 xl12 xl13 xl14 xl15 xl16 xl17 xl18 xl19 xl110 xl1l
  go_wp2_with fail
  refine (refright_any _ _ _ _).mono ?_
  rintro e w3 ⟨rfl, hb⟩
  have L3 := Lib.hid (L2.out.below hb)
  obtain ⟨dl30, dl31, dl32⟩ := (L3.out.l _ (.head _)).cells3
  have dl3l := (L3.out.l _ (.head _)).lt
  obtain ⟨⟨xl30, xl31, xl32, xl33⟩, ⟨xl34, xl35, xl36, xl37⟩, xl38, xl39, xl310⟩ := (L3.out.l _ (.tail _ (.head _))).cells
  have xl3l := (L3.out.l _ (.tail _ (.head _))).lt
  clear hb dl20 dl21 dl22 dl2l xl20 xl21 xl22 xl23 xl24 xl25 xl26 xl27 xl28 xl29 xl210 xl2l
  clear HR HM
  go_wp2_with fail
  refine (lit_any 1 1 ⟨#[]⟩ _).mono ?_
  rintro e w4 ⟨rfl, hb⟩
  have L4 := Lib.hid (L3.out.below hb)
  obtain ⟨dl40, dl41, dl42⟩ := (L4.out.l _ (.head _)).cells3
  have dl4l := (L4.out.l _ (.head _)).lt
  obtain ⟨⟨xl40, xl41, xl42, xl43⟩, ⟨xl44, xl45, xl46, xl47⟩, xl48, xl49, xl410⟩ := (L4.out.l _ (.tail _ (.head _))).cells
  have xl4l := (L4.out.l _ (.tail _ (.head _))).lt
  clear hb dl30 dl31 dl32 dl3l xl30 xl31 xl32 xl33 xl34 xl35 xl36 xl37 xl38 xl39 xl310 xl3l
  go_wp2_with fail
  refine (lit_any 1 0 ⟨#[]⟩ _).mono ?_
  rintro e w5 ⟨rfl, hb⟩
  have L5 := Lib.hid ((L4.out.push #[.int .i64 1, .int .i64 1, .bool false, .int .i64 1, .int .i64 1, .string ⟨#[]⟩, .int .i64 0, .int .i64 0, .int .i64 0, .slice none 0 0, .slice none 0 0] 27).below hb)
  obtain ⟨⟨yl50, yl51, yl52, yl53⟩, ⟨yl54, yl55, yl56, yl57⟩, yl58, yl59, yl510⟩ := (L5.out.l _ (.head _)).cells
  have yl5l := (L5.out.l _ (.head _)).lt
  obtain ⟨dl50, dl51, dl52⟩ := (L5.out.l _ (.tail _ (.head _))).cells3
  have dl5l := (L5.out.l _ (.tail _ (.head _))).lt
  obtain ⟨⟨xl50, xl51, xl52, xl53⟩, ⟨xl54, xl55, xl56, xl57⟩, xl58, xl59, xl510⟩ := (L5.out.l _ (.tail _ (.tail _ (.head _)))).cells
  have xl5l := (L5.out.l _ (.tail _ (.tail _ (.head _)))).lt
  clear hb dl40 dl41 dl42 dl4l xl40 xl41 xl42 xl43 xl44 xl45 xl46 xl47 xl48 xl49 xl410 xl4l
  go_upto_region 5 with fail
  obtain ⟨wr, hwr⟩ : ∃ u, u = (w5.alloc (.cells #[.int .i64 1, .int .i64 1, .bool false, .int .i64 1, .int .i64 0, .string ⟨#[]⟩, .int .i64 0, .int .i64 0, .int .i64 0, .slice none 0 0, .slice none 0 0] 27)) := ⟨_, rfl⟩
  have LR := Lib.hid (show LZ w [(w5.heap.size, #[.int .i64 1, .int .i64 1, .bool false, .int .i64 1, .int .i64 0, .string ⟨#[]⟩, .int .i64 0, .int .i64 0, .int .i64 0, .slice none 0 0, .slice none 0 0]), (w4.heap.size, #[.int .i64 1, .int .i64 1, .bool false, .int .i64 1, .int .i64 1, .string ⟨#[]⟩, .int .i64 0, .int .i64 0, .int .i64 0, .slice none 0 0, .slice none 0 0]), (w.heap.size + 1, #[.int .i64 k, .int .i64 i, .string s]), (w.heap.size, #[.int .i64 xk, .int .i64 xt, .bool xn, .int .i64 xl.k, .int .i64 xl.i, .string xl.s, .int .i64 xlev, .int .i64 xcol, .int .i64 xop, .slice xp xkids.length xcap, .slice xps xns xcs])] wr by rw [hwr]; exact (L5.out.push #[.int .i64 1, .int .i64 1, .bool false, .int .i64 1, .int .i64 0, .string ⟨#[]⟩, .int .i64 0, .int .i64 0, .int .i64 0, .slice none 0 0, .slice none 0 0] 27))
  rw [← hwr]
  clear hwr yl50 yl51 yl52 yl53 yl54 yl55 yl56 yl57 yl58 yl59 yl510 yl5l dl50 dl51 dl52 dl5l xl50 xl51 xl52 xl53 xl54 xl55 xl56 xl57 xl58 xl59 xl510 xl5l
  obtain ⟨⟨nlr0, nlr1, nlr2, nlr3⟩, ⟨nlr4, nlr5, nlr6, nlr7⟩, nlr8, nlr9, nlr10⟩ := (LR.out.l _ (.head _)).cells
  have nlrl := (LR.out.l _ (.head _)).lt
  obtain ⟨⟨ylr0, ylr1, ylr2, ylr3⟩, ⟨ylr4, ylr5, ylr6, ylr7⟩, ylr8, ylr9, ylr10⟩ := (LR.out.l _ (.tail _ (.head _))).cells
  have ylrl := (LR.out.l _ (.tail _ (.head _))).lt
  obtain ⟨dlr0, dlr1, dlr2⟩ := (LR.out.l _ (.tail _ (.tail _ (.head _)))).cells3
  have dlrl := (LR.out.l _ (.tail _ (.tail _ (.head _)))).lt
  obtain ⟨⟨xlr0, xlr1, xlr2, xlr3⟩, ⟨xlr4, xlr5, xlr6, xlr7⟩, xlr8, xlr9, xlr10⟩ := (LR.out.l _ (.tail _ (.tail _ (.tail _ (.head _))))).cells
  have xlrl := (LR.out.l _ (.tail _ (.tail _ (.tail _ (.head _))))).lt
  go_cut [7, 8] from 25 (fun p q wc => ∃ o : Nat, p = .pointer (some ⟨o, 0, none⟩) ∧ q = .int .i64 0 ∧ LZ w ((o, #[.int .i64 1, .int .i64 0, .string ⟨#[]⟩]) :: [(w5.heap.size, #[.int .i64 1, .int .i64 1, .bool false, .int .i64 1, .int .i64 0, .string ⟨#[]⟩, .int .i64 0, .int .i64 0, .int .i64 0, .slice none 0 0, .slice none 0 0]), (w4.heap.size, #[.int .i64 1, .int .i64 1, .bool false, .int .i64 1, .int .i64 1, .string ⟨#[]⟩, .int .i64 0, .int .i64 0, .int .i64 0, .slice none 0 0, .slice none 0 0]), (w.heap.size + 1, #[.int .i64 k, .int .i64 i, .string s]), (w.heap.size, #[.int .i64 xk, .int .i64 xt, .bool xn, .int .i64 xl.k, .int .i64 xl.i, .string xl.s, .int .i64 xlev, .int .i64 xcol, .int .i64 xop, .slice xp xkids.length xcap, .slice xps xns xcs])]) wc)
  case first =>
    go_wp2_with fail
    refine (callx_any 13 _ _ _ _).mono ?_
    rintro e w1 ⟨rfl, hb⟩
    have KK := Lib.hid ((KN.new _ [noX, (Ex.node xk xt xn xl xlev xcol xop (.slice xp xkids.length xcap) (.slice xps xns xcs) xkids)] _ _ rfl).below hb)
    (try simp only [World.size_alloc] at KK)
    have L1 := Lib.hid ((LR.out.alloc _).below hb)
    clear hb
    go_wp2_with fail
    refine (HV1.out _ _ L1.out.b KK.out).mono ?_
    rintro e w2 ⟨rfl, hb⟩
    have L2 := Lib.hid (L1.out.below hb)
    clear hb
    go_wp2_with fail
    go_meet
    case rel => exact ⟨_, rfl, rfl, L2.out.push #[.int .i64 1, .int .i64 0, .string ⟨#[]⟩] 23⟩
  obtain ⟨o6, rfl, rfl, hL⟩ := hcut
  have L6 := Lib.hid hL
  clear hL LR HV1 nlr0 nlr1 nlr2 nlr3 nlr4 nlr5 nlr6 nlr7 nlr8 nlr9 nlr10 nlrl ylr0 ylr1 ylr2 ylr3 ylr4 ylr5 ylr6 ylr7 ylr8 ylr9 ylr10 ylrl dlr0 dlr1 dlr2 dlrl xlr0 xlr1 xlr2 xlr3 xlr4 xlr5 xlr6 xlr7 xlr8 xlr9 xlr10 xlrl
  obtain ⟨r7l60, r7l61, r7l62⟩ := (L6.out.l _ (.head _)).cells3
  have r7l6l := (L6.out.l _ (.head _)).lt
  obtain ⟨⟨nl60, nl61, nl62, nl63⟩, ⟨nl64, nl65, nl66, nl67⟩, nl68, nl69, nl610⟩ := (L6.out.l _ (.tail _ (.head _))).cells
  have nl6l := (L6.out.l _ (.tail _ (.head _))).lt
  obtain ⟨⟨yl60, yl61, yl62, yl63⟩, ⟨yl64, yl65, yl66, yl67⟩, yl68, yl69, yl610⟩ := (L6.out.l _ (.tail _ (.tail _ (.head _)))).cells
  have yl6l := (L6.out.l _ (.tail _ (.tail _ (.head _)))).lt
  obtain ⟨dl60, dl61, dl62⟩ := (L6.out.l _ (.tail _ (.tail _ (.tail _ (.head _))))).cells3
  have dl6l := (L6.out.l _ (.tail _ (.tail _ (.tail _ (.head _))))).lt
  obtain ⟨⟨xl60, xl61, xl62, xl63⟩, ⟨xl64, xl65, xl66, xl67⟩, xl68, xl69, xl610⟩ := (L6.out.l _ (.tail _ (.tail _ (.tail _ (.tail _ (.head _)))))).cells
  have xl6l := (L6.out.l _ (.tail _ (.tail _ (.tail _ (.tail _ (.head _)))))).lt
  go_upto_region 6 with fail
  obtain ⟨wr, hwr⟩ : ∃ u, u = wc := ⟨_, rfl⟩
  have LR := Lib.hid (show LZ w [(o6, #[.int .i64 1, .int .i64 0, .string ⟨#[]⟩]), (w5.heap.size, #[.int .i64 1, .int .i64 1, .bool false, .int .i64 1, .int .i64 0, .string ⟨#[]⟩, .int .i64 0, .int .i64 0, .int .i64 0, .slice none 0 0, .slice none 0 0]), (w4.heap.size, #[.int .i64 1, .int .i64 1, .bool false, .int .i64 1, .int .i64 1, .string ⟨#[]⟩, .int .i64 0, .int .i64 0, .int .i64 0, .slice none 0 0, .slice none 0 0]), (w.heap.size + 1, #[.int .i64 k, .int .i64 i, .string s]), (w.heap.size, #[.int .i64 xk, .int .i64 xt, .bool xn, .int .i64 xl.k, .int .i64 xl.i, .string xl.s, .int .i64 xlev, .int .i64 xcol, .int .i64 xop, .slice xp xkids.length xcap, .slice xps xns xcs])] wr by rw [hwr]; exact L6.out)
  rw [← hwr]
  clear hwr r7l60 r7l61 r7l62 r7l6l nl60 nl61 nl62 nl63 nl64 nl65 nl66 nl67 nl68 nl69 nl610 nl6l yl60 yl61 yl62 yl63 yl64 yl65 yl66 yl67 yl68 yl69 yl610 yl6l dl60 dl61 dl62 dl6l xl60 xl61 xl62 xl63 xl64 xl65 xl66 xl67 xl68 xl69 xl610 xl6l
  obtain ⟨r7lr0, r7lr1, r7lr2⟩ := (LR.out.l _ (.head _)).cells3
  have r7lrl := (LR.out.l _ (.head _)).lt
  obtain ⟨⟨nlr0, nlr1, nlr2, nlr3⟩, ⟨nlr4, nlr5, nlr6, nlr7⟩, nlr8, nlr9, nlr10⟩ := (LR.out.l _ (.tail _ (.head _))).cells
  have nlrl := (LR.out.l _ (.tail _ (.head _))).lt
  obtain ⟨⟨ylr0, ylr1, ylr2, ylr3⟩, ⟨ylr4, ylr5, ylr6, ylr7⟩, ylr8, ylr9, ylr10⟩ := (LR.out.l _ (.tail _ (.tail _ (.head _)))).cells
  have ylrl := (LR.out.l _ (.tail _ (.tail _ (.head _)))).lt
  obtain ⟨dlr0, dlr1, dlr2⟩ := (LR.out.l _ (.tail _ (.tail _ (.tail _ (.head _))))).cells3
  have dlrl := (LR.out.l _ (.tail _ (.tail _ (.tail _ (.head _))))).lt
  obtain ⟨⟨xlr0, xlr1, xlr2, xlr3⟩, ⟨xlr4, xlr5, xlr6, xlr7⟩, xlr8, xlr9, xlr10⟩ := (LR.out.l _ (.tail _ (.tail _ (.tail _ (.tail _ (.head _)))))).cells
  have xlrl := (LR.out.l _ (.tail _ (.tail _ (.tail _ (.tail _ (.head _)))))).lt
  go_cut [9, 10] from 25 (fun p q wc => ∃ o : Nat, p = .pointer (some ⟨o, 0, none⟩) ∧ q = .int .i64 0 ∧ LZ w ((o, #[.int .i64 1, .int .i64 1, .string ⟨#[]⟩]) :: [(o6, #[.int .i64 1, .int .i64 0, .string ⟨#[]⟩]), (w5.heap.size, #[.int .i64 1, .int .i64 1, .bool false, .int .i64 1, .int .i64 0, .string ⟨#[]⟩, .int .i64 0, .int .i64 0, .int .i64 0, .slice none 0 0, .slice none 0 0]), (w4.heap.size, #[.int .i64 1, .int .i64 1, .bool false, .int .i64 1, .int .i64 1, .string ⟨#[]⟩, .int .i64 0, .int .i64 0, .int .i64 0, .slice none 0 0, .slice none 0 0]), (w.heap.size + 1, #[.int .i64 k, .int .i64 i, .string s]), (w.heap.size, #[.int .i64 xk, .int .i64 xt, .bool xn, .int .i64 xl.k, .int .i64 xl.i, .string xl.s, .int .i64 xlev, .int .i64 xcol, .int .i64 xop, .slice xp xkids.length xcap, .slice xps xns xcs])]) wc)
  case first =>
    go_wp2_with fail
    refine (callx_any 14 _ _ _ _).mono ?_
    rintro e w1 ⟨rfl, hb⟩
    have KK := Lib.hid ((KN.new _ [yesX, (Ex.node xk xt xn xl xlev xcol xop (.slice xp xkids.length xcap) (.slice xps xns xcs) xkids)] _ _ rfl).below hb)
    (try simp only [World.size_alloc] at KK)
    have L1 := Lib.hid ((LR.out.alloc _).below hb)
    clear hb
    go_wp2_with fail
    refine (HV2.out _ _ L1.out.b KK.out).mono ?_
    rintro e w2 ⟨rfl, hb⟩
    have L2 := Lib.hid (L1.out.below hb)
    clear hb
    go_wp2_with fail
    go_meet
    case rel => exact ⟨_, rfl, rfl, L2.out.push #[.int .i64 1, .int .i64 1, .string ⟨#[]⟩] 23⟩
  obtain ⟨o7, rfl, rfl, hL⟩ := hcut
  have L7 := Lib.hid hL
  clear hL LR HV2 r7lr0 r7lr1 r7lr2 r7lrl nlr0 nlr1 nlr2 nlr3 nlr4 nlr5 nlr6 nlr7 nlr8 nlr9 nlr10 nlrl ylr0 ylr1 ylr2 ylr3 ylr4 ylr5 ylr6 ylr7 ylr8 ylr9 ylr10 ylrl dlr0 dlr1 dlr2 dlrl xlr0 xlr1 xlr2 xlr3 xlr4 xlr5 xlr6 xlr7 xlr8 xlr9 xlr10 xlrl
  obtain ⟨r9l70, r9l71, r9l72⟩ := (L7.out.l _ (.head _)).cells3
  have r9l7l := (L7.out.l _ (.head _)).lt
  obtain ⟨r7l70, r7l71, r7l72⟩ := (L7.out.l _ (.tail _ (.head _))).cells3
  have r7l7l := (L7.out.l _ (.tail _ (.head _))).lt
  obtain ⟨⟨nl70, nl71, nl72, nl73⟩, ⟨nl74, nl75, nl76, nl77⟩, nl78, nl79, nl710⟩ := (L7.out.l _ (.tail _ (.tail _ (.head _)))).cells
  have nl7l := (L7.out.l _ (.tail _ (.tail _ (.head _)))).lt
  obtain ⟨⟨yl70, yl71, yl72, yl73⟩, ⟨yl74, yl75, yl76, yl77⟩, yl78, yl79, yl710⟩ := (L7.out.l _ (.tail _ (.tail _ (.tail _ (.head _))))).cells
  have yl7l := (L7.out.l _ (.tail _ (.tail _ (.tail _ (.head _))))).lt
  obtain ⟨dl70, dl71, dl72⟩ := (L7.out.l _ (.tail _ (.tail _ (.tail _ (.tail _ (.head _)))))).cells3
  have dl7l := (L7.out.l _ (.tail _ (.tail _ (.tail _ (.tail _ (.head _)))))).lt
  obtain ⟨⟨xl70, xl71, xl72, xl73⟩, ⟨xl74, xl75, xl76, xl77⟩, xl78, xl79, xl710⟩ := (L7.out.l _ (.tail _ (.tail _ (.tail _ (.tail _ (.tail _ (.head _))))))).cells
  have xl7l := (L7.out.l _ (.tail _ (.tail _ (.tail _ (.tail _ (.tail _ (.head _))))))).lt
  go_upto_region 7 with fail
  obtain ⟨wr, hwr⟩ : ∃ u, u = wc := ⟨_, rfl⟩
  have LR := Lib.hid (show LZ w [(o7, #[.int .i64 1, .int .i64 1, .string ⟨#[]⟩]), (o6, #[.int .i64 1, .int .i64 0, .string ⟨#[]⟩]), (w5.heap.size, #[.int .i64 1, .int .i64 1, .bool false, .int .i64 1, .int .i64 0, .string ⟨#[]⟩, .int .i64 0, .int .i64 0, .int .i64 0, .slice none 0 0, .slice none 0 0]), (w4.heap.size, #[.int .i64 1, .int .i64 1, .bool false, .int .i64 1, .int .i64 1, .string ⟨#[]⟩, .int .i64 0, .int .i64 0, .int .i64 0, .slice none 0 0, .slice none 0 0]), (w.heap.size + 1, #[.int .i64 k, .int .i64 i, .string s]), (w.heap.size, #[.int .i64 xk, .int .i64 xt, .bool xn, .int .i64 xl.k, .int .i64 xl.i, .string xl.s, .int .i64 xlev, .int .i64 xcol, .int .i64 xop, .slice xp xkids.length xcap, .slice xps xns xcs])] wr by rw [hwr]; exact L7.out)
  rw [← hwr]
  clear hwr r9l70 r9l71 r9l72 r9l7l r7l70 r7l71 r7l72 r7l7l nl70 nl71 nl72 nl73 nl74 nl75 nl76 nl77 nl78 nl79 nl710 nl7l yl70 yl71 yl72 yl73 yl74 yl75 yl76 yl77 yl78 yl79 yl710 yl7l dl70 dl71 dl72 dl7l xl70 xl71 xl72 xl73 xl74 xl75 xl76 xl77 xl78 xl79 xl710 xl7l
  go_cut [11, 12] from 25 (fun p q wc => ∃ o : Nat, p = .pointer (some ⟨o, 0, none⟩) ∧ q = .int .i64 0 ∧ LZ w ((o, #[.int .i64 k, .int .i64 i, .string s]) :: [(o7, #[.int .i64 1, .int .i64 1, .string ⟨#[]⟩]), (o6, #[.int .i64 1, .int .i64 0, .string ⟨#[]⟩]), (w5.heap.size, #[.int .i64 1, .int .i64 1, .bool false, .int .i64 1, .int .i64 0, .string ⟨#[]⟩, .int .i64 0, .int .i64 0, .int .i64 0, .slice none 0 0, .slice none 0 0]), (w4.heap.size, #[.int .i64 1, .int .i64 1, .bool false, .int .i64 1, .int .i64 1, .string ⟨#[]⟩, .int .i64 0, .int .i64 0, .int .i64 0, .slice none 0 0, .slice none 0 0]), (w.heap.size + 1, #[.int .i64 k, .int .i64 i, .string s]), (w.heap.size, #[.int .i64 xk, .int .i64 xt, .bool xn, .int .i64 xl.k, .int .i64 xl.i, .string xl.s, .int .i64 xlev, .int .i64 xcol, .int .i64 xop, .slice xp xkids.length xcap, .slice xps xns xcs])]) wc)
  case first =>
    refine lazy_reg7 LR HV3 ?_
    intro o s64 s65 s66 s67 s68 s69 s70 s71 s72 wc hL
    dsimp only
    go_wp2_with fail
    go_meet
    case rel => exact ⟨_, rfl, rfl, hL⟩
  obtain ⟨o8, rfl, rfl, hL⟩ := hcut
  have L8 := Lib.hid hL
  clear hL LR HV3
  obtain ⟨r11l80, r11l81, r11l82⟩ := (L8.out.l _ (.head _)).cells3
  have r11l8l := (L8.out.l _ (.head _)).lt
  obtain ⟨r9l80, r9l81, r9l82⟩ := (L8.out.l _ (.tail _ (.head _))).cells3
  have r9l8l := (L8.out.l _ (.tail _ (.head _))).lt
  obtain ⟨r7l80, r7l81, r7l82⟩ := (L8.out.l _ (.tail _ (.tail _ (.head _)))).cells3
  have r7l8l := (L8.out.l _ (.tail _ (.tail _ (.head _)))).lt
  obtain ⟨⟨nl80, nl81, nl82, nl83⟩, ⟨nl84, nl85, nl86, nl87⟩, nl88, nl89, nl810⟩ := (L8.out.l _ (.tail _ (.tail _ (.tail _ (.head _))))).cells
  have nl8l := (L8.out.l _ (.tail _ (.tail _ (.tail _ (.head _))))).lt
  obtain ⟨⟨yl80, yl81, yl82, yl83⟩, ⟨yl84, yl85, yl86, yl87⟩, yl88, yl89, yl810⟩ := (L8.out.l _ (.tail _ (.tail _ (.tail _ (.tail _ (.head _)))))).cells
  have yl8l := (L8.out.l _ (.tail _ (.tail _ (.tail _ (.tail _ (.head _)))))).lt
  obtain ⟨dl80, dl81, dl82⟩ := (L8.out.l _ (.tail _ (.tail _ (.tail _ (.tail _ (.tail _ (.head _))))))).cells3
  have dl8l := (L8.out.l _ (.tail _ (.tail _ (.tail _ (.tail _ (.tail _ (.head _))))))).lt
  obtain ⟨⟨xl80, xl81, xl82, xl83⟩, ⟨xl84, xl85, xl86, xl87⟩, xl88, xl89, xl810⟩ := (L8.out.l _ (.tail _ (.tail _ (.tail _ (.tail _ (.tail _ (.tail _ (.head _)))))))).cells
  have xl8l := (L8.out.l _ (.tail _ (.tail _ (.tail _ (.tail _ (.tail _ (.tail _ (.head _)))))))).lt
  go_upto_region 8 with fail
  obtain ⟨wr, hwr⟩ : ∃ u, u = wc := ⟨_, rfl⟩
  have LR := Lib.hid (show LZ w [(o8, #[.int .i64 k, .int .i64 i, .string s]), (o7, #[.int .i64 1, .int .i64 1, .string ⟨#[]⟩]), (o6, #[.int .i64 1, .int .i64 0, .string ⟨#[]⟩]), (w5.heap.size, #[.int .i64 1, .int .i64 1, .bool false, .int .i64 1, .int .i64 0, .string ⟨#[]⟩, .int .i64 0, .int .i64 0, .int .i64 0, .slice none 0 0, .slice none 0 0]), (w4.heap.size, #[.int .i64 1, .int .i64 1, .bool false, .int .i64 1, .int .i64 1, .string ⟨#[]⟩, .int .i64 0, .int .i64 0, .int .i64 0, .slice none 0 0, .slice none 0 0]), (w.heap.size + 1, #[.int .i64 k, .int .i64 i, .string s]), (w.heap.size, #[.int .i64 xk, .int .i64 xt, .bool xn, .int .i64 xl.k, .int .i64 xl.i, .string xl.s, .int .i64 xlev, .int .i64 xcol, .int .i64 xop, .slice xp xkids.length xcap, .slice xps xns xcs])] wr by rw [hwr]; exact L8.out)
  rw [← hwr]
  clear hwr r11l80 r11l81 r11l82 r11l8l r9l80 r9l81 r9l82 r9l8l r7l80 r7l81 r7l82 r7l8l nl80 nl81 nl82 nl83 nl84 nl85 nl86 nl87 nl88 nl89 nl810 nl8l yl80 yl81 yl82 yl83 yl84 yl85 yl86 yl87 yl88 yl89 yl810 yl8l dl80 dl81 dl82 dl8l xl80 xl81 xl82 xl83 xl84 xl85 xl86 xl87 xl88 xl89 xl810 xl8l
  go_cut [13, 14] from 25 (fun p q wc => ∃ o : Nat, p = .pointer (some ⟨o, 0, none⟩) ∧ q = .int .i64 0 ∧ LZ w ((o, #[.int .i64 k, .int .i64 i, .string s]) :: [(o8, #[.int .i64 k, .int .i64 i, .string s]), (o7, #[.int .i64 1, .int .i64 1, .string ⟨#[]⟩]), (o6, #[.int .i64 1, .int .i64 0, .string ⟨#[]⟩]), (w5.heap.size, #[.int .i64 1, .int .i64 1, .bool false, .int .i64 1, .int .i64 0, .string ⟨#[]⟩, .int .i64 0, .int .i64 0, .int .i64 0, .slice none 0 0, .slice none 0 0]), (w4.heap.size, #[.int .i64 1, .int .i64 1, .bool false, .int .i64 1, .int .i64 1, .string ⟨#[]⟩, .int .i64 0, .int .i64 0, .int .i64 0, .slice none 0 0, .slice none 0 0]), (w.heap.size + 1, #[.int .i64 k, .int .i64 i, .string s]), (w.heap.size, #[.int .i64 xk, .int .i64 xt, .bool xn, .int .i64 xl.k, .int .i64 xl.i, .string xl.s, .int .i64 xlev, .int .i64 xcol, .int .i64 xop, .slice xp xkids.length xcap, .slice xps xns xcs])]) wc)
  case first =>
    refine lazy_reg8 LR HV4 ?_
    intro o s73 s74 s75 s76 s77 s78 s79 s80 s81 s82 wc hL
    dsimp only
    go_wp2_with fail
    go_meet
    case rel => exact ⟨_, rfl, rfl, hL⟩
  obtain ⟨o9, rfl, rfl, hL⟩ := hcut
  have L9 := Lib.hid hL
  clear hL LR HV4
  obtain ⟨r13l90, r13l91, r13l92⟩ := (L9.out.l _ (.head _)).cells3
  have r13l9l := (L9.out.l _ (.head _)).lt
  obtain ⟨r11l90, r11l91, r11l92⟩ := (L9.out.l _ (.tail _ (.head _))).cells3
  have r11l9l := (L9.out.l _ (.tail _ (.head _))).lt
  obtain ⟨r9l90, r9l91, r9l92⟩ := (L9.out.l _ (.tail _ (.tail _ (.head _)))).cells3
  have r9l9l := (L9.out.l _ (.tail _ (.tail _ (.head _)))).lt
  obtain ⟨r7l90, r7l91, r7l92⟩ := (L9.out.l _ (.tail _ (.tail _ (.tail _ (.head _))))).cells3
  have r7l9l := (L9.out.l _ (.tail _ (.tail _ (.tail _ (.head _))))).lt
  obtain ⟨⟨nl90, nl91, nl92, nl93⟩, ⟨nl94, nl95, nl96, nl97⟩, nl98, nl99, nl910⟩ := (L9.out.l _ (.tail _ (.tail _ (.tail _ (.tail _ (.head _)))))).cells
  have nl9l := (L9.out.l _ (.tail _ (.tail _ (.tail _ (.tail _ (.head _)))))).lt
  obtain ⟨⟨yl90, yl91, yl92, yl93⟩, ⟨yl94, yl95, yl96, yl97⟩, yl98, yl99, yl910⟩ := (L9.out.l _ (.tail _ (.tail _ (.tail _ (.tail _ (.tail _ (.head _))))))).cells
  have yl9l := (L9.out.l _ (.tail _ (.tail _ (.tail _ (.tail _ (.tail _ (.head _))))))).lt
  obtain ⟨dl90, dl91, dl92⟩ := (L9.out.l _ (.tail _ (.tail _ (.tail _ (.tail _ (.tail _ (.tail _ (.head _)))))))).cells3
  have dl9l := (L9.out.l _ (.tail _ (.tail _ (.tail _ (.tail _ (.tail _ (.tail _ (.head _)))))))).lt
  obtain ⟨⟨xl90, xl91, xl92, xl93⟩, ⟨xl94, xl95, xl96, xl97⟩, xl98, xl99, xl910⟩ := (L9.out.l _ (.tail _ (.tail _ (.tail _ (.tail _ (.tail _ (.tail _ (.tail _ (.head _))))))))).cells
  have xl9l := (L9.out.l _ (.tail _ (.tail _ (.tail _ (.tail _ (.tail _ (.tail _ (.tail _ (.head _))))))))).lt
  go_upto_region 9 with fail
  obtain ⟨wr, hwr⟩ : ∃ u, u = wc := ⟨_, rfl⟩
  have LR := Lib.hid (show LZ w [(o9, #[.int .i64 k, .int .i64 i, .string s]), (o8, #[.int .i64 k, .int .i64 i, .string s]), (o7, #[.int .i64 1, .int .i64 1, .string ⟨#[]⟩]), (o6, #[.int .i64 1, .int .i64 0, .string ⟨#[]⟩]), (w5.heap.size, #[.int .i64 1, .int .i64 1, .bool false, .int .i64 1, .int .i64 0, .string ⟨#[]⟩, .int .i64 0, .int .i64 0, .int .i64 0, .slice none 0 0, .slice none 0 0]), (w4.heap.size, #[.int .i64 1, .int .i64 1, .bool false, .int .i64 1, .int .i64 1, .string ⟨#[]⟩, .int .i64 0, .int .i64 0, .int .i64 0, .slice none 0 0, .slice none 0 0]), (w.heap.size + 1, #[.int .i64 k, .int .i64 i, .string s]), (w.heap.size, #[.int .i64 xk, .int .i64 xt, .bool xn, .int .i64 xl.k, .int .i64 xl.i, .string xl.s, .int .i64 xlev, .int .i64 xcol, .int .i64 xop, .slice xp xkids.length xcap, .slice xps xns xcs])] wr by rw [hwr]; exact L9.out)
  rw [← hwr]
  clear hwr r13l90 r13l91 r13l92 r13l9l r11l90 r11l91 r11l92 r11l9l r9l90 r9l91 r9l92 r9l9l r7l90 r7l91 r7l92 r7l9l nl90 nl91 nl92 nl93 nl94 nl95 nl96 nl97 nl98 nl99 nl910 nl9l yl90 yl91 yl92 yl93 yl94 yl95 yl96 yl97 yl98 yl99 yl910 yl9l dl90 dl91 dl92 dl9l xl90 xl91 xl92 xl93 xl94 xl95 xl96 xl97 xl98 xl99 xl910 xl9l
  go_cut [15, 16] from 25 (fun p q wc => ∃ o : Nat, p = .pointer (some ⟨o, 0, none⟩) ∧ q = .int .i64 0 ∧ LZ w ((o, #[.int .i64 k, .int .i64 i, .string s]) :: [(o9, #[.int .i64 k, .int .i64 i, .string s]), (o8, #[.int .i64 k, .int .i64 i, .string s]), (o7, #[.int .i64 1, .int .i64 1, .string ⟨#[]⟩]), (o6, #[.int .i64 1, .int .i64 0, .string ⟨#[]⟩]), (w5.heap.size, #[.int .i64 1, .int .i64 1, .bool false, .int .i64 1, .int .i64 0, .string ⟨#[]⟩, .int .i64 0, .int .i64 0, .int .i64 0, .slice none 0 0, .slice none 0 0]), (w4.heap.size, #[.int .i64 1, .int .i64 1, .bool false, .int .i64 1, .int .i64 1, .string ⟨#[]⟩, .int .i64 0, .int .i64 0, .int .i64 0, .slice none 0 0, .slice none 0 0]), (w.heap.size + 1, #[.int .i64 k, .int .i64 i, .string s]), (w.heap.size, #[.int .i64 xk, .int .i64 xt, .bool xn, .int .i64 xl.k, .int .i64 xl.i, .string xl.s, .int .i64 xlev, .int .i64 xcol, .int .i64 xop, .slice xp xkids.length xcap, .slice xps xns xcs])]) wc)
  case first =>
    refine lazy_reg9 LR HV5 ?_
    intro o s83 s84 s85 s86 s87 s88 s89 s90 s91 s92 wc hL
    dsimp only
    go_wp2_with fail
    go_meet
    case rel => exact ⟨_, rfl, rfl, hL⟩
  obtain ⟨o10, rfl, rfl, hL⟩ := hcut
  have L10 := Lib.hid hL
  clear hL LR HV5
  obtain ⟨r15l100, r15l101, r15l102⟩ := (L10.out.l _ (.head _)).cells3
  have r15l10l := (L10.out.l _ (.head _)).lt
  obtain ⟨r13l100, r13l101, r13l102⟩ := (L10.out.l _ (.tail _ (.head _))).cells3
  have r13l10l := (L10.out.l _ (.tail _ (.head _))).lt
  obtain ⟨r11l100, r11l101, r11l102⟩ := (L10.out.l _ (.tail _ (.tail _ (.head _)))).cells3
  have r11l10l := (L10.out.l _ (.tail _ (.tail _ (.head _)))).lt
  obtain ⟨r9l100, r9l101, r9l102⟩ := (L10.out.l _ (.tail _ (.tail _ (.tail _ (.head _))))).cells3
  have r9l10l := (L10.out.l _ (.tail _ (.tail _ (.tail _ (.head _))))).lt
  obtain ⟨r7l100, r7l101, r7l102⟩ := (L10.out.l _ (.tail _ (.tail _ (.tail _ (.tail _ (.head _)))))).cells3
  have r7l10l := (L10.out.l _ (.tail _ (.tail _ (.tail _ (.tail _ (.head _)))))).lt
  obtain ⟨⟨nl100, nl101, nl102, nl103⟩, ⟨nl104, nl105, nl106, nl107⟩, nl108, nl109, nl1010⟩ := (L10.out.l _ (.tail _ (.tail _ (.tail _ (.tail _ (.tail _ (.head _))))))).cells
  have nl10l := (L10.out.l _ (.tail _ (.tail _ (.tail _ (.tail _ (.tail _ (.head _))))))).lt
  obtain ⟨⟨yl100, yl101, yl102, yl103⟩, ⟨yl104, yl105, yl106, yl107⟩, yl108, yl109, yl1010⟩ := (L10.out.l _ (.tail _ (.tail _ (.tail _ (.tail _ (.tail _ (.tail _ (.head _)))))))).cells
  have yl10l := (L10.out.l _ (.tail _ (.tail _ (.tail _ (.tail _ (.tail _ (.tail _ (.head _)))))))).lt
  obtain ⟨dl100, dl101, dl102⟩ := (L10.out.l _ (.tail _ (.tail _ (.tail _ (.tail _ (.tail _ (.tail _ (.tail _ (.head _))))))))).cells3
  have dl10l := (L10.out.l _ (.tail _ (.tail _ (.tail _ (.tail _ (.tail _ (.tail _ (.tail _ (.head _))))))))).lt
  obtain ⟨⟨xl100, xl101, xl102, xl103⟩, ⟨xl104, xl105, xl106, xl107⟩, xl108, xl109, xl1010⟩ := (L10.out.l _ (.tail _ (.tail _ (.tail _ (.tail _ (.tail _ (.tail _ (.tail _ (.tail _ (.head _)))))))))).cells
  have xl10l := (L10.out.l _ (.tail _ (.tail _ (.tail _ (.tail _ (.tail _ (.tail _ (.tail _ (.tail _ (.head _)))))))))).lt
  go_wp2_with fail
  refine (HO.out _ L10.out.b).mono ?_
  rintro e w11 ⟨rfl, hb⟩
  clear HO
  have L11 := Lib.hid (L10.out.below hb)
  obtain ⟨r15l110, r15l111, r15l112⟩ := (L11.out.l _ (.head _)).cells3
  have r15l11l := (L11.out.l _ (.head _)).lt
  obtain ⟨r13l110, r13l111, r13l112⟩ := (L11.out.l _ (.tail _ (.head _))).cells3
  have r13l11l := (L11.out.l _ (.tail _ (.head _))).lt
  obtain ⟨r11l110, r11l111, r11l112⟩ := (L11.out.l _ (.tail _ (.tail _ (.head _)))).cells3
  have r11l11l := (L11.out.l _ (.tail _ (.tail _ (.head _)))).lt
  obtain ⟨r9l110, r9l111, r9l112⟩ := (L11.out.l _ (.tail _ (.tail _ (.tail _ (.head _))))).cells3
  have r9l11l := (L11.out.l _ (.tail _ (.tail _ (.tail _ (.head _))))).lt
  obtain ⟨r7l110, r7l111, r7l112⟩ := (L11.out.l _ (.tail _ (.tail _ (.tail _ (.tail _ (.head _)))))).cells3
  have r7l11l := (L11.out.l _ (.tail _ (.tail _ (.tail _ (.tail _ (.head _)))))).lt
  obtain ⟨⟨nl110, nl111, nl112, nl113⟩, ⟨nl114, nl115, nl116, nl117⟩, nl118, nl119, nl1110⟩ := (L11.out.l _ (.tail _ (.tail _ (.tail _ (.tail _ (.tail _ (.head _))))))).cells
  have nl11l := (L11.out.l _ (.tail _ (.tail _ (.tail _ (.tail _ (.tail _ (.head _))))))).lt
  obtain ⟨⟨yl110, yl111, yl112, yl113⟩, ⟨yl114, yl115, yl116, yl117⟩, yl118, yl119, yl1110⟩ := (L11.out.l _ (.tail _ (.tail _ (.tail _ (.tail _ (.tail _ (.tail _ (.head _)))))))).cells
  have yl11l := (L11.out.l _ (.tail _ (.tail _ (.tail _ (.tail _ (.tail _ (.tail _ (.head _)))))))).lt
  obtain ⟨dl110, dl111, dl112⟩ := (L11.out.l _ (.tail _ (.tail _ (.tail _ (.tail _ (.tail _ (.tail _ (.tail _ (.head _))))))))).cells3
  have dl11l := (L11.out.l _ (.tail _ (.tail _ (.tail _ (.tail _ (.tail _ (.tail _ (.tail _ (.head _))))))))).lt
  obtain ⟨⟨xl110, xl111, xl112, xl113⟩, ⟨xl114, xl115, xl116, xl117⟩, xl118, xl119, xl1110⟩ := (L11.out.l _ (.tail _ (.tail _ (.tail _ (.tail _ (.tail _ (.tail _ (.tail _ (.tail _ (.head _)))))))))).cells
  have xl11l := (L11.out.l _ (.tail _ (.tail _ (.tail _ (.tail _ (.tail _ (.tail _ (.tail _ (.tail _ (.head _)))))))))).lt
  clear hb r15l100 r15l101 r15l102 r15l10l r13l100 r13l101 r13l102 r13l10l r11l100 r11l101 r11l102 r11l10l r9l100 r9l101 r9l102 r9l10l r7l100 r7l101 r7l102 r7l10l nl100 nl101 nl102 nl103 nl104 nl105 nl106 nl107 nl108 nl109 nl1010 nl10l yl100 yl101 yl102 yl103 yl104 yl105 yl106 yl107 yl108 yl109 yl1010 yl10l dl100 dl101 dl102 dl10l xl100 xl101 xl102 xl103 xl104 xl105 xl106 xl107 xl108 xl109 xl1010 xl10l
  go_upto_region 13 with fail
  obtain ⟨wr, hwr⟩ : ∃ u, u = (w11.alloc (.cells #[.int .i64 k6, .int .i64 i6, .string s6] 23)) := ⟨_, rfl⟩
  have LR := Lib.hid (show LZ w [(w11.heap.size, #[.int .i64 k6, .int .i64 i6, .string s6]), (o10, #[.int .i64 k, .int .i64 i, .string s]), (o9, #[.int .i64 k, .int .i64 i, .string s]), (o8, #[.int .i64 k, .int .i64 i, .string s]), (o7, #[.int .i64 1, .int .i64 1, .string ⟨#[]⟩]), (o6, #[.int .i64 1, .int .i64 0, .string ⟨#[]⟩]), (w5.heap.size, #[.int .i64 1, .int .i64 1, .bool false, .int .i64 1, .int .i64 0, .string ⟨#[]⟩, .int .i64 0, .int .i64 0, .int .i64 0, .slice none 0 0, .slice none 0 0]), (w4.heap.size, #[.int .i64 1, .int .i64 1, .bool false, .int .i64 1, .int .i64 1, .string ⟨#[]⟩, .int .i64 0, .int .i64 0, .int .i64 0, .slice none 0 0, .slice none 0 0]), (w.heap.size + 1, #[.int .i64 k, .int .i64 i, .string s]), (w.heap.size, #[.int .i64 xk, .int .i64 xt, .bool xn, .int .i64 xl.k, .int .i64 xl.i, .string xl.s, .int .i64 xlev, .int .i64 xcol, .int .i64 xop, .slice xp xkids.length xcap, .slice xps xns xcs])] wr by rw [hwr]; exact (L11.out.push #[.int .i64 k6, .int .i64 i6, .string s6] 23))
  rw [← hwr]
  clear hwr r15l110 r15l111 r15l112 r15l11l r13l110 r13l111 r13l112 r13l11l r11l110 r11l111 r11l112 r11l11l r9l110 r9l111 r9l112 r9l11l r7l110 r7l111 r7l112 r7l11l nl110 nl111 nl112 nl113 nl114 nl115 nl116 nl117 nl118 nl119 nl1110 nl11l yl110 yl111 yl112 yl113 yl114 yl115 yl116 yl117 yl118 yl119 yl1110 yl11l dl110 dl111 dl112 dl11l xl110 xl111 xl112 xl113 xl114 xl115 xl116 xl117 xl118 xl119 xl1110 xl11l
  go_cut [19, 20] from 25 (fun p q wc => ∃ o : Nat, p = .pointer (some ⟨o, 0, none⟩) ∧ q = .int .i64 v9 ∧ LZ w ((o, #[.int .i64 k7, .int .i64 i7, .string s7]) :: [(w11.heap.size, #[.int .i64 k6, .int .i64 i6, .string s6]), (o10, #[.int .i64 k, .int .i64 i, .string s]), (o9, #[.int .i64 k, .int .i64 i, .string s]), (o8, #[.int .i64 k, .int .i64 i, .string s]), (o7, #[.int .i64 1, .int .i64 1, .string ⟨#[]⟩]), (o6, #[.int .i64 1, .int .i64 0, .string ⟨#[]⟩]), (w5.heap.size, #[.int .i64 1, .int .i64 1, .bool false, .int .i64 1, .int .i64 0, .string ⟨#[]⟩, .int .i64 0, .int .i64 0, .int .i64 0, .slice none 0 0, .slice none 0 0]), (w4.heap.size, #[.int .i64 1, .int .i64 1, .bool false, .int .i64 1, .int .i64 1, .string ⟨#[]⟩, .int .i64 0, .int .i64 0, .int .i64 0, .slice none 0 0, .slice none 0 0]), (w.heap.size + 1, #[.int .i64 k, .int .i64 i, .string s]), (w.heap.size, #[.int .i64 xk, .int .i64 xt, .bool xn, .int .i64 xl.k, .int .i64 xl.i, .string xl.s, .int .i64 xlev, .int .i64 xcol, .int .i64 xop, .slice xp xkids.length xcap, .slice xps xns xcs])]) wc)
  case first =>
    refine lazy_reg13 LR HV7 ?_
    intro o s143 s144 s145 s146 s147 s148 s149 s150 s151 wc hL
    dsimp only
    go_wp2_with fail
    go_meet
    case rel => exact ⟨_, rfl, rfl, hL⟩
  obtain ⟨o12, rfl, rfl, hL⟩ := hcut
  have L12 := Lib.hid hL
  clear hL LR HV7
  obtain ⟨r19l120, r19l121, r19l122⟩ := (L12.out.l _ (.head _)).cells3
  have r19l12l := (L12.out.l _ (.head _)).lt
  obtain ⟨r17l120, r17l121, r17l122⟩ := (L12.out.l _ (.tail _ (.head _))).cells3
  have r17l12l := (L12.out.l _ (.tail _ (.head _))).lt
  obtain ⟨r15l120, r15l121, r15l122⟩ := (L12.out.l _ (.tail _ (.tail _ (.head _)))).cells3
  have r15l12l := (L12.out.l _ (.tail _ (.tail _ (.head _)))).lt
  obtain ⟨r13l120, r13l121, r13l122⟩ := (L12.out.l _ (.tail _ (.tail _ (.tail _ (.head _))))).cells3
  have r13l12l := (L12.out.l _ (.tail _ (.tail _ (.tail _ (.head _))))).lt
  obtain ⟨r11l120, r11l121, r11l122⟩ := (L12.out.l _ (.tail _ (.tail _ (.tail _ (.tail _ (.head _)))))).cells3
  have r11l12l := (L12.out.l _ (.tail _ (.tail _ (.tail _ (.tail _ (.head _)))))).lt
  obtain ⟨r9l120, r9l121, r9l122⟩ := (L12.out.l _ (.tail _ (.tail _ (.tail _ (.tail _ (.tail _ (.head _))))))).cells3
  have r9l12l := (L12.out.l _ (.tail _ (.tail _ (.tail _ (.tail _ (.tail _ (.head _))))))).lt
  obtain ⟨r7l120, r7l121, r7l122⟩ := (L12.out.l _ (.tail _ (.tail _ (.tail _ (.tail _ (.tail _ (.tail _ (.head _)))))))).cells3
  have r7l12l := (L12.out.l _ (.tail _ (.tail _ (.tail _ (.tail _ (.tail _ (.tail _ (.head _)))))))).lt
  obtain ⟨⟨nl120, nl121, nl122, nl123⟩, ⟨nl124, nl125, nl126, nl127⟩, nl128, nl129, nl1210⟩ := (L12.out.l _ (.tail _ (.tail _ (.tail _ (.tail _ (.tail _ (.tail _ (.tail _ (.head _))))))))).cells
  have nl12l := (L12.out.l _ (.tail _ (.tail _ (.tail _ (.tail _ (.tail _ (.tail _ (.tail _ (.head _))))))))).lt
  obtain ⟨⟨yl120, yl121, yl122, yl123⟩, ⟨yl124, yl125, yl126, yl127⟩, yl128, yl129, yl1210⟩ := (L12.out.l _ (.tail _ (.tail _ (.tail _ (.tail _ (.tail _ (.tail _ (.tail _ (.tail _ (.head _)))))))))).cells
  have yl12l := (L12.out.l _ (.tail _ (.tail _ (.tail _ (.tail _ (.tail _ (.tail _ (.tail _ (.tail _ (.head _)))))))))).lt
  obtain ⟨dl120, dl121, dl122⟩ := (L12.out.l _ (.tail _ (.tail _ (.tail _ (.tail _ (.tail _ (.tail _ (.tail _ (.tail _ (.tail _ (.head _))))))))))).cells3
  have dl12l := (L12.out.l _ (.tail _ (.tail _ (.tail _ (.tail _ (.tail _ (.tail _ (.tail _ (.tail _ (.tail _ (.head _))))))))))).lt
  obtain ⟨⟨xl120, xl121, xl122, xl123⟩, ⟨xl124, xl125, xl126, xl127⟩, xl128, xl129, xl1210⟩ := (L12.out.l _ (.tail _ (.tail _ (.tail _ (.tail _ (.tail _ (.tail _ (.tail _ (.tail _ (.tail _ (.tail _ (.head _)))))))))))).cells
  have xl12l := (L12.out.l _ (.tail _ (.tail _ (.tail _ (.tail _ (.tail _ (.tail _ (.tail _ (.tail _ (.tail _ (.tail _ (.head _)))))))))))).lt
  go_upto_region 14 with fail
  obtain ⟨wr, hwr⟩ : ∃ u, u = wc := ⟨_, rfl⟩
  have LR := Lib.hid (show LZ w [(o12, #[.int .i64 k7, .int .i64 i7, .string s7]), (w11.heap.size, #[.int .i64 k6, .int .i64 i6, .string s6]), (o10, #[.int .i64 k, .int .i64 i, .string s]), (o9, #[.int .i64 k, .int .i64 i, .string s]), (o8, #[.int .i64 k, .int .i64 i, .string s]), (o7, #[.int .i64 1, .int .i64 1, .string ⟨#[]⟩]), (o6, #[.int .i64 1, .int .i64 0, .string ⟨#[]⟩]), (w5.heap.size, #[.int .i64 1, .int .i64 1, .bool false, .int .i64 1, .int .i64 0, .string ⟨#[]⟩, .int .i64 0, .int .i64 0, .int .i64 0, .slice none 0 0, .slice none 0 0]), (w4.heap.size, #[.int .i64 1, .int .i64 1, .bool false, .int .i64 1, .int .i64 1, .string ⟨#[]⟩, .int .i64 0, .int .i64 0, .int .i64 0, .slice none 0 0, .slice none 0 0]), (w.heap.size + 1, #[.int .i64 k, .int .i64 i, .string s]), (w.heap.size, #[.int .i64 xk, .int .i64 xt, .bool xn, .int .i64 xl.k, .int .i64 xl.i, .string xl.s, .int .i64 xlev, .int .i64 xcol, .int .i64 xop, .slice xp xkids.length xcap, .slice xps xns xcs])] wr by rw [hwr]; exact L12.out)
  rw [← hwr]
  clear hwr r19l120 r19l121 r19l122 r19l12l r17l120 r17l121 r17l122 r17l12l r15l120 r15l121 r15l122 r15l12l r13l120 r13l121 r13l122 r13l12l r11l120 r11l121 r11l122 r11l12l r9l120 r9l121 r9l122 r9l12l r7l120 r7l121 r7l122 r7l12l nl120 nl121 nl122 nl123 nl124 nl125 nl126 nl127 nl128 nl129 nl1210 nl12l yl120 yl121 yl122 yl123 yl124 yl125 yl126 yl127 yl128 yl129 yl1210 yl12l dl120 dl121 dl122 dl12l xl120 xl121 xl122 xl123 xl124 xl125 xl126 xl127 xl128 xl129 xl1210 xl12l
  obtain ⟨r19lr0, r19lr1, r19lr2⟩ := (LR.out.l _ (.head _)).cells3
  have r19lrl := (LR.out.l _ (.head _)).lt
  obtain ⟨r17lr0, r17lr1, r17lr2⟩ := (LR.out.l _ (.tail _ (.head _))).cells3
  have r17lrl := (LR.out.l _ (.tail _ (.head _))).lt
  obtain ⟨r15lr0, r15lr1, r15lr2⟩ := (LR.out.l _ (.tail _ (.tail _ (.head _)))).cells3
  have r15lrl := (LR.out.l _ (.tail _ (.tail _ (.head _)))).lt
  obtain ⟨r13lr0, r13lr1, r13lr2⟩ := (LR.out.l _ (.tail _ (.tail _ (.tail _ (.head _))))).cells3
  have r13lrl := (LR.out.l _ (.tail _ (.tail _ (.tail _ (.head _))))).lt
  obtain ⟨r11lr0, r11lr1, r11lr2⟩ := (LR.out.l _ (.tail _ (.tail _ (.tail _ (.tail _ (.head _)))))).cells3
  have r11lrl := (LR.out.l _ (.tail _ (.tail _ (.tail _ (.tail _ (.head _)))))).lt
  obtain ⟨r9lr0, r9lr1, r9lr2⟩ := (LR.out.l _ (.tail _ (.tail _ (.tail _ (.tail _ (.tail _ (.head _))))))).cells3
  have r9lrl := (LR.out.l _ (.tail _ (.tail _ (.tail _ (.tail _ (.tail _ (.head _))))))).lt
  obtain ⟨r7lr0, r7lr1, r7lr2⟩ := (LR.out.l _ (.tail _ (.tail _ (.tail _ (.tail _ (.tail _ (.tail _ (.head _)))))))).cells3
  have r7lrl := (LR.out.l _ (.tail _ (.tail _ (.tail _ (.tail _ (.tail _ (.tail _ (.head _)))))))).lt
  obtain ⟨⟨nlr0, nlr1, nlr2, nlr3⟩, ⟨nlr4, nlr5, nlr6, nlr7⟩, nlr8, nlr9, nlr10⟩ := (LR.out.l _ (.tail _ (.tail _ (.tail _ (.tail _ (.tail _ (.tail _ (.tail _ (.head _))))))))).cells
  have nlrl := (LR.out.l _ (.tail _ (.tail _ (.tail _ (.tail _ (.tail _ (.tail _ (.tail _ (.head _))))))))).lt
  obtain ⟨⟨ylr0, ylr1, ylr2, ylr3⟩, ⟨ylr4, ylr5, ylr6, ylr7⟩, ylr8, ylr9, ylr10⟩ := (LR.out.l _ (.tail _ (.tail _ (.tail _ (.tail _ (.tail _ (.tail _ (.tail _ (.tail _ (.head _)))))))))).cells
  have ylrl := (LR.out.l _ (.tail _ (.tail _ (.tail _ (.tail _ (.tail _ (.tail _ (.tail _ (.tail _ (.head _)))))))))).lt
  obtain ⟨dlr0, dlr1, dlr2⟩ := (LR.out.l _ (.tail _ (.tail _ (.tail _ (.tail _ (.tail _ (.tail _ (.tail _ (.tail _ (.tail _ (.head _))))))))))).cells3
  have dlrl := (LR.out.l _ (.tail _ (.tail _ (.tail _ (.tail _ (.tail _ (.tail _ (.tail _ (.tail _ (.tail _ (.head _))))))))))).lt
  obtain ⟨⟨xlr0, xlr1, xlr2, xlr3⟩, ⟨xlr4, xlr5, xlr6, xlr7⟩, xlr8, xlr9, xlr10⟩ := (LR.out.l _ (.tail _ (.tail _ (.tail _ (.tail _ (.tail _ (.tail _ (.tail _ (.tail _ (.tail _ (.tail _ (.head _)))))))))))).cells
  have xlrl := (LR.out.l _ (.tail _ (.tail _ (.tail _ (.tail _ (.tail _ (.tail _ (.tail _ (.tail _ (.tail _ (.tail _ (.head _)))))))))))).lt
  go_cut [21, 22] from 25 (fun p q wc => ∃ o : Nat, p = .pointer (some ⟨o, 0, none⟩) ∧ q = .int .i64 v9 ∧ LZ w ((o, #[.int .i64 k8, .int .i64 i8, .string s8]) :: [(o12, #[.int .i64 k7, .int .i64 i7, .string s7]), (w11.heap.size, #[.int .i64 k6, .int .i64 i6, .string s6]), (o10, #[.int .i64 k, .int .i64 i, .string s]), (o9, #[.int .i64 k, .int .i64 i, .string s]), (o8, #[.int .i64 k, .int .i64 i, .string s]), (o7, #[.int .i64 1, .int .i64 1, .string ⟨#[]⟩]), (o6, #[.int .i64 1, .int .i64 0, .string ⟨#[]⟩]), (w5.heap.size, #[.int .i64 1, .int .i64 1, .bool false, .int .i64 1, .int .i64 0, .string ⟨#[]⟩, .int .i64 0, .int .i64 0, .int .i64 0, .slice none 0 0, .slice none 0 0]), (w4.heap.size, #[.int .i64 1, .int .i64 1, .bool false, .int .i64 1, .int .i64 1, .string ⟨#[]⟩, .int .i64 0, .int .i64 0, .int .i64 0, .slice none 0 0, .slice none 0 0]), (w.heap.size + 1, #[.int .i64 k, .int .i64 i, .string s]), (w.heap.size, #[.int .i64 xk, .int .i64 xt, .bool xn, .int .i64 xl.k, .int .i64 xl.i, .string xl.s, .int .i64 xlev, .int .i64 xcol, .int .i64 xop, .slice xp xkids.length xcap, .slice xps xns xcs])]) wc)
  case first =>
    go_wp2_with fail
    refine (callx_any 16 _ _ _ _).mono ?_
    rintro e w1 ⟨rfl, hb⟩
    have KK := Lib.hid ((KN.new _ [yesX, (Ex.node xk xt xn xl xlev xcol xop (.slice xp xkids.length xcap) (.slice xps xns xcs) xkids)] _ _ rfl).below hb)
    (try simp only [World.size_alloc] at KK)
    have L1 := Lib.hid ((LR.out.alloc _).below hb)
    clear hb
    go_wp2_with fail
    refine (HV8.out _ _ L1.out.b KK.out).mono ?_
    rintro e w2 ⟨rfl, hb⟩
    have L2 := Lib.hid (L1.out.below hb)
    clear hb
    go_wp2_with fail
    go_meet
    case rel => exact ⟨_, rfl, rfl, L2.out.push #[.int .i64 k8, .int .i64 i8, .string s8] 23⟩
  obtain ⟨o13, rfl, rfl, hL⟩ := hcut
  have L13 := Lib.hid hL
  clear hL LR HV8 r19lr0 r19lr1 r19lr2 r19lrl r17lr0 r17lr1 r17lr2 r17lrl r15lr0 r15lr1 r15lr2 r15lrl r13lr0 r13lr1 r13lr2 r13lrl r11lr0 r11lr1 r11lr2 r11lrl r9lr0 r9lr1 r9lr2 r9lrl r7lr0 r7lr1 r7lr2 r7lrl nlr0 nlr1 nlr2 nlr3 nlr4 nlr5 nlr6 nlr7 nlr8 nlr9 nlr10 nlrl ylr0 ylr1 ylr2 ylr3 ylr4 ylr5 ylr6 ylr7 ylr8 ylr9 ylr10 ylrl dlr0 dlr1 dlr2 dlrl xlr0 xlr1 xlr2 xlr3 xlr4 xlr5 xlr6 xlr7 xlr8 xlr9 xlr10 xlrl
  obtain ⟨r21l130, r21l131, r21l132⟩ := (L13.out.l _ (.head _)).cells3
  have r21l13l := (L13.out.l _ (.head _)).lt
  obtain ⟨r19l130, r19l131, r19l132⟩ := (L13.out.l _ (.tail _ (.head _))).cells3
  have r19l13l := (L13.out.l _ (.tail _ (.head _))).lt
  obtain ⟨r17l130, r17l131, r17l132⟩ := (L13.out.l _ (.tail _ (.tail _ (.head _)))).cells3
  have r17l13l := (L13.out.l _ (.tail _ (.tail _ (.head _)))).lt
  obtain ⟨r15l130, r15l131, r15l132⟩ := (L13.out.l _ (.tail _ (.tail _ (.tail _ (.head _))))).cells3
  have r15l13l := (L13.out.l _ (.tail _ (.tail _ (.tail _ (.head _))))).lt
  obtain ⟨r13l130, r13l131, r13l132⟩ := (L13.out.l _ (.tail _ (.tail _ (.tail _ (.tail _ (.head _)))))).cells3
  have r13l13l := (L13.out.l _ (.tail _ (.tail _ (.tail _ (.tail _ (.head _)))))).lt
  obtain ⟨r11l130, r11l131, r11l132⟩ := (L13.out.l _ (.tail _ (.tail _ (.tail _ (.tail _ (.tail _ (.head _))))))).cells3
  have r11l13l := (L13.out.l _ (.tail _ (.tail _ (.tail _ (.tail _ (.tail _ (.head _))))))).lt
  obtain ⟨r9l130, r9l131, r9l132⟩ := (L13.out.l _ (.tail _ (.tail _ (.tail _ (.tail _ (.tail _ (.tail _ (.head _)))))))).cells3
  have r9l13l := (L13.out.l _ (.tail _ (.tail _ (.tail _ (.tail _ (.tail _ (.tail _ (.head _)))))))).lt
  obtain ⟨r7l130, r7l131, r7l132⟩ := (L13.out.l _ (.tail _ (.tail _ (.tail _ (.tail _ (.tail _ (.tail _ (.tail _ (.head _))))))))).cells3
  have r7l13l := (L13.out.l _ (.tail _ (.tail _ (.tail _ (.tail _ (.tail _ (.tail _ (.tail _ (.head _))))))))).lt
  obtain ⟨⟨nl130, nl131, nl132, nl133⟩, ⟨nl134, nl135, nl136, nl137⟩, nl138, nl139, nl1310⟩ := (L13.out.l _ (.tail _ (.tail _ (.tail _ (.tail _ (.tail _ (.tail _ (.tail _ (.tail _ (.head _)))))))))).cells
  have nl13l := (L13.out.l _ (.tail _ (.tail _ (.tail _ (.tail _ (.tail _ (.tail _ (.tail _ (.tail _ (.head _)))))))))).lt
  obtain ⟨⟨yl130, yl131, yl132, yl133⟩, ⟨yl134, yl135, yl136, yl137⟩, yl138, yl139, yl1310⟩ := (L13.out.l _ (.tail _ (.tail _ (.tail _ (.tail _ (.tail _ (.tail _ (.tail _ (.tail _ (.tail _ (.head _))))))))))).cells
  have yl13l := (L13.out.l _ (.tail _ (.tail _ (.tail _ (.tail _ (.tail _ (.tail _ (.tail _ (.tail _ (.tail _ (.head _))))))))))).lt
  obtain ⟨dl130, dl131, dl132⟩ := (L13.out.l _ (.tail _ (.tail _ (.tail _ (.tail _ (.tail _ (.tail _ (.tail _ (.tail _ (.tail _ (.tail _ (.head _)))))))))))).cells3
  have dl13l := (L13.out.l _ (.tail _ (.tail _ (.tail _ (.tail _ (.tail _ (.tail _ (.tail _ (.tail _ (.tail _ (.tail _ (.head _)))))))))))).lt
  obtain ⟨⟨xl130, xl131, xl132, xl133⟩, ⟨xl134, xl135, xl136, xl137⟩, xl138, xl139, xl1310⟩ := (L13.out.l _ (.tail _ (.tail _ (.tail _ (.tail _ (.tail _ (.tail _ (.tail _ (.tail _ (.tail _ (.tail _ (.tail _ (.head _))))))))))))).cells
  have xl13l := (L13.out.l _ (.tail _ (.tail _ (.tail _ (.tail _ (.tail _ (.tail _ (.tail _ (.tail _ (.tail _ (.tail _ (.tail _ (.head _))))))))))))).lt
  go_upto_region 15 with fail
  obtain ⟨wr, hwr⟩ : ∃ u, u = wc := ⟨_, rfl⟩
  have LR := Lib.hid (show LZ w [(o13, #[.int .i64 k8, .int .i64 i8, .string s8]), (o12, #[.int .i64 k7, .int .i64 i7, .string s7]), (w11.heap.size, #[.int .i64 k6, .int .i64 i6, .string s6]), (o10, #[.int .i64 k, .int .i64 i, .string s]), (o9, #[.int .i64 k, .int .i64 i, .string s]), (o8, #[.int .i64 k, .int .i64 i, .string s]), (o7, #[.int .i64 1, .int .i64 1, .string ⟨#[]⟩]), (o6, #[.int .i64 1, .int .i64 0, .string ⟨#[]⟩]), (w5.heap.size, #[.int .i64 1, .int .i64 1, .bool false, .int .i64 1, .int .i64 0, .string ⟨#[]⟩, .int .i64 0, .int .i64 0, .int .i64 0, .slice none 0 0, .slice none 0 0]), (w4.heap.size, #[.int .i64 1, .int .i64 1, .bool false, .int .i64 1, .int .i64 1, .string ⟨#[]⟩, .int .i64 0, .int .i64 0, .int .i64 0, .slice none 0 0, .slice none 0 0]), (w.heap.size + 1, #[.int .i64 k, .int .i64 i, .string s]), (w.heap.size, #[.int .i64 xk, .int .i64 xt, .bool xn, .int .i64 xl.k, .int .i64 xl.i, .string xl.s, .int .i64 xlev, .int .i64 xcol, .int .i64 xop, .slice xp xkids.length xcap, .slice xps xns xcs])] wr by rw [hwr]; exact L13.out)
  rw [← hwr]
  clear hwr r21l130 r21l131 r21l132 r21l13l r19l130 r19l131 r19l132 r19l13l r17l130 r17l131 r17l132 r17l13l r15l130 r15l131 r15l132 r15l13l r13l130 r13l131 r13l132 r13l13l r11l130 r11l131 r11l132 r11l13l r9l130 r9l131 r9l132 r9l13l r7l130 r7l131 r7l132 r7l13l nl130 nl131 nl132 nl133 nl134 nl135 nl136 nl137 nl138 nl139 nl1310 nl13l yl130 yl131 yl132 yl133 yl134 yl135 yl136 yl137 yl138 yl139 yl1310 yl13l dl130 dl131 dl132 dl13l xl130 xl131 xl132 xl133 xl134 xl135 xl136 xl137 xl138 xl139 xl1310 xl13l
  obtain ⟨r21lr0, r21lr1, r21lr2⟩ := (LR.out.l _ (.head _)).cells3
  have r21lrl := (LR.out.l _ (.head _)).lt
  obtain ⟨r19lr0, r19lr1, r19lr2⟩ := (LR.out.l _ (.tail _ (.head _))).cells3
  have r19lrl := (LR.out.l _ (.tail _ (.head _))).lt
  obtain ⟨r17lr0, r17lr1, r17lr2⟩ := (LR.out.l _ (.tail _ (.tail _ (.head _)))).cells3
  have r17lrl := (LR.out.l _ (.tail _ (.tail _ (.head _)))).lt
  obtain ⟨r15lr0, r15lr1, r15lr2⟩ := (LR.out.l _ (.tail _ (.tail _ (.tail _ (.head _))))).cells3
  have r15lrl := (LR.out.l _ (.tail _ (.tail _ (.tail _ (.head _))))).lt
  obtain ⟨r13lr0, r13lr1, r13lr2⟩ := (LR.out.l _ (.tail _ (.tail _ (.tail _ (.tail _ (.head _)))))).cells3
  have r13lrl := (LR.out.l _ (.tail _ (.tail _ (.tail _ (.tail _ (.head _)))))).lt
  obtain ⟨r11lr0, r11lr1, r11lr2⟩ := (LR.out.l _ (.tail _ (.tail _ (.tail _ (.tail _ (.tail _ (.head _))))))).cells3
  have r11lrl := (LR.out.l _ (.tail _ (.tail _ (.tail _ (.tail _ (.tail _ (.head _))))))).lt
  obtain ⟨r9lr0, r9lr1, r9lr2⟩ := (LR.out.l _ (.tail _ (.tail _ (.tail _ (.tail _ (.tail _ (.tail _ (.head _)))))))).cells3
  have r9lrl := (LR.out.l _ (.tail _ (.tail _ (.tail _ (.tail _ (.tail _ (.tail _ (.head _)))))))).lt
  obtain ⟨r7lr0, r7lr1, r7lr2⟩ := (LR.out.l _ (.tail _ (.tail _ (.tail _ (.tail _ (.tail _ (.tail _ (.tail _ (.head _))))))))).cells3
  have r7lrl := (LR.out.l _ (.tail _ (.tail _ (.tail _ (.tail _ (.tail _ (.tail _ (.tail _ (.head _))))))))).lt
  obtain ⟨⟨nlr0, nlr1, nlr2, nlr3⟩, ⟨nlr4, nlr5, nlr6, nlr7⟩, nlr8, nlr9, nlr10⟩ := (LR.out.l _ (.tail _ (.tail _ (.tail _ (.tail _ (.tail _ (.tail _ (.tail _ (.tail _ (.head _)))))))))).cells
  have nlrl := (LR.out.l _ (.tail _ (.tail _ (.tail _ (.tail _ (.tail _ (.tail _ (.tail _ (.tail _ (.head _)))))))))).lt
  obtain ⟨⟨ylr0, ylr1, ylr2, ylr3⟩, ⟨ylr4, ylr5, ylr6, ylr7⟩, ylr8, ylr9, ylr10⟩ := (LR.out.l _ (.tail _ (.tail _ (.tail _ (.tail _ (.tail _ (.tail _ (.tail _ (.tail _ (.tail _ (.head _))))))))))).cells
  have ylrl := (LR.out.l _ (.tail _ (.tail _ (.tail _ (.tail _ (.tail _ (.tail _ (.tail _ (.tail _ (.tail _ (.head _))))))))))).lt
  obtain ⟨dlr0, dlr1, dlr2⟩ := (LR.out.l _ (.tail _ (.tail _ (.tail _ (.tail _ (.tail _ (.tail _ (.tail _ (.tail _ (.tail _ (.tail _ (.head _)))))))))))).cells3
  have dlrl := (LR.out.l _ (.tail _ (.tail _ (.tail _ (.tail _ (.tail _ (.tail _ (.tail _ (.tail _ (.tail _ (.tail _ (.head _)))))))))))).lt
  obtain ⟨⟨xlr0, xlr1, xlr2, xlr3⟩, ⟨xlr4, xlr5, xlr6, xlr7⟩, xlr8, xlr9, xlr10⟩ := (LR.out.l _ (.tail _ (.tail _ (.tail _ (.tail _ (.tail _ (.tail _ (.tail _ (.tail _ (.tail _ (.tail _ (.tail _ (.head _))))))))))))).cells
  have xlrl := (LR.out.l _ (.tail _ (.tail _ (.tail _ (.tail _ (.tail _ (.tail _ (.tail _ (.tail _ (.tail _ (.tail _ (.tail _ (.head _))))))))))))).lt
  go_cut [23, 24] from 25 (fun p q wc => ∃ o : Nat, p = .pointer (some ⟨o, 0, none⟩) ∧ q = .int .i64 v9 ∧ LZ w ((o, #[.int .i64 k9, .int .i64 i9, .string s9]) :: [(o13, #[.int .i64 k8, .int .i64 i8, .string s8]), (o12, #[.int .i64 k7, .int .i64 i7, .string s7]), (w11.heap.size, #[.int .i64 k6, .int .i64 i6, .string s6]), (o10, #[.int .i64 k, .int .i64 i, .string s]), (o9, #[.int .i64 k, .int .i64 i, .string s]), (o8, #[.int .i64 k, .int .i64 i, .string s]), (o7, #[.int .i64 1, .int .i64 1, .string ⟨#[]⟩]), (o6, #[.int .i64 1, .int .i64 0, .string ⟨#[]⟩]), (w5.heap.size, #[.int .i64 1, .int .i64 1, .bool false, .int .i64 1, .int .i64 0, .string ⟨#[]⟩, .int .i64 0, .int .i64 0, .int .i64 0, .slice none 0 0, .slice none 0 0]), (w4.heap.size, #[.int .i64 1, .int .i64 1, .bool false, .int .i64 1, .int .i64 1, .string ⟨#[]⟩, .int .i64 0, .int .i64 0, .int .i64 0, .slice none 0 0, .slice none 0 0]), (w.heap.size + 1, #[.int .i64 k, .int .i64 i, .string s]), (w.heap.size, #[.int .i64 xk, .int .i64 xt, .bool xn, .int .i64 xl.k, .int .i64 xl.i, .string xl.s, .int .i64 xlev, .int .i64 xcol, .int .i64 xop, .slice xp xkids.length xcap, .slice xps xns xcs])]) wc)
  case first =>
    go_wp2_with fail
    refine (callx_any 15 _ _ _ _).mono ?_
    rintro e w1 ⟨rfl, hb⟩
    have KK := Lib.hid ((KN.new _ [(Ex.node xk xt xn xl xlev xcol xop (.slice xp xkids.length xcap) (.slice xps xns xcs) xkids)] _ _ rfl).below hb)
    (try simp only [World.size_alloc] at KK)
    have L1 := Lib.hid ((LR.out.alloc _).below hb)
    clear hb
    go_wp2_with fail
    refine (HV9.out _ _ L1.out.b KK.out).mono ?_
    rintro e w2 ⟨rfl, hb⟩
    have L2 := Lib.hid (L1.out.below hb)
    clear hb
    go_wp2_with fail
    go_meet
    case rel => exact ⟨_, rfl, rfl, L2.out.push #[.int .i64 k9, .int .i64 i9, .string s9] 23⟩
  obtain ⟨o14, rfl, rfl, hL⟩ := hcut
  have L14 := Lib.hid hL
  clear hL LR HV9 r21lr0 r21lr1 r21lr2 r21lrl r19lr0 r19lr1 r19lr2 r19lrl r17lr0 r17lr1 r17lr2 r17lrl r15lr0 r15lr1 r15lr2 r15lrl r13lr0 r13lr1 r13lr2 r13lrl r11lr0 r11lr1 r11lr2 r11lrl r9lr0 r9lr1 r9lr2 r9lrl r7lr0 r7lr1 r7lr2 r7lrl nlr0 nlr1 nlr2 nlr3 nlr4 nlr5 nlr6 nlr7 nlr8 nlr9 nlr10 nlrl ylr0 ylr1 ylr2 ylr3 ylr4 ylr5 ylr6 ylr7 ylr8 ylr9 ylr10 ylrl dlr0 dlr1 dlr2 dlrl xlr0 xlr1 xlr2 xlr3 xlr4 xlr5 xlr6 xlr7 xlr8 xlr9 xlr10 xlrl
  obtain ⟨r23l140, r23l141, r23l142⟩ := (L14.out.l _ (.head _)).cells3
  have r23l14l := (L14.out.l _ (.head _)).lt
  obtain ⟨r21l140, r21l141, r21l142⟩ := (L14.out.l _ (.tail _ (.head _))).cells3
  have r21l14l := (L14.out.l _ (.tail _ (.head _))).lt
  obtain ⟨r19l140, r19l141, r19l142⟩ := (L14.out.l _ (.tail _ (.tail _ (.head _)))).cells3
  have r19l14l := (L14.out.l _ (.tail _ (.tail _ (.head _)))).lt
  obtain ⟨r17l140, r17l141, r17l142⟩ := (L14.out.l _ (.tail _ (.tail _ (.tail _ (.head _))))).cells3
  have r17l14l := (L14.out.l _ (.tail _ (.tail _ (.tail _ (.head _))))).lt
  obtain ⟨r15l140, r15l141, r15l142⟩ := (L14.out.l _ (.tail _ (.tail _ (.tail _ (.tail _ (.head _)))))).cells3
  have r15l14l := (L14.out.l _ (.tail _ (.tail _ (.tail _ (.tail _ (.head _)))))).lt
  obtain ⟨r13l140, r13l141, r13l142⟩ := (L14.out.l _ (.tail _ (.tail _ (.tail _ (.tail _ (.tail _ (.head _))))))).cells3
  have r13l14l := (L14.out.l _ (.tail _ (.tail _ (.tail _ (.tail _ (.tail _ (.head _))))))).lt
  obtain ⟨r11l140, r11l141, r11l142⟩ := (L14.out.l _ (.tail _ (.tail _ (.tail _ (.tail _ (.tail _ (.tail _ (.head _)))))))).cells3
  have r11l14l := (L14.out.l _ (.tail _ (.tail _ (.tail _ (.tail _ (.tail _ (.tail _ (.head _)))))))).lt
  obtain ⟨r9l140, r9l141, r9l142⟩ := (L14.out.l _ (.tail _ (.tail _ (.tail _ (.tail _ (.tail _ (.tail _ (.tail _ (.head _))))))))).cells3
  have r9l14l := (L14.out.l _ (.tail _ (.tail _ (.tail _ (.tail _ (.tail _ (.tail _ (.tail _ (.head _))))))))).lt
  obtain ⟨r7l140, r7l141, r7l142⟩ := (L14.out.l _ (.tail _ (.tail _ (.tail _ (.tail _ (.tail _ (.tail _ (.tail _ (.tail _ (.head _)))))))))).cells3
  have r7l14l := (L14.out.l _ (.tail _ (.tail _ (.tail _ (.tail _ (.tail _ (.tail _ (.tail _ (.tail _ (.head _)))))))))).lt
  obtain ⟨⟨nl140, nl141, nl142, nl143⟩, ⟨nl144, nl145, nl146, nl147⟩, nl148, nl149, nl1410⟩ := (L14.out.l _ (.tail _ (.tail _ (.tail _ (.tail _ (.tail _ (.tail _ (.tail _ (.tail _ (.tail _ (.head _))))))))))).cells
  have nl14l := (L14.out.l _ (.tail _ (.tail _ (.tail _ (.tail _ (.tail _ (.tail _ (.tail _ (.tail _ (.tail _ (.head _))))))))))).lt
  obtain ⟨⟨yl140, yl141, yl142, yl143⟩, ⟨yl144, yl145, yl146, yl147⟩, yl148, yl149, yl1410⟩ := (L14.out.l _ (.tail _ (.tail _ (.tail _ (.tail _ (.tail _ (.tail _ (.tail _ (.tail _ (.tail _ (.tail _ (.head _)))))))))))).cells
  have yl14l := (L14.out.l _ (.tail _ (.tail _ (.tail _ (.tail _ (.tail _ (.tail _ (.tail _ (.tail _ (.tail _ (.tail _ (.head _)))))))))))).lt
  obtain ⟨dl140, dl141, dl142⟩ := (L14.out.l _ (.tail _ (.tail _ (.tail _ (.tail _ (.tail _ (.tail _ (.tail _ (.tail _ (.tail _ (.tail _ (.tail _ (.head _))))))))))))).cells3
  have dl14l := (L14.out.l _ (.tail _ (.tail _ (.tail _ (.tail _ (.tail _ (.tail _ (.tail _ (.tail _ (.tail _ (.tail _ (.tail _ (.head _))))))))))))).lt
  obtain ⟨⟨xl140, xl141, xl142, xl143⟩, ⟨xl144, xl145, xl146, xl147⟩, xl148, xl149, xl1410⟩ := (L14.out.l _ (.tail _ (.tail _ (.tail _ (.tail _ (.tail _ (.tail _ (.tail _ (.tail _ (.tail _ (.tail _ (.tail _ (.tail _ (.head _)))))))))))))).cells
  have xl14l := (L14.out.l _ (.tail _ (.tail _ (.tail _ (.tail _ (.tail _ (.tail _ (.tail _ (.tail _ (.tail _ (.tail _ (.tail _ (.tail _ (.head _)))))))))))))).lt
  go_wp2_with fail
  go_ret
  exact ⟨rfl, L14.out.b⟩
end Go.Proofs.YtokbdleokihdaaaDoor
