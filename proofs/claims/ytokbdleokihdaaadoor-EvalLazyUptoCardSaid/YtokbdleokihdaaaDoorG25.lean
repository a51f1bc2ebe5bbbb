/- The walk of EvalLazy: it answers true. The statements of EvalLazy that draw their order. -/
import Derived.Test.YtokbdleokihdaaaDoorG22
import Derived.Test.YtokbdleokihdaaaDoorEwV
namespace Go.Proofs.YtokbdleokihdaaaDoor
open Go.RowKit

theorem eqD_me2 (k i : Int) (s : ByteArray) : eqD k i s k i s = true := eqD_iff.2 ⟨rfl, rfl, rfl⟩
set_option maxRecDepth 100000 in
set_option maxHeartbeats 16000000 in
theorem lazy_noright {w : World} {bad : Ex} (hx : ExAt w bad) (k i : Int) (s : ByteArray) (h : bad.right [] = false) :
    Calls Tryd.prog 4 #[bad.v, .agg #[.int .i64 k, .int .i64 i, .string s]] w fun e w' => e = .returned (.bool true) ∧ Below w.heap.size w w' := by
  have HR := Lib.hid (refxright_any hx [] (.slice none 0 0) (nil_env w))
  obtain ⟨xk, xt, xn, xl, xlev, xcol, xop, xkv, xsv, xkids⟩ := bad
  obtain ⟨xp, xcap, xps, xns, xcs, rfl, rfl⟩ := hx.slices
  have L0 := Lib.hid (show LZ w [(w.heap.size + 1, #[.int .i64 k, .int .i64 i, .string s]), (w.heap.size, #[.int .i64 xk, .int .i64 xt, .bool xn, .int .i64 xl.k, .int .i64 xl.i, .string xl.s, .int .i64 xlev, .int .i64 xcol, .int .i64 xop, .slice xp xkids.length xcap, .slice xps xns xcs])] _ from ((LZ.start w).pushAt rfl #[.int .i64 xk, .int .i64 xt, .bool xn, .int .i64 xl.k, .int .i64 xl.i, .string xl.s, .int .i64 xlev, .int .i64 xcol, .int .i64 xop, .slice xp xkids.length xcap, .slice xps xns xcs] 27).pushAt (by simp) #[.int .i64 k, .int .i64 i, .string s] 23)
  obtain ⟨dz0, dz1, dz2⟩ := (L0.out.l _ (.head _)).cells3
  have dzl := (L0.out.l _ (.head _)).lt
  obtain ⟨⟨xz0, xz1, xz2, xz3⟩, ⟨xz4, xz5, xz6, xz7⟩, xz8, xz9, xz10⟩ := (L0.out.l _ (.tail _ (.head _))).cells
  have xzl := (L0.out.l _ (.tail _ (.head _))).lt
  simp only [Ex.v] at HR ⊢
  rw [h] at HR
  clear hx
  go_enter Tryd.func4, Tryd.ntmps4
  go_wp2_with fail
  refine (HR.out _ L0.out.b).mono ?_
  rintro e wL1 ⟨rfl, hb⟩
  have L1 := Lib.hid (L0.out.below hb)
  obtain ⟨dl10, dl11, dl12⟩ := (L1.out.l _ (.head _)).cells3
  have dl1l := (L1.out.l _ (.head _)).lt
  obtain ⟨⟨xl10, xl11, xl12, xl13⟩, ⟨xl14, xl15, xl16, xl17⟩, xl18, xl19, xl110⟩ := (L1.out.l _ (.tail _ (.head _))).cells
  have xl1l := (L1.out.l _ (.tail _ (.head _))).lt
  clear hb dz0 dz1 dz2 dzl xz0 xz1 xz2 xz3 xz4 xz5 xz6 xz7 xz8 xz9 xz10 xzl
  go_wp2_with fail
  go_ret
  exact ⟨rfl, L1.out.b⟩
set_option maxRecDepth 100000 in
set_option maxHeartbeats 16000000 in
theorem lazy_subs {w : World} {bad : Ex} (hx : ExAt w bad) (k i : Int) (s : ByteArray) (hcnt : bad.cnt ≤ 1000000000) (h : bad.right [] = true) (h2 : ¬ bad.cnt = 0) :
    Calls Tryd.prog 4 #[bad.v, .agg #[.int .i64 k, .int .i64 i, .string s]] w fun e w' => e = .returned (.bool true) ∧ Below w.heap.size w w' := by
  have HR := Lib.hid (refxright_any hx [] (.slice none 0 0) (nil_env w))
  have HM := Lib.hid (refsubs_any hx hcnt)
  obtain ⟨xk, xt, xn, xl, xlev, xcol, xop, xkv, xsv, xkids⟩ := bad
  obtain ⟨xp, xcap, xps, xns, xcs, rfl, rfl⟩ := hx.slices
  have L0 := Lib.hid (show LZ w [(w.heap.size + 1, #[.int .i64 k, .int .i64 i, .string s]), (w.heap.size, #[.int .i64 xk, .int .i64 xt, .bool xn, .int .i64 xl.k, .int .i64 xl.i, .string xl.s, .int .i64 xlev, .int .i64 xcol, .int .i64 xop, .slice xp xkids.length xcap, .slice xps xns xcs])] _ from ((LZ.start w).pushAt rfl #[.int .i64 xk, .int .i64 xt, .bool xn, .int .i64 xl.k, .int .i64 xl.i, .string xl.s, .int .i64 xlev, .int .i64 xcol, .int .i64 xop, .slice xp xkids.length xcap, .slice xps xns xcs] 27).pushAt (by simp) #[.int .i64 k, .int .i64 i, .string s] 23)
  obtain ⟨dz0, dz1, dz2⟩ := (L0.out.l _ (.head _)).cells3
  have dzl := (L0.out.l _ (.head _)).lt
  obtain ⟨⟨xz0, xz1, xz2, xz3⟩, ⟨xz4, xz5, xz6, xz7⟩, xz8, xz9, xz10⟩ := (L0.out.l _ (.tail _ (.head _))).cells
  have xzl := (L0.out.l _ (.tail _ (.head _))).lt
  simp only [Ex.v] at HR HM ⊢
  rw [h] at HR
  have bc : (((Ex.node xk xt xn xl xlev xcol xop (.slice xp xkids.length xcap) (.slice xps xns xcs) xkids).cnt : Int) == 0) = false := by simp; omega
  generalize (Ex.node xk xt xn xl xlev xcol xop (.slice xp xkids.length xcap) (.slice xps xns xcs) xkids).cnt = C at *
  clear hx
  go_enter Tryd.func4, Tryd.ntmps4
  go_wp2_with fail
  refine (HR.out _ L0.out.b).mono ?_
  rintro e wL1 ⟨rfl, hb⟩
  have L1 := Lib.hid (L0.out.below hb)
  obtain ⟨dl10, dl11, dl12⟩ := (L1.out.l _ (.head _)).cells3
  have dl1l := (L1.out.l _ (.head _)).lt
  obtain ⟨⟨xl10, xl11, xl12, xl13⟩, ⟨xl14, xl15, xl16, xl17⟩, xl18, xl19, xl110⟩ := (L1.out.l _ (.tail _ (.head _))).cells
  have xl1l := (L1.out.l _ (.tail _ (.head _))).lt
  clear hb dz0 dz1 dz2 dzl xz0 xz1 xz2 xz3 xz4 xz5 xz6 xz7 xz8 xz9 xz10 xzl
  go_wp2_with fail
  refine (HM.out _ L1.out.b).mono ?_
  rintro e wL2 ⟨v3, rfl, ⟨g3, cp3, xs3, rfl, -, -⟩, hb⟩
  have L2 := Lib.hid (L1.out.below hb)
  obtain ⟨dl20, dl21, dl22⟩ := (L2.out.l _ (.head _)).cells3
  have dl2l := (L2.out.l _ (.head _)).lt
  obtain ⟨⟨xl20, xl21, xl22, xl23⟩, ⟨xl24, xl25, xl26, xl27⟩, xl28, xl29, xl210⟩ := (L2.out.l _ (.tail _ (.head _))).cells
  have xl2l := (L2.out.l _ (.tail _ (.head _))).lt
  clear hb dl10 dl11 dl12 dl1l xl10 xl11 xl12 xl13 xl14 xl15 xl16 xl17 xl18 xl19 xl110 xl1l
  go_wp2_with fail
  go_ret
  exact ⟨rfl, L2.out.b⟩
set_option maxRecDepth 100000 in
set_option maxHeartbeats 16000000 in
theorem lazy_nod {w : World} {bad : Ex} (hx : ExAt w bad) (k i : Int) (s : ByteArray) (hcnt : bad.cnt ≤ 1000000000) (h : bad.right [] = true) (h2 : bad.cnt = 0) (h3 : rightD ⟨k, i, s⟩ = false) :
    Calls Tryd.prog 4 #[bad.v, .agg #[.int .i64 k, .int .i64 i, .string s]] w fun e w' => e = .returned (.bool true) ∧ Below w.heap.size w w' := by
  have HR := Lib.hid (refxright_any hx [] (.slice none 0 0) (nil_env w))
  have HM := Lib.hid (refsubs_any hx hcnt)
  obtain ⟨xk, xt, xn, xl, xlev, xcol, xop, xkv, xsv, xkids⟩ := bad
  obtain ⟨xp, xcap, xps, xns, xcs, rfl, rfl⟩ := hx.slices
  have L0 := Lib.hid (show LZ w [(w.heap.size + 1, #[.int .i64 k, .int .i64 i, .string s]), (w.heap.size, #[.int .i64 xk, .int .i64 xt, .bool xn, .int .i64 xl.k, .int .i64 xl.i, .string xl.s, .int .i64 xlev, .int .i64 xcol, .int .i64 xop, .slice xp xkids.length xcap, .slice xps xns xcs])] _ from ((LZ.start w).pushAt rfl #[.int .i64 xk, .int .i64 xt, .bool xn, .int .i64 xl.k, .int .i64 xl.i, .string xl.s, .int .i64 xlev, .int .i64 xcol, .int .i64 xop, .slice xp xkids.length xcap, .slice xps xns xcs] 27).pushAt (by simp) #[.int .i64 k, .int .i64 i, .string s] 23)
  obtain ⟨dz0, dz1, dz2⟩ := (L0.out.l _ (.head _)).cells3
  have dzl := (L0.out.l _ (.head _)).lt
  obtain ⟨⟨xz0, xz1, xz2, xz3⟩, ⟨xz4, xz5, xz6, xz7⟩, xz8, xz9, xz10⟩ := (L0.out.l _ (.tail _ (.head _))).cells
  have xzl := (L0.out.l _ (.tail _ (.head _))).lt
  simp only [Ex.v] at HR HM ⊢
  rw [h] at HR
  rw [h2] at HM
  clear hx
  go_enter Tryd.func4, Tryd.ntmps4
  go_wp2_with fail
  refine (HR.out _ L0.out.b).mono ?_
  rintro e wL1 ⟨rfl, hb⟩
  have L1 := Lib.hid (L0.out.below hb)
  obtain ⟨dl10, dl11, dl12⟩ := (L1.out.l _ (.head _)).cells3
  have dl1l := (L1.out.l _ (.head _)).lt
  obtain ⟨⟨xl10, xl11, xl12, xl13⟩, ⟨xl14, xl15, xl16, xl17⟩, xl18, xl19, xl110⟩ := (L1.out.l _ (.tail _ (.head _))).cells
  have xl1l := (L1.out.l _ (.tail _ (.head _))).lt
  clear hb dz0 dz1 dz2 dzl xz0 xz1 xz2 xz3 xz4 xz5 xz6 xz7 xz8 xz9 xz10 xzl
  go_wp2_with fail
  refine (HM.out _ L1.out.b).mono ?_
  rintro e wL2 ⟨v3, rfl, ⟨g3, cp3, xs3, rfl, -, -⟩, hb⟩
  have L2 := Lib.hid (L1.out.below hb)
  obtain ⟨dl20, dl21, dl22⟩ := (L2.out.l _ (.head _)).cells3
  have dl2l := (L2.out.l _ (.head _)).lt
  obtain ⟨⟨xl20, xl21, xl22, xl23⟩, ⟨xl24, xl25, xl26, xl27⟩, xl28, xl29, xl210⟩ := (L2.out.l _ (.tail _ (.head _))).cells
  have xl2l := (L2.out.l _ (.tail _ (.head _))).lt
  clear hb dl10 dl11 dl12 dl1l xl10 xl11 xl12 xl13 xl14 xl15 xl16 xl17 xl18 xl19 xl110 xl1l
  go_wp2_with fail
  refine (refright_any _ _ _ _).mono ?_
  rintro e wL3 ⟨rfl, hb⟩
  have L3 := Lib.hid (L2.out.below hb)
  obtain ⟨dl30, dl31, dl32⟩ := (L3.out.l _ (.head _)).cells3
  have dl3l := (L3.out.l _ (.head _)).lt
  obtain ⟨⟨xl30, xl31, xl32, xl33⟩, ⟨xl34, xl35, xl36, xl37⟩, xl38, xl39, xl310⟩ := (L3.out.l _ (.tail _ (.head _))).cells
  have xl3l := (L3.out.l _ (.tail _ (.head _))).lt
  clear hb dl20 dl21 dl22 dl2l xl20 xl21 xl22 xl23 xl24 xl25 xl26 xl27 xl28 xl29 xl210 xl2l
  go_wp2_with fail
  go_ret
  exact ⟨rfl, L3.out.b⟩
set_option maxRecDepth 100000 in
set_option maxHeartbeats 16000000 in
theorem lazy_null {w : World} {bad : Ex} (hx : ExAt w bad) (k i : Int) (s : ByteArray) (hcnt : bad.cnt ≤ 1000000000) (h : bad.right [] = true) (h2 : bad.cnt = 0) (h3 : rightD ⟨k, i, s⟩ = true) (h4 : k = 0) :
    Calls Tryd.prog 4 #[bad.v, .agg #[.int .i64 0, .int .i64 i, .string s]] w fun e w' => e = .returned (.bool true) ∧ Below w.heap.size w w' := by
  have HR := Lib.hid (refxright_any hx [] (.slice none 0 0) (nil_env w))
  have HM := Lib.hid (refsubs_any hx hcnt)
  obtain ⟨xk, xt, xn, xl, xlev, xcol, xop, xkv, xsv, xkids⟩ := bad
  obtain ⟨xp, xcap, xps, xns, xcs, rfl, rfl⟩ := hx.slices
  have L0 := Lib.hid (show LZ w [(w.heap.size + 1, #[.int .i64 0, .int .i64 i, .string s]), (w.heap.size, #[.int .i64 xk, .int .i64 xt, .bool xn, .int .i64 xl.k, .int .i64 xl.i, .string xl.s, .int .i64 xlev, .int .i64 xcol, .int .i64 xop, .slice xp xkids.length xcap, .slice xps xns xcs])] _ from ((LZ.start w).pushAt rfl #[.int .i64 xk, .int .i64 xt, .bool xn, .int .i64 xl.k, .int .i64 xl.i, .string xl.s, .int .i64 xlev, .int .i64 xcol, .int .i64 xop, .slice xp xkids.length xcap, .slice xps xns xcs] 27).pushAt (by simp) #[.int .i64 0, .int .i64 i, .string s] 23)
  obtain ⟨dz0, dz1, dz2⟩ := (L0.out.l _ (.head _)).cells3
  have dzl := (L0.out.l _ (.head _)).lt
  obtain ⟨⟨xz0, xz1, xz2, xz3⟩, ⟨xz4, xz5, xz6, xz7⟩, xz8, xz9, xz10⟩ := (L0.out.l _ (.tail _ (.head _))).cells
  have xzl := (L0.out.l _ (.tail _ (.head _))).lt
  simp only [Ex.v] at HR HM ⊢
  rw [h] at HR
  rw [h2] at HM
  subst h4
  clear hx
  go_enter Tryd.func4, Tryd.ntmps4
  go_wp2_with fail
  refine (HR.out _ L0.out.b).mono ?_
  rintro e wL1 ⟨rfl, hb⟩
  have L1 := Lib.hid (L0.out.below hb)
  obtain ⟨dl10, dl11, dl12⟩ := (L1.out.l _ (.head _)).cells3
  have dl1l := (L1.out.l _ (.head _)).lt
  obtain ⟨⟨xl10, xl11, xl12, xl13⟩, ⟨xl14, xl15, xl16, xl17⟩, xl18, xl19, xl110⟩ := (L1.out.l _ (.tail _ (.head _))).cells
  have xl1l := (L1.out.l _ (.tail _ (.head _))).lt
  clear hb dz0 dz1 dz2 dzl xz0 xz1 xz2 xz3 xz4 xz5 xz6 xz7 xz8 xz9 xz10 xzl
  go_wp2_with fail
  refine (HM.out _ L1.out.b).mono ?_
  rintro e wL2 ⟨v3, rfl, ⟨g3, cp3, xs3, rfl, -, -⟩, hb⟩
  have L2 := Lib.hid (L1.out.below hb)
  obtain ⟨dl20, dl21, dl22⟩ := (L2.out.l _ (.head _)).cells3
  have dl2l := (L2.out.l _ (.head _)).lt
  obtain ⟨⟨xl20, xl21, xl22, xl23⟩, ⟨xl24, xl25, xl26, xl27⟩, xl28, xl29, xl210⟩ := (L2.out.l _ (.tail _ (.head _))).cells
  have xl2l := (L2.out.l _ (.tail _ (.head _))).lt
  clear hb dl10 dl11 dl12 dl1l xl10 xl11 xl12 xl13 xl14 xl15 xl16 xl17 xl18 xl19 xl110 xl1l
  go_wp2_with fail
  refine (refright_any _ _ _ _).mono ?_
  rintro e wL3 ⟨rfl, hb⟩
  have L3 := Lib.hid (L2.out.below hb)
  obtain ⟨dl30, dl31, dl32⟩ := (L3.out.l _ (.head _)).cells3
  have dl3l := (L3.out.l _ (.head _)).lt
  obtain ⟨⟨xl30, xl31, xl32, xl33⟩, ⟨xl34, xl35, xl36, xl37⟩, xl38, xl39, xl310⟩ := (L3.out.l _ (.tail _ (.head _))).cells
  have xl3l := (L3.out.l _ (.tail _ (.head _))).lt
  clear hb dl20 dl21 dl22 dl2l xl20 xl21 xl22 xl23 xl24 xl25 xl26 xl27 xl28 xl29 xl210 xl2l
  go_wp2_with fail
  go_ret
  exact ⟨rfl, L3.out.b⟩
end Go.Proofs.YtokbdleokihdaaaDoor
namespace Go.Proofs.YtokbdleokihdaaaDoor
open Go.RowKit

/-- A region of a function's body. -/
def findRegion (n : Nat) : Code → Option Code
  | .region id ops b => if id == n then some (.region id ops b) else none
  | .seq a b => match findRegion n a with
    | some c => some c
    | none => findRegion n b
  | .block _ c => findRegion n c
  | .scope c => findRegion n c
  | .cond _ a b => match findRegion n a with
    | some c => some c
    | none => findRegion n b
  | _ => none
set_option maxRecDepth 100000 in
set_option maxHeartbeats 4000000 in
theorem lazy_reg7 {w wr : World} {xk xt : Int} {xn : Bool} {xl : Dt} {xlev xcol xop : Int} {xp : Option Addr} {xcap : Nat} {xps : Option Addr} {xns xcs : Nat} {xkids : List Ex} {k i : Int} {s : ByteArray} {mr9 mr7 mn my : Nat} {t0 t1 t4 t7 t8 t9 t10 t11 t12 t13 t14 t15 t16 t17 t18 t19 t20 t21 t22 t23 t24 t25 t26 t27 t28 t29 t30 t31 t32 t33 t34 t35 t36 t37 t38 t39 t40 t41 t42 t43 t44 t45 t46 t47 t48 t49 t50 t51 t52 t53 t54 t55 t56 t57 t58 t59 t60 t61 t62 t63 t64 t65 t66 t67 t68 t69 t70 t71 t72 t73 t74 t75 t76 t77 t78 t79 t80 t81 t82 t83 t84 t85 t86 t87 t88 t89 t90 t91 t92 t93 t94 t95 t96 t97 t98 t99 t100 t101 t102 t103 t104 t105 t106 t107 t108 t109 t110 t111 t112 t113 t114 t115 t116 t117 t118 t119 t120 t121 t122 t123 t124 t125 t126 t127 t128 t129 t130 t131 t132 t133 t134 t135 t136 t137 t138 t139 t140 t141 t142 t143 t144 t145 t146 t147 t148 t149 t150 t151 t152 t153 t154 t155 t156 t157 t158 t159 t160 t161 t162 t163 t164 t165 t166 t167 t168 t169 t170 t171 t172 t173 t174 t175 t176 t177 t178 t179 : Value} {K : Act → World → Prop} {Q : Exit → Act → World → Prop}
    (LR : Hid (LZ w [(mr9, #[.int .i64 1, .int .i64 1, .string ⟨#[]⟩]), (mr7, #[.int .i64 1, .int .i64 0, .string ⟨#[]⟩]), (mn, #[.int .i64 1, .int .i64 1, .bool false, .int .i64 1, .int .i64 0, .string ⟨#[]⟩, .int .i64 0, .int .i64 0, .int .i64 0, .slice none 0 0, .slice none 0 0]), (my, #[.int .i64 1, .int .i64 1, .bool false, .int .i64 1, .int .i64 1, .string ⟨#[]⟩, .int .i64 0, .int .i64 0, .int .i64 0, .slice none 0 0, .slice none 0 0]), (w.heap.size + 1, #[.int .i64 k, .int .i64 i, .string s]), (w.heap.size, #[.int .i64 xk, .int .i64 xt, .bool xn, .int .i64 xl.k, .int .i64 xl.i, .string xl.s, .int .i64 xlev, .int .i64 xcol, .int .i64 xop, .slice xp xkids.length xcap, .slice xps xns xcs])] wr))
    (HV : Hid (∀ (W : World) (kv : Value), Below w.heap.size w W → KN W kv [litX ⟨k, i, s⟩, (Ex.node xk xt xn xl xlev xcol xop (.slice xp xkids.length xcap) (.slice xps xns xcs) xkids)] → Calls Tryd.prog 6 #[.agg #[.int .i64 3, .int .i64 0, .bool false, .int .i64 0, .int .i64 0, .string ⟨#[]⟩, .int .i64 0, .int .i64 0, .int .i64 17, kv, .slice none 0 0], .slice none 0 0, .slice none 0 0] W fun e w' => e = .returned (.tuple #[.agg #[.int .i64 k, .int .i64 i, .string s], .int .i64 0]) ∧ Below W.heap.size W w'))
    (hK : ∀ (o : Nat) (s64 s65 s66 s67 s68 s69 s70 s71 s72 : Value) (wc : World), LZ w ((o, #[.int .i64 k, .int .i64 i, .string s]) :: [(mr9, #[.int .i64 1, .int .i64 1, .string ⟨#[]⟩]), (mr7, #[.int .i64 1, .int .i64 0, .string ⟨#[]⟩]), (mn, #[.int .i64 1, .int .i64 1, .bool false, .int .i64 1, .int .i64 0, .string ⟨#[]⟩, .int .i64 0, .int .i64 0, .int .i64 0, .slice none 0 0, .slice none 0 0]), (my, #[.int .i64 1, .int .i64 1, .bool false, .int .i64 1, .int .i64 1, .string ⟨#[]⟩, .int .i64 0, .int .i64 0, .int .i64 0, .slice none 0 0, .slice none 0 0]), (w.heap.size + 1, #[.int .i64 k, .int .i64 i, .string s]), (w.heap.size, #[.int .i64 xk, .int .i64 xt, .bool xn, .int .i64 xl.k, .int .i64 xl.i, .string xl.s, .int .i64 xlev, .int .i64 xcol, .int .i64 xop, .slice xp xkids.length xcap, .slice xps xns xcs])]) wc → K ⟨#[t0, t1, .pointer (some ⟨w.heap.size, 0, none⟩), .pointer (some ⟨w.heap.size + 1, 0, none⟩), t4, .pointer (some ⟨my, 0, none⟩), .pointer (some ⟨mn, 0, none⟩), t7, t8, t9, t10, .pointer (some ⟨o, 0, none⟩), .int .i64 0, t13, t14, t15, t16, t17, t18, t19, t20, t21, t22, t23, t24, t25, t26, t27, t28, t29, t30, t31, t32, t33, t34, t35, t36, t37, t38, t39, t40, t41, t42, t43, t44, t45, t46, t47, t48, t49, t50, t51, t52, t53, t54, t55, t56, t57, t58, t59, t60, t61, t62, t63, s64, s65, s66, s67, s68, s69, s70, s71, s72, t73, t74, t75, t76, t77, t78, t79, t80, t81, t82, t83, t84, t85, t86, t87, t88, t89, t90, t91, t92, t93, t94, t95, t96, t97, t98, t99, t100, t101, t102, t103, t104, t105, t106, t107, t108, t109, t110, t111, t112, t113, t114, t115, t116, t117, t118, t119, t120, t121, t122, t123, t124, t125, t126, t127, t128, t129, t130, t131, t132, t133, t134, t135, t136, t137, t138, t139, t140, t141, t142, t143, t144, t145, t146, t147, t148, t149, t150, t151, t152, t153, t154, t155, t156, t157, t158, t159, t160, t161, t162, t163, t164, t165, t166, t167, t168, t169, t170, t171, t172, t173, t174, t175, t176, t177, t178, t179], []⟩ wc) :
    Code.wp Tryd.prog ((Tryd.f4.body.bind (findRegion 7)).getD .skip) (Exit.then K Q) ⟨#[t0, t1, .pointer (some ⟨w.heap.size, 0, none⟩), .pointer (some ⟨w.heap.size + 1, 0, none⟩), t4, .pointer (some ⟨my, 0, none⟩), .pointer (some ⟨mn, 0, none⟩), t7, t8, t9, t10, t11, t12, t13, t14, t15, t16, t17, t18, t19, t20, t21, t22, t23, t24, t25, t26, t27, t28, t29, t30, t31, t32, t33, t34, t35, t36, t37, t38, t39, t40, t41, t42, t43, t44, t45, t46, t47, t48, t49, t50, t51, t52, t53, t54, t55, t56, t57, t58, t59, t60, t61, t62, t63, t64, t65, t66, t67, t68, t69, t70, t71, t72, t73, t74, t75, t76, t77, t78, t79, t80, t81, t82, t83, t84, t85, t86, t87, t88, t89, t90, t91, t92, t93, t94, t95, t96, t97, t98, t99, t100, t101, t102, t103, t104, t105, t106, t107, t108, t109, t110, t111, t112, t113, t114, t115, t116, t117, t118, t119, t120, t121, t122, t123, t124, t125, t126, t127, t128, t129, t130, t131, t132, t133, t134, t135, t136, t137, t138, t139, t140, t141, t142, t143, t144, t145, t146, t147, t148, t149, t150, t151, t152, t153, t154, t155, t156, t157, t158, t159, t160, t161, t162, t163, t164, t165, t166, t167, t168, t169, t170, t171, t172, t173, t174, t175, t176, t177, t178, t179], []⟩ wr := by
  have HK := Lib.hid hK
  clear hK
  obtain ⟨r9lr0, r9lr1, r9lr2⟩ := (LR.out.l _ (.head _)).cells3
  have r9lrl := (LR.out.l _ (.head _)).lt
  obtain ⟨r7lr0, r7lr1, r7lr2⟩ := (LR.out.l _ (.tail _ (.head _))).cells3
  have r7lrl := (LR.out.l _ (.tail _ (.head _))).lt
  obtain ⟨⟨nlr0, nlr1, nlr2, nlr3⟩, ⟨nlr4, nlr5, nlr6, nlr7⟩, nlr8, nlr9, nlr10⟩ := (LR.out.l _ (.tail _ (.tail _ (.head _)))).cells
  have nlrl := (LR.out.l _ (.tail _ (.tail _ (.head _)))).lt
  obtain ⟨⟨ylr0, ylr1, ylr2, ylr3⟩, ⟨ylr4, ylr5, ylr6, ylr7⟩, ylr8, ylr9, ylr10⟩ := (LR.out.l _ (.tail _ (.tail _ (.tail _ (.head _))))).cells
  have ylrl := (LR.out.l _ (.tail _ (.tail _ (.tail _ (.head _))))).lt
  obtain ⟨dlr0, dlr1, dlr2⟩ := (LR.out.l _ (.tail _ (.tail _ (.tail _ (.tail _ (.head _)))))).cells3
  have dlrl := (LR.out.l _ (.tail _ (.tail _ (.tail _ (.tail _ (.head _)))))).lt
  obtain ⟨⟨xlr0, xlr1, xlr2, xlr3⟩, ⟨xlr4, xlr5, xlr6, xlr7⟩, xlr8, xlr9, xlr10⟩ := (LR.out.l _ (.tail _ (.tail _ (.tail _ (.tail _ (.tail _ (.head _))))))).cells
  have xlrl := (LR.out.l _ (.tail _ (.tail _ (.tail _ (.tail _ (.tail _ (.head _))))))).lt
  conv => arg 2; whnf
  go_region_held3 (fun w' => Below wr.heap.size wr w' ∧ ∀ b o, b < wr.heap.size → w'.cell? ⟨b, o, none⟩ = wr.cell? ⟨b, o, none⟩) ((first | (with_reducible exact held_drew) | (with_reducible exact held_below ‹_› ‹_›) | (refine held_of ?_; repeat' (first | (with_reducible exact (‹KwB wr _›).b) | (with_reducible refine Below.setCell ?_ ?_ _) | (with_reducible refine Below.alloc ?_ ?_ _) | (with_reducible refine Below.drew ?_) | (with_reducible exact Below.refl _ _) | omega | (simp; done) | (simp; omega)))))
    (first
      | (go_at_call 11; (with_reducible refine (lit_any _ _ _ _).mono ?_); rintro e w1 ⟨rfl, hb1⟩; have hKw := KwB.mk (held_below ‹_› hb1).1; have hz1 := hKw.b.size; (first | (have M := Bx.after hb1) | (have M := Bx.afterD hb1) | skip); (try simp only [World.size_drew, World.size_alloc] at M))
      | (go_at_call 12; (with_reducible refine (callx_any _ _ _ _ _).mono ?_); rintro e w2 ⟨rfl, hb2⟩; have hKw := KwB.mk (held_below ‹_› hb2).1; have hz2 := hKw.b.size; (first | (have hkn := (KN.new _ [litX ⟨k, i, s⟩, (Ex.node xk xt xn xl xlev xcol xop (.slice xp xkids.length xcap) (.slice xps xns xcs) xkids)] _ _ rfl).below hb2) | (have hkn := ((KN.new _ [litX ⟨k, i, s⟩, (Ex.node xk xt xn xl xlev xcol xop (.slice xp xkids.length xcap) (.slice xps xns xcs) xkids)] _ _ rfl).alloc _).below hb2)); (try simp only [World.size_alloc, List.length_cons, List.length_nil, Nat.zero_add, Nat.reduceAdd] at hkn); (first | (have M := Bx.after hb2) | (have M := ((Bx.new _ _ _ _ _).alloc _).below hb2) | (have M := (M.alloc _).below hb2) | (have M := M.below hb2) | skip); (try simp only [World.size_alloc] at M))
      | (go_at_call 6; (with_reducible refine (HV.out _ _ (LR.out.b.trans ((‹Below wr.heap.size wr _ ∧ _›).1.mono LR.out.b.size)) (by first | exact hkn | exact hkn.alloc _)).mono ?_); rintro e w3 ⟨rfl, hb3⟩; have hKw := KwB.mk (held_below ‹_› hb3).1; have hz3 := hKw.b.size; (first | (have M := Bx.after hb3) | (have M := M.below hb3) | skip); (try (have m0 := M.c0; have m1 := M.c1; have m2 := M.c2; have mf := M.f0; have mg := M.f1; have mh := M.f2; have ml := M.lt))))
  all_goals
    go_wp2_with fail
    first
      | exact HK.out _ _ _ _ _ _ _ _ _ _  _ ((LR.out.below hKw.b).push #[.int .i64 k, .int .i64 i, .string s] 23)
      | exact HK.out _ _ _ _ _ _ _ _ _ _  _ ((LR.out.below (((hKw.b.setCell (by first | omega | (dsimp only; omega)) _).setCell (by first | omega | (dsimp only; omega)) _).setCell (by first | omega | (dsimp only; omega)) _)).cons (M.store _ _ _).bk)

set_option maxRecDepth 100000 in
set_option maxHeartbeats 4000000 in
theorem lazy_reg8 {w wr : World} {xk xt : Int} {xn : Bool} {xl : Dt} {xlev xcol xop : Int} {xp : Option Addr} {xcap : Nat} {xps : Option Addr} {xns xcs : Nat} {xkids : List Ex} {k i : Int} {s : ByteArray} {mr11 mr9 mr7 mn my : Nat} {t0 t1 t4 t7 t8 t9 t10 t11 t12 t13 t14 t15 t16 t17 t18 t19 t20 t21 t22 t23 t24 t25 t26 t27 t28 t29 t30 t31 t32 t33 t34 t35 t36 t37 t38 t39 t40 t41 t42 t43 t44 t45 t46 t47 t48 t49 t50 t51 t52 t53 t54 t55 t56 t57 t58 t59 t60 t61 t62 t63 t64 t65 t66 t67 t68 t69 t70 t71 t72 t73 t74 t75 t76 t77 t78 t79 t80 t81 t82 t83 t84 t85 t86 t87 t88 t89 t90 t91 t92 t93 t94 t95 t96 t97 t98 t99 t100 t101 t102 t103 t104 t105 t106 t107 t108 t109 t110 t111 t112 t113 t114 t115 t116 t117 t118 t119 t120 t121 t122 t123 t124 t125 t126 t127 t128 t129 t130 t131 t132 t133 t134 t135 t136 t137 t138 t139 t140 t141 t142 t143 t144 t145 t146 t147 t148 t149 t150 t151 t152 t153 t154 t155 t156 t157 t158 t159 t160 t161 t162 t163 t164 t165 t166 t167 t168 t169 t170 t171 t172 t173 t174 t175 t176 t177 t178 t179 : Value} {K : Act → World → Prop} {Q : Exit → Act → World → Prop}
    (LR : Hid (LZ w [(mr11, #[.int .i64 k, .int .i64 i, .string s]), (mr9, #[.int .i64 1, .int .i64 1, .string ⟨#[]⟩]), (mr7, #[.int .i64 1, .int .i64 0, .string ⟨#[]⟩]), (mn, #[.int .i64 1, .int .i64 1, .bool false, .int .i64 1, .int .i64 0, .string ⟨#[]⟩, .int .i64 0, .int .i64 0, .int .i64 0, .slice none 0 0, .slice none 0 0]), (my, #[.int .i64 1, .int .i64 1, .bool false, .int .i64 1, .int .i64 1, .string ⟨#[]⟩, .int .i64 0, .int .i64 0, .int .i64 0, .slice none 0 0, .slice none 0 0]), (w.heap.size + 1, #[.int .i64 k, .int .i64 i, .string s]), (w.heap.size, #[.int .i64 xk, .int .i64 xt, .bool xn, .int .i64 xl.k, .int .i64 xl.i, .string xl.s, .int .i64 xlev, .int .i64 xcol, .int .i64 xop, .slice xp xkids.length xcap, .slice xps xns xcs])] wr))
    (HV : Hid (∀ (W : World) (kv : Value), Below w.heap.size w W → KN W kv [noX, (Ex.node xk xt xn xl xlev xcol xop (.slice xp xkids.length xcap) (.slice xps xns xcs) xkids), litX ⟨k, i, s⟩] → Calls Tryd.prog 6 #[.agg #[.int .i64 3, .int .i64 0, .bool false, .int .i64 0, .int .i64 0, .string ⟨#[]⟩, .int .i64 0, .int .i64 0, .int .i64 16, kv, .slice none 0 0], .slice none 0 0, .slice none 0 0] W fun e w' => e = .returned (.tuple #[.agg #[.int .i64 k, .int .i64 i, .string s], .int .i64 0]) ∧ Below W.heap.size W w'))
    (hK : ∀ (o : Nat) (s73 s74 s75 s76 s77 s78 s79 s80 s81 s82 : Value) (wc : World), LZ w ((o, #[.int .i64 k, .int .i64 i, .string s]) :: [(mr11, #[.int .i64 k, .int .i64 i, .string s]), (mr9, #[.int .i64 1, .int .i64 1, .string ⟨#[]⟩]), (mr7, #[.int .i64 1, .int .i64 0, .string ⟨#[]⟩]), (mn, #[.int .i64 1, .int .i64 1, .bool false, .int .i64 1, .int .i64 0, .string ⟨#[]⟩, .int .i64 0, .int .i64 0, .int .i64 0, .slice none 0 0, .slice none 0 0]), (my, #[.int .i64 1, .int .i64 1, .bool false, .int .i64 1, .int .i64 1, .string ⟨#[]⟩, .int .i64 0, .int .i64 0, .int .i64 0, .slice none 0 0, .slice none 0 0]), (w.heap.size + 1, #[.int .i64 k, .int .i64 i, .string s]), (w.heap.size, #[.int .i64 xk, .int .i64 xt, .bool xn, .int .i64 xl.k, .int .i64 xl.i, .string xl.s, .int .i64 xlev, .int .i64 xcol, .int .i64 xop, .slice xp xkids.length xcap, .slice xps xns xcs])]) wc → K ⟨#[t0, t1, .pointer (some ⟨w.heap.size, 0, none⟩), .pointer (some ⟨w.heap.size + 1, 0, none⟩), t4, .pointer (some ⟨my, 0, none⟩), .pointer (some ⟨mn, 0, none⟩), t7, t8, t9, t10, t11, t12, .pointer (some ⟨o, 0, none⟩), .int .i64 0, t15, t16, t17, t18, t19, t20, t21, t22, t23, t24, t25, t26, t27, t28, t29, t30, t31, t32, t33, t34, t35, t36, t37, t38, t39, t40, t41, t42, t43, t44, t45, t46, t47, t48, t49, t50, t51, t52, t53, t54, t55, t56, t57, t58, t59, t60, t61, t62, t63, t64, t65, t66, t67, t68, t69, t70, t71, t72, s73, s74, s75, s76, s77, s78, s79, s80, s81, s82, t83, t84, t85, t86, t87, t88, t89, t90, t91, t92, t93, t94, t95, t96, t97, t98, t99, t100, t101, t102, t103, t104, t105, t106, t107, t108, t109, t110, t111, t112, t113, t114, t115, t116, t117, t118, t119, t120, t121, t122, t123, t124, t125, t126, t127, t128, t129, t130, t131, t132, t133, t134, t135, t136, t137, t138, t139, t140, t141, t142, t143, t144, t145, t146, t147, t148, t149, t150, t151, t152, t153, t154, t155, t156, t157, t158, t159, t160, t161, t162, t163, t164, t165, t166, t167, t168, t169, t170, t171, t172, t173, t174, t175, t176, t177, t178, t179], []⟩ wc) :
    Code.wp Tryd.prog ((Tryd.f4.body.bind (findRegion 8)).getD .skip) (Exit.then K Q) ⟨#[t0, t1, .pointer (some ⟨w.heap.size, 0, none⟩), .pointer (some ⟨w.heap.size + 1, 0, none⟩), t4, .pointer (some ⟨my, 0, none⟩), .pointer (some ⟨mn, 0, none⟩), t7, t8, t9, t10, t11, t12, t13, t14, t15, t16, t17, t18, t19, t20, t21, t22, t23, t24, t25, t26, t27, t28, t29, t30, t31, t32, t33, t34, t35, t36, t37, t38, t39, t40, t41, t42, t43, t44, t45, t46, t47, t48, t49, t50, t51, t52, t53, t54, t55, t56, t57, t58, t59, t60, t61, t62, t63, t64, t65, t66, t67, t68, t69, t70, t71, t72, t73, t74, t75, t76, t77, t78, t79, t80, t81, t82, t83, t84, t85, t86, t87, t88, t89, t90, t91, t92, t93, t94, t95, t96, t97, t98, t99, t100, t101, t102, t103, t104, t105, t106, t107, t108, t109, t110, t111, t112, t113, t114, t115, t116, t117, t118, t119, t120, t121, t122, t123, t124, t125, t126, t127, t128, t129, t130, t131, t132, t133, t134, t135, t136, t137, t138, t139, t140, t141, t142, t143, t144, t145, t146, t147, t148, t149, t150, t151, t152, t153, t154, t155, t156, t157, t158, t159, t160, t161, t162, t163, t164, t165, t166, t167, t168, t169, t170, t171, t172, t173, t174, t175, t176, t177, t178, t179], []⟩ wr := by
  have HK := Lib.hid hK
  clear hK
  obtain ⟨r11lr0, r11lr1, r11lr2⟩ := (LR.out.l _ (.head _)).cells3
  have r11lrl := (LR.out.l _ (.head _)).lt
  obtain ⟨r9lr0, r9lr1, r9lr2⟩ := (LR.out.l _ (.tail _ (.head _))).cells3
  have r9lrl := (LR.out.l _ (.tail _ (.head _))).lt
  obtain ⟨r7lr0, r7lr1, r7lr2⟩ := (LR.out.l _ (.tail _ (.tail _ (.head _)))).cells3
  have r7lrl := (LR.out.l _ (.tail _ (.tail _ (.head _)))).lt
  obtain ⟨⟨nlr0, nlr1, nlr2, nlr3⟩, ⟨nlr4, nlr5, nlr6, nlr7⟩, nlr8, nlr9, nlr10⟩ := (LR.out.l _ (.tail _ (.tail _ (.tail _ (.head _))))).cells
  have nlrl := (LR.out.l _ (.tail _ (.tail _ (.tail _ (.head _))))).lt
  obtain ⟨⟨ylr0, ylr1, ylr2, ylr3⟩, ⟨ylr4, ylr5, ylr6, ylr7⟩, ylr8, ylr9, ylr10⟩ := (LR.out.l _ (.tail _ (.tail _ (.tail _ (.tail _ (.head _)))))).cells
  have ylrl := (LR.out.l _ (.tail _ (.tail _ (.tail _ (.tail _ (.head _)))))).lt
  obtain ⟨dlr0, dlr1, dlr2⟩ := (LR.out.l _ (.tail _ (.tail _ (.tail _ (.tail _ (.tail _ (.head _))))))).cells3
  have dlrl := (LR.out.l _ (.tail _ (.tail _ (.tail _ (.tail _ (.tail _ (.head _))))))).lt
  obtain ⟨⟨xlr0, xlr1, xlr2, xlr3⟩, ⟨xlr4, xlr5, xlr6, xlr7⟩, xlr8, xlr9, xlr10⟩ := (LR.out.l _ (.tail _ (.tail _ (.tail _ (.tail _ (.tail _ (.tail _ (.head _)))))))).cells
  have xlrl := (LR.out.l _ (.tail _ (.tail _ (.tail _ (.tail _ (.tail _ (.tail _ (.head _)))))))).lt
  conv => arg 2; whnf
  go_region_held3 (fun w' => Below wr.heap.size wr w' ∧ ∀ b o, b < wr.heap.size → w'.cell? ⟨b, o, none⟩ = wr.cell? ⟨b, o, none⟩) ((first | (with_reducible exact held_drew) | (with_reducible exact held_below ‹_› ‹_›) | (refine held_of ?_; repeat' (first | (with_reducible exact (‹KwB wr _›).b) | (with_reducible refine Below.setCell ?_ ?_ _) | (with_reducible refine Below.alloc ?_ ?_ _) | (with_reducible refine Below.drew ?_) | (with_reducible exact Below.refl _ _) | omega | (simp; done) | (simp; omega)))))
    (first
      | (go_at_call 11; (with_reducible refine (lit_any _ _ _ _).mono ?_); rintro e w1 ⟨rfl, hb1⟩; have hKw := KwB.mk (held_below ‹_› hb1).1; have hz1 := hKw.b.size; (first | (have M := Bx.after hb1) | (have M := Bx.afterD hb1) | skip); (try simp only [World.size_drew, World.size_alloc] at M))
      | (go_at_call 12; (with_reducible refine (callx_any _ _ _ _ _).mono ?_); rintro e w2 ⟨rfl, hb2⟩; have hKw := KwB.mk (held_below ‹_› hb2).1; have hz2 := hKw.b.size; (first | (have hkn := (KN.new _ [noX, (Ex.node xk xt xn xl xlev xcol xop (.slice xp xkids.length xcap) (.slice xps xns xcs) xkids), litX ⟨k, i, s⟩] _ _ rfl).below hb2) | (have hkn := ((KN.new _ [noX, (Ex.node xk xt xn xl xlev xcol xop (.slice xp xkids.length xcap) (.slice xps xns xcs) xkids), litX ⟨k, i, s⟩] _ _ rfl).alloc _).below hb2)); (try simp only [World.size_alloc, List.length_cons, List.length_nil, Nat.zero_add, Nat.reduceAdd] at hkn); (first | (have M := Bx.after hb2) | (have M := ((Bx.new _ _ _ _ _).alloc _).below hb2) | (have M := (M.alloc _).below hb2) | (have M := M.below hb2) | skip); (try simp only [World.size_alloc] at M))
      | (go_at_call 6; (with_reducible refine (HV.out _ _ (LR.out.b.trans ((‹Below wr.heap.size wr _ ∧ _›).1.mono LR.out.b.size)) (by first | exact hkn | exact hkn.alloc _)).mono ?_); rintro e w3 ⟨rfl, hb3⟩; have hKw := KwB.mk (held_below ‹_› hb3).1; have hz3 := hKw.b.size; (first | (have M := Bx.after hb3) | (have M := M.below hb3) | skip); (try (have m0 := M.c0; have m1 := M.c1; have m2 := M.c2; have mf := M.f0; have mg := M.f1; have mh := M.f2; have ml := M.lt))))
  all_goals
    go_wp2_with fail
    first
      | exact HK.out _ _ _ _ _ _ _ _ _ _ _  _ ((LR.out.below hKw.b).push #[.int .i64 k, .int .i64 i, .string s] 23)
      | exact HK.out _ _ _ _ _ _ _ _ _ _ _  _ ((LR.out.below (((hKw.b.setCell (by first | omega | (dsimp only; omega)) _).setCell (by first | omega | (dsimp only; omega)) _).setCell (by first | omega | (dsimp only; omega)) _)).cons (M.store _ _ _).bk)

set_option maxRecDepth 100000 in
set_option maxHeartbeats 4000000 in
theorem lazy_reg9 {w wr : World} {xk xt : Int} {xn : Bool} {xl : Dt} {xlev xcol xop : Int} {xp : Option Addr} {xcap : Nat} {xps : Option Addr} {xns xcs : Nat} {xkids : List Ex} {k i : Int} {s : ByteArray} {mr13 mr11 mr9 mr7 mn my : Nat} {t0 t1 t4 t7 t8 t9 t10 t11 t12 t13 t14 t15 t16 t17 t18 t19 t20 t21 t22 t23 t24 t25 t26 t27 t28 t29 t30 t31 t32 t33 t34 t35 t36 t37 t38 t39 t40 t41 t42 t43 t44 t45 t46 t47 t48 t49 t50 t51 t52 t53 t54 t55 t56 t57 t58 t59 t60 t61 t62 t63 t64 t65 t66 t67 t68 t69 t70 t71 t72 t73 t74 t75 t76 t77 t78 t79 t80 t81 t82 t83 t84 t85 t86 t87 t88 t89 t90 t91 t92 t93 t94 t95 t96 t97 t98 t99 t100 t101 t102 t103 t104 t105 t106 t107 t108 t109 t110 t111 t112 t113 t114 t115 t116 t117 t118 t119 t120 t121 t122 t123 t124 t125 t126 t127 t128 t129 t130 t131 t132 t133 t134 t135 t136 t137 t138 t139 t140 t141 t142 t143 t144 t145 t146 t147 t148 t149 t150 t151 t152 t153 t154 t155 t156 t157 t158 t159 t160 t161 t162 t163 t164 t165 t166 t167 t168 t169 t170 t171 t172 t173 t174 t175 t176 t177 t178 t179 : Value} {K : Act → World → Prop} {Q : Exit → Act → World → Prop}
    (LR : Hid (LZ w [(mr13, #[.int .i64 k, .int .i64 i, .string s]), (mr11, #[.int .i64 k, .int .i64 i, .string s]), (mr9, #[.int .i64 1, .int .i64 1, .string ⟨#[]⟩]), (mr7, #[.int .i64 1, .int .i64 0, .string ⟨#[]⟩]), (mn, #[.int .i64 1, .int .i64 1, .bool false, .int .i64 1, .int .i64 0, .string ⟨#[]⟩, .int .i64 0, .int .i64 0, .int .i64 0, .slice none 0 0, .slice none 0 0]), (my, #[.int .i64 1, .int .i64 1, .bool false, .int .i64 1, .int .i64 1, .string ⟨#[]⟩, .int .i64 0, .int .i64 0, .int .i64 0, .slice none 0 0, .slice none 0 0]), (w.heap.size + 1, #[.int .i64 k, .int .i64 i, .string s]), (w.heap.size, #[.int .i64 xk, .int .i64 xt, .bool xn, .int .i64 xl.k, .int .i64 xl.i, .string xl.s, .int .i64 xlev, .int .i64 xcol, .int .i64 xop, .slice xp xkids.length xcap, .slice xps xns xcs])] wr))
    (HV : Hid (∀ (W : World) (kv : Value), Below w.heap.size w W → KN W kv [yesX, litX ⟨k, i, s⟩, (Ex.node xk xt xn xl xlev xcol xop (.slice xp xkids.length xcap) (.slice xps xns xcs) xkids)] → Calls Tryd.prog 6 #[.agg #[.int .i64 3, .int .i64 0, .bool false, .int .i64 0, .int .i64 0, .string ⟨#[]⟩, .int .i64 0, .int .i64 0, .int .i64 16, kv, .slice none 0 0], .slice none 0 0, .slice none 0 0] W fun e w' => e = .returned (.tuple #[.agg #[.int .i64 k, .int .i64 i, .string s], .int .i64 0]) ∧ Below W.heap.size W w'))
    (hK : ∀ (o : Nat) (s83 s84 s85 s86 s87 s88 s89 s90 s91 s92 : Value) (wc : World), LZ w ((o, #[.int .i64 k, .int .i64 i, .string s]) :: [(mr13, #[.int .i64 k, .int .i64 i, .string s]), (mr11, #[.int .i64 k, .int .i64 i, .string s]), (mr9, #[.int .i64 1, .int .i64 1, .string ⟨#[]⟩]), (mr7, #[.int .i64 1, .int .i64 0, .string ⟨#[]⟩]), (mn, #[.int .i64 1, .int .i64 1, .bool false, .int .i64 1, .int .i64 0, .string ⟨#[]⟩, .int .i64 0, .int .i64 0, .int .i64 0, .slice none 0 0, .slice none 0 0]), (my, #[.int .i64 1, .int .i64 1, .bool false, .int .i64 1, .int .i64 1, .string ⟨#[]⟩, .int .i64 0, .int .i64 0, .int .i64 0, .slice none 0 0, .slice none 0 0]), (w.heap.size + 1, #[.int .i64 k, .int .i64 i, .string s]), (w.heap.size, #[.int .i64 xk, .int .i64 xt, .bool xn, .int .i64 xl.k, .int .i64 xl.i, .string xl.s, .int .i64 xlev, .int .i64 xcol, .int .i64 xop, .slice xp xkids.length xcap, .slice xps xns xcs])]) wc → K ⟨#[t0, t1, .pointer (some ⟨w.heap.size, 0, none⟩), .pointer (some ⟨w.heap.size + 1, 0, none⟩), t4, .pointer (some ⟨my, 0, none⟩), .pointer (some ⟨mn, 0, none⟩), t7, t8, t9, t10, t11, t12, t13, t14, .pointer (some ⟨o, 0, none⟩), .int .i64 0, t17, t18, t19, t20, t21, t22, t23, t24, t25, t26, t27, t28, t29, t30, t31, t32, t33, t34, t35, t36, t37, t38, t39, t40, t41, t42, t43, t44, t45, t46, t47, t48, t49, t50, t51, t52, t53, t54, t55, t56, t57, t58, t59, t60, t61, t62, t63, t64, t65, t66, t67, t68, t69, t70, t71, t72, t73, t74, t75, t76, t77, t78, t79, t80, t81, t82, s83, s84, s85, s86, s87, s88, s89, s90, s91, s92, t93, t94, t95, t96, t97, t98, t99, t100, t101, t102, t103, t104, t105, t106, t107, t108, t109, t110, t111, t112, t113, t114, t115, t116, t117, t118, t119, t120, t121, t122, t123, t124, t125, t126, t127, t128, t129, t130, t131, t132, t133, t134, t135, t136, t137, t138, t139, t140, t141, t142, t143, t144, t145, t146, t147, t148, t149, t150, t151, t152, t153, t154, t155, t156, t157, t158, t159, t160, t161, t162, t163, t164, t165, t166, t167, t168, t169, t170, t171, t172, t173, t174, t175, t176, t177, t178, t179], []⟩ wc) :
    Code.wp Tryd.prog ((Tryd.f4.body.bind (findRegion 9)).getD .skip) (Exit.then K Q) ⟨#[t0, t1, .pointer (some ⟨w.heap.size, 0, none⟩), .pointer (some ⟨w.heap.size + 1, 0, none⟩), t4, .pointer (some ⟨my, 0, none⟩), .pointer (some ⟨mn, 0, none⟩), t7, t8, t9, t10, t11, t12, t13, t14, t15, t16, t17, t18, t19, t20, t21, t22, t23, t24, t25, t26, t27, t28, t29, t30, t31, t32, t33, t34, t35, t36, t37, t38, t39, t40, t41, t42, t43, t44, t45, t46, t47, t48, t49, t50, t51, t52, t53, t54, t55, t56, t57, t58, t59, t60, t61, t62, t63, t64, t65, t66, t67, t68, t69, t70, t71, t72, t73, t74, t75, t76, t77, t78, t79, t80, t81, t82, t83, t84, t85, t86, t87, t88, t89, t90, t91, t92, t93, t94, t95, t96, t97, t98, t99, t100, t101, t102, t103, t104, t105, t106, t107, t108, t109, t110, t111, t112, t113, t114, t115, t116, t117, t118, t119, t120, t121, t122, t123, t124, t125, t126, t127, t128, t129, t130, t131, t132, t133, t134, t135, t136, t137, t138, t139, t140, t141, t142, t143, t144, t145, t146, t147, t148, t149, t150, t151, t152, t153, t154, t155, t156, t157, t158, t159, t160, t161, t162, t163, t164, t165, t166, t167, t168, t169, t170, t171, t172, t173, t174, t175, t176, t177, t178, t179], []⟩ wr := by
  have HK := Lib.hid hK
  clear hK
  obtain ⟨r13lr0, r13lr1, r13lr2⟩ := (LR.out.l _ (.head _)).cells3
  have r13lrl := (LR.out.l _ (.head _)).lt
  obtain ⟨r11lr0, r11lr1, r11lr2⟩ := (LR.out.l _ (.tail _ (.head _))).cells3
  have r11lrl := (LR.out.l _ (.tail _ (.head _))).lt
  obtain ⟨r9lr0, r9lr1, r9lr2⟩ := (LR.out.l _ (.tail _ (.tail _ (.head _)))).cells3
  have r9lrl := (LR.out.l _ (.tail _ (.tail _ (.head _)))).lt
  obtain ⟨r7lr0, r7lr1, r7lr2⟩ := (LR.out.l _ (.tail _ (.tail _ (.tail _ (.head _))))).cells3
  have r7lrl := (LR.out.l _ (.tail _ (.tail _ (.tail _ (.head _))))).lt
  obtain ⟨⟨nlr0, nlr1, nlr2, nlr3⟩, ⟨nlr4, nlr5, nlr6, nlr7⟩, nlr8, nlr9, nlr10⟩ := (LR.out.l _ (.tail _ (.tail _ (.tail _ (.tail _ (.head _)))))).cells
  have nlrl := (LR.out.l _ (.tail _ (.tail _ (.tail _ (.tail _ (.head _)))))).lt
  obtain ⟨⟨ylr0, ylr1, ylr2, ylr3⟩, ⟨ylr4, ylr5, ylr6, ylr7⟩, ylr8, ylr9, ylr10⟩ := (LR.out.l _ (.tail _ (.tail _ (.tail _ (.tail _ (.tail _ (.head _))))))).cells
  have ylrl := (LR.out.l _ (.tail _ (.tail _ (.tail _ (.tail _ (.tail _ (.head _))))))).lt
  obtain ⟨dlr0, dlr1, dlr2⟩ := (LR.out.l _ (.tail _ (.tail _ (.tail _ (.tail _ (.tail _ (.tail _ (.head _)))))))).cells3
  have dlrl := (LR.out.l _ (.tail _ (.tail _ (.tail _ (.tail _ (.tail _ (.tail _ (.head _)))))))).lt
  obtain ⟨⟨xlr0, xlr1, xlr2, xlr3⟩, ⟨xlr4, xlr5, xlr6, xlr7⟩, xlr8, xlr9, xlr10⟩ := (LR.out.l _ (.tail _ (.tail _ (.tail _ (.tail _ (.tail _ (.tail _ (.tail _ (.head _))))))))).cells
  have xlrl := (LR.out.l _ (.tail _ (.tail _ (.tail _ (.tail _ (.tail _ (.tail _ (.tail _ (.head _))))))))).lt
  conv => arg 2; whnf
  go_region_held3 (fun w' => Below wr.heap.size wr w' ∧ ∀ b o, b < wr.heap.size → w'.cell? ⟨b, o, none⟩ = wr.cell? ⟨b, o, none⟩) ((first | (with_reducible exact held_drew) | (with_reducible exact held_below ‹_› ‹_›) | (refine held_of ?_; repeat' (first | (with_reducible exact (‹KwB wr _›).b) | (with_reducible refine Below.setCell ?_ ?_ _) | (with_reducible refine Below.alloc ?_ ?_ _) | (with_reducible refine Below.drew ?_) | (with_reducible exact Below.refl _ _) | omega | (simp; done) | (simp; omega)))))
    (first
      | (go_at_call 11; (with_reducible refine (lit_any _ _ _ _).mono ?_); rintro e w1 ⟨rfl, hb1⟩; have hKw := KwB.mk (held_below ‹_› hb1).1; have hz1 := hKw.b.size; (first | (have M := Bx.after hb1) | (have M := Bx.afterD hb1) | skip); (try simp only [World.size_drew, World.size_alloc] at M))
      | (go_at_call 12; (with_reducible refine (callx_any _ _ _ _ _).mono ?_); rintro e w2 ⟨rfl, hb2⟩; have hKw := KwB.mk (held_below ‹_› hb2).1; have hz2 := hKw.b.size; (first | (have hkn := (KN.new _ [yesX, litX ⟨k, i, s⟩, (Ex.node xk xt xn xl xlev xcol xop (.slice xp xkids.length xcap) (.slice xps xns xcs) xkids)] _ _ rfl).below hb2) | (have hkn := ((KN.new _ [yesX, litX ⟨k, i, s⟩, (Ex.node xk xt xn xl xlev xcol xop (.slice xp xkids.length xcap) (.slice xps xns xcs) xkids)] _ _ rfl).alloc _).below hb2)); (try simp only [World.size_alloc, List.length_cons, List.length_nil, Nat.zero_add, Nat.reduceAdd] at hkn); (first | (have M := Bx.after hb2) | (have M := ((Bx.new _ _ _ _ _).alloc _).below hb2) | (have M := (M.alloc _).below hb2) | (have M := M.below hb2) | skip); (try simp only [World.size_alloc] at M))
      | (go_at_call 6; (with_reducible refine (HV.out _ _ (LR.out.b.trans ((‹Below wr.heap.size wr _ ∧ _›).1.mono LR.out.b.size)) (by first | exact hkn | exact hkn.alloc _)).mono ?_); rintro e w3 ⟨rfl, hb3⟩; have hKw := KwB.mk (held_below ‹_› hb3).1; have hz3 := hKw.b.size; (first | (have M := Bx.after hb3) | (have M := M.below hb3) | skip); (try (have m0 := M.c0; have m1 := M.c1; have m2 := M.c2; have mf := M.f0; have mg := M.f1; have mh := M.f2; have ml := M.lt))))
  all_goals
    go_wp2_with fail
    first
      | exact HK.out _ _ _ _ _ _ _ _ _ _ _  _ ((LR.out.below hKw.b).push #[.int .i64 k, .int .i64 i, .string s] 23)
      | exact HK.out _ _ _ _ _ _ _ _ _ _ _  _ ((LR.out.below (((hKw.b.setCell (by first | omega | (dsimp only; omega)) _).setCell (by first | omega | (dsimp only; omega)) _).setCell (by first | omega | (dsimp only; omega)) _)).cons (M.store _ _ _).bk)

set_option maxRecDepth 100000 in
set_option maxHeartbeats 4000000 in
theorem lazy_reg13 {w wr : World} {xk xt : Int} {xn : Bool} {xl : Dt} {xlev xcol xop : Int} {xp : Option Addr} {xcap : Nat} {xps : Option Addr} {xns xcs : Nat} {xkids : List Ex} {k i : Int} {s : ByteArray} {k6 i6 : Int} {s6 : ByteArray} {k7 i7 : Int} {s7 : ByteArray} {v9 : Int} {mr17 mr15 mr13 mr11 mr9 mr7 mn my : Nat} {t0 t1 t4 t7 t8 t9 t10 t11 t12 t13 t14 t15 t16 t17 t18 t19 t20 t21 t22 t23 t24 t25 t26 t27 t28 t29 t30 t31 t32 t33 t34 t35 t36 t37 t38 t39 t40 t41 t42 t43 t44 t45 t46 t47 t48 t49 t50 t51 t52 t53 t54 t55 t56 t57 t58 t59 t60 t61 t62 t63 t64 t65 t66 t67 t68 t69 t70 t71 t72 t73 t74 t75 t76 t77 t78 t79 t80 t81 t82 t83 t84 t85 t86 t87 t88 t89 t90 t91 t92 t93 t94 t95 t96 t97 t98 t99 t100 t101 t102 t103 t104 t105 t106 t107 t108 t109 t110 t111 t112 t113 t114 t115 t116 t117 t118 t119 t120 t121 t122 t123 t124 t125 t126 t127 t128 t129 t130 t131 t132 t133 t134 t135 t136 t137 t138 t139 t140 t141 t142 t143 t144 t145 t146 t147 t148 t149 t150 t151 t152 t153 t154 t155 t156 t157 t158 t159 t160 t161 t162 t163 t164 t165 t166 t167 t168 t169 t170 t171 t172 t173 t174 t175 t176 t177 t178 t179 : Value} {K : Act → World → Prop} {Q : Exit → Act → World → Prop}
    (LR : Hid (LZ w [(mr17, #[.int .i64 k6, .int .i64 i6, .string s6]), (mr15, #[.int .i64 k, .int .i64 i, .string s]), (mr13, #[.int .i64 k, .int .i64 i, .string s]), (mr11, #[.int .i64 k, .int .i64 i, .string s]), (mr9, #[.int .i64 1, .int .i64 1, .string ⟨#[]⟩]), (mr7, #[.int .i64 1, .int .i64 0, .string ⟨#[]⟩]), (mn, #[.int .i64 1, .int .i64 1, .bool false, .int .i64 1, .int .i64 0, .string ⟨#[]⟩, .int .i64 0, .int .i64 0, .int .i64 0, .slice none 0 0, .slice none 0 0]), (my, #[.int .i64 1, .int .i64 1, .bool false, .int .i64 1, .int .i64 1, .string ⟨#[]⟩, .int .i64 0, .int .i64 0, .int .i64 0, .slice none 0 0, .slice none 0 0]), (w.heap.size + 1, #[.int .i64 k, .int .i64 i, .string s]), (w.heap.size, #[.int .i64 xk, .int .i64 xt, .bool xn, .int .i64 xl.k, .int .i64 xl.i, .string xl.s, .int .i64 xlev, .int .i64 xcol, .int .i64 xop, .slice xp xkids.length xcap, .slice xps xns xcs])] wr))
    (HV : Hid (∀ (W : World) (kv : Value), Below w.heap.size w W → KN W kv [(Ex.node xk xt xn xl xlev xcol xop (.slice xp xkids.length xcap) (.slice xps xns xcs) xkids), litX ⟨k, i, s⟩] → Calls Tryd.prog 6 #[.agg #[.int .i64 3, .int .i64 0, .bool false, .int .i64 0, .int .i64 0, .string ⟨#[]⟩, .int .i64 0, .int .i64 0, .int .i64 17, kv, .slice none 0 0], .slice none 0 0, .slice none 0 0] W fun e w' => e = .returned (.tuple #[.agg #[.int .i64 k7, .int .i64 i7, .string s7], .int .i64 v9]) ∧ Below W.heap.size W w'))
    (hK : ∀ (o : Nat) (s143 s144 s145 s146 s147 s148 s149 s150 s151 : Value) (wc : World), LZ w ((o, #[.int .i64 k7, .int .i64 i7, .string s7]) :: [(mr17, #[.int .i64 k6, .int .i64 i6, .string s6]), (mr15, #[.int .i64 k, .int .i64 i, .string s]), (mr13, #[.int .i64 k, .int .i64 i, .string s]), (mr11, #[.int .i64 k, .int .i64 i, .string s]), (mr9, #[.int .i64 1, .int .i64 1, .string ⟨#[]⟩]), (mr7, #[.int .i64 1, .int .i64 0, .string ⟨#[]⟩]), (mn, #[.int .i64 1, .int .i64 1, .bool false, .int .i64 1, .int .i64 0, .string ⟨#[]⟩, .int .i64 0, .int .i64 0, .int .i64 0, .slice none 0 0, .slice none 0 0]), (my, #[.int .i64 1, .int .i64 1, .bool false, .int .i64 1, .int .i64 1, .string ⟨#[]⟩, .int .i64 0, .int .i64 0, .int .i64 0, .slice none 0 0, .slice none 0 0]), (w.heap.size + 1, #[.int .i64 k, .int .i64 i, .string s]), (w.heap.size, #[.int .i64 xk, .int .i64 xt, .bool xn, .int .i64 xl.k, .int .i64 xl.i, .string xl.s, .int .i64 xlev, .int .i64 xcol, .int .i64 xop, .slice xp xkids.length xcap, .slice xps xns xcs])]) wc → K ⟨#[t0, t1, .pointer (some ⟨w.heap.size, 0, none⟩), .pointer (some ⟨w.heap.size + 1, 0, none⟩), t4, .pointer (some ⟨my, 0, none⟩), .pointer (some ⟨mn, 0, none⟩), t7, t8, t9, t10, t11, t12, t13, t14, t15, t16, t17, t18, .pointer (some ⟨o, 0, none⟩), .int .i64 v9, t21, t22, t23, t24, t25, t26, t27, t28, t29, t30, t31, t32, t33, t34, t35, t36, t37, t38, t39, t40, t41, t42, t43, t44, t45, t46, t47, t48, t49, t50, t51, t52, t53, t54, t55, t56, t57, t58, t59, t60, t61, t62, t63, t64, t65, t66, t67, t68, t69, t70, t71, t72, t73, t74, t75, t76, t77, t78, t79, t80, t81, t82, t83, t84, t85, t86, t87, t88, t89, t90, t91, t92, t93, t94, t95, t96, t97, t98, t99, t100, t101, t102, t103, t104, t105, t106, t107, t108, t109, t110, t111, t112, t113, t114, t115, t116, t117, t118, t119, t120, t121, t122, t123, t124, t125, t126, t127, t128, t129, t130, t131, t132, t133, t134, t135, t136, t137, t138, t139, t140, t141, t142, s143, s144, s145, s146, s147, s148, s149, s150, s151, t152, t153, t154, t155, t156, t157, t158, t159, t160, t161, t162, t163, t164, t165, t166, t167, t168, t169, t170, t171, t172, t173, t174, t175, t176, t177, t178, t179], []⟩ wc) :
    Code.wp Tryd.prog ((Tryd.f4.body.bind (findRegion 13)).getD .skip) (Exit.then K Q) ⟨#[t0, t1, .pointer (some ⟨w.heap.size, 0, none⟩), .pointer (some ⟨w.heap.size + 1, 0, none⟩), t4, .pointer (some ⟨my, 0, none⟩), .pointer (some ⟨mn, 0, none⟩), t7, t8, t9, t10, t11, t12, t13, t14, t15, t16, t17, t18, t19, t20, t21, t22, t23, t24, t25, t26, t27, t28, t29, t30, t31, t32, t33, t34, t35, t36, t37, t38, t39, t40, t41, t42, t43, t44, t45, t46, t47, t48, t49, t50, t51, t52, t53, t54, t55, t56, t57, t58, t59, t60, t61, t62, t63, t64, t65, t66, t67, t68, t69, t70, t71, t72, t73, t74, t75, t76, t77, t78, t79, t80, t81, t82, t83, t84, t85, t86, t87, t88, t89, t90, t91, t92, t93, t94, t95, t96, t97, t98, t99, t100, t101, t102, t103, t104, t105, t106, t107, t108, t109, t110, t111, t112, t113, t114, t115, t116, t117, t118, t119, t120, t121, t122, t123, t124, t125, t126, t127, t128, t129, t130, t131, t132, t133, t134, t135, t136, t137, t138, t139, t140, t141, t142, t143, t144, t145, t146, t147, t148, t149, t150, t151, t152, t153, t154, t155, t156, t157, t158, t159, t160, t161, t162, t163, t164, t165, t166, t167, t168, t169, t170, t171, t172, t173, t174, t175, t176, t177, t178, t179], []⟩ wr := by
  have HK := Lib.hid hK
  clear hK
  obtain ⟨r17lr0, r17lr1, r17lr2⟩ := (LR.out.l _ (.head _)).cells3
  have r17lrl := (LR.out.l _ (.head _)).lt
  obtain ⟨r15lr0, r15lr1, r15lr2⟩ := (LR.out.l _ (.tail _ (.head _))).cells3
  have r15lrl := (LR.out.l _ (.tail _ (.head _))).lt
  obtain ⟨r13lr0, r13lr1, r13lr2⟩ := (LR.out.l _ (.tail _ (.tail _ (.head _)))).cells3
  have r13lrl := (LR.out.l _ (.tail _ (.tail _ (.head _)))).lt
  obtain ⟨r11lr0, r11lr1, r11lr2⟩ := (LR.out.l _ (.tail _ (.tail _ (.tail _ (.head _))))).cells3
  have r11lrl := (LR.out.l _ (.tail _ (.tail _ (.tail _ (.head _))))).lt
  obtain ⟨r9lr0, r9lr1, r9lr2⟩ := (LR.out.l _ (.tail _ (.tail _ (.tail _ (.tail _ (.head _)))))).cells3
  have r9lrl := (LR.out.l _ (.tail _ (.tail _ (.tail _ (.tail _ (.head _)))))).lt
  obtain ⟨r7lr0, r7lr1, r7lr2⟩ := (LR.out.l _ (.tail _ (.tail _ (.tail _ (.tail _ (.tail _ (.head _))))))).cells3
  have r7lrl := (LR.out.l _ (.tail _ (.tail _ (.tail _ (.tail _ (.tail _ (.head _))))))).lt
  obtain ⟨⟨nlr0, nlr1, nlr2, nlr3⟩, ⟨nlr4, nlr5, nlr6, nlr7⟩, nlr8, nlr9, nlr10⟩ := (LR.out.l _ (.tail _ (.tail _ (.tail _ (.tail _ (.tail _ (.tail _ (.head _)))))))).cells
  have nlrl := (LR.out.l _ (.tail _ (.tail _ (.tail _ (.tail _ (.tail _ (.tail _ (.head _)))))))).lt
  obtain ⟨⟨ylr0, ylr1, ylr2, ylr3⟩, ⟨ylr4, ylr5, ylr6, ylr7⟩, ylr8, ylr9, ylr10⟩ := (LR.out.l _ (.tail _ (.tail _ (.tail _ (.tail _ (.tail _ (.tail _ (.tail _ (.head _))))))))).cells
  have ylrl := (LR.out.l _ (.tail _ (.tail _ (.tail _ (.tail _ (.tail _ (.tail _ (.tail _ (.head _))))))))).lt
  obtain ⟨dlr0, dlr1, dlr2⟩ := (LR.out.l _ (.tail _ (.tail _ (.tail _ (.tail _ (.tail _ (.tail _ (.tail _ (.tail _ (.head _)))))))))).cells3
  have dlrl := (LR.out.l _ (.tail _ (.tail _ (.tail _ (.tail _ (.tail _ (.tail _ (.tail _ (.tail _ (.head _)))))))))).lt
  obtain ⟨⟨xlr0, xlr1, xlr2, xlr3⟩, ⟨xlr4, xlr5, xlr6, xlr7⟩, xlr8, xlr9, xlr10⟩ := (LR.out.l _ (.tail _ (.tail _ (.tail _ (.tail _ (.tail _ (.tail _ (.tail _ (.tail _ (.tail _ (.head _))))))))))).cells
  have xlrl := (LR.out.l _ (.tail _ (.tail _ (.tail _ (.tail _ (.tail _ (.tail _ (.tail _ (.tail _ (.tail _ (.head _))))))))))).lt
  conv => arg 2; whnf
  go_region_held3 (fun w' => Below wr.heap.size wr w' ∧ ∀ b o, b < wr.heap.size → w'.cell? ⟨b, o, none⟩ = wr.cell? ⟨b, o, none⟩) ((first | (with_reducible exact held_drew) | (with_reducible exact held_below ‹_› ‹_›) | (refine held_of ?_; repeat' (first | (with_reducible exact (‹KwB wr _›).b) | (with_reducible refine Below.setCell ?_ ?_ _) | (with_reducible refine Below.alloc ?_ ?_ _) | (with_reducible refine Below.drew ?_) | (with_reducible exact Below.refl _ _) | omega | (simp; done) | (simp; omega)))))
    (first
      | (go_at_call 11; (with_reducible refine (lit_any _ _ _ _).mono ?_); rintro e w1 ⟨rfl, hb1⟩; have hKw := KwB.mk (held_below ‹_› hb1).1; have hz1 := hKw.b.size; (first | (have M := Bx.after hb1) | (have M := Bx.afterD hb1) | skip); (try simp only [World.size_drew, World.size_alloc] at M))
      | (go_at_call 12; (with_reducible refine (callx_any _ _ _ _ _).mono ?_); rintro e w2 ⟨rfl, hb2⟩; have hKw := KwB.mk (held_below ‹_› hb2).1; have hz2 := hKw.b.size; (first | (have hkn := (KN.new _ [(Ex.node xk xt xn xl xlev xcol xop (.slice xp xkids.length xcap) (.slice xps xns xcs) xkids), litX ⟨k, i, s⟩] _ _ rfl).below hb2) | (have hkn := ((KN.new _ [(Ex.node xk xt xn xl xlev xcol xop (.slice xp xkids.length xcap) (.slice xps xns xcs) xkids), litX ⟨k, i, s⟩] _ _ rfl).alloc _).below hb2)); (try simp only [World.size_alloc, List.length_cons, List.length_nil, Nat.zero_add, Nat.reduceAdd] at hkn); (first | (have M := Bx.after hb2) | (have M := ((Bx.new _ _ _ _ _).alloc _).below hb2) | (have M := (M.alloc _).below hb2) | (have M := M.below hb2) | skip); (try simp only [World.size_alloc] at M))
      | (go_at_call 6; (with_reducible refine (HV.out _ _ (LR.out.b.trans ((‹Below wr.heap.size wr _ ∧ _›).1.mono LR.out.b.size)) (by first | exact hkn | exact hkn.alloc _)).mono ?_); rintro e w3 ⟨rfl, hb3⟩; have hKw := KwB.mk (held_below ‹_› hb3).1; have hz3 := hKw.b.size; (first | (have M := Bx.after hb3) | (have M := M.below hb3) | skip); (try (have m0 := M.c0; have m1 := M.c1; have m2 := M.c2; have mf := M.f0; have mg := M.f1; have mh := M.f2; have ml := M.lt))))
  all_goals
    go_wp2_with fail
    first
      | exact HK.out _ _ _ _ _ _ _ _ _ _  _ ((LR.out.below hKw.b).push #[.int .i64 k7, .int .i64 i7, .string s7] 23)
      | exact HK.out _ _ _ _ _ _ _ _ _ _  _ ((LR.out.below (((hKw.b.setCell (by first | omega | (dsimp only; omega)) _).setCell (by first | omega | (dsimp only; omega)) _).setCell (by first | omega | (dsimp only; omega)) _)).cons (M.store _ _ _).bk)

end Go.Proofs.YtokbdleokihdaaaDoor
