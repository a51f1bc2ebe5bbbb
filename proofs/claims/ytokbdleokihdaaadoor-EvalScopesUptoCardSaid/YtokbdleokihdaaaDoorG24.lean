/- What EvalScopes needs: alive; rows of rows. The walk of EvalScopes: it answers true. -/
import Derived.Test.YtokbdleokihdaaaDoorENames
import Derived.Test.YtokbdleokihdaaaDoorG23
import Derived.Test.YtokbdleokihdaaaDoorPrintD
import Derived.Test.YtokbdleokihdaaaDoorG21
import Derived.Laws.OwnMore
import Derived.Deep.Slices
namespace Go.Proofs.YtokbdleokihdaaaDoor
open Go.RowKit Go.Maps

theorem add_zero' (g j : Nat) : (⟨g, 0, none⟩ : Addr).add j = ⟨g, 0 + j, none⟩ := by unfold Addr.add; split <;> simp_all
theorem alive_any (w : World) (hT : Tabs w) (hP : Pow w) :
    Calls Tryd.prog 14 #[] w fun e w' => e = .returned (.bool true) ∧ Below w.heap.size w w' := by
  have HC := Lib.hid (print_int ⟨2, 7, ⟨#[]⟩⟩ w hT hP (rightD_num (.inl rfl)) rfl (by decide) (by decide))
  have hp : printF ⟨2, 7, ⟨#[]⟩⟩ = [55] := by
    unfold printF
    rw [if_neg (by rw [rightD_num (.inl rfl)]; decide), if_neg (by decide), if_pos rfl]
    show Lib.itoa 7 = [55]
    unfold Lib.itoa
    rw [if_neg (by decide)]
    show Lib.decDigits 7 = [55]
    rw [Lib.decDigits, dif_pos (by decide)]
    rfl
  rw [hp] at HC
  have HC2 : Hid (Calls Tryd.prog 23 #[.agg #[.int .i64 2, .int .i64 7, .string ⟨#[]⟩]] w fun e w' => e = .returned (.string ⟨#[55]⟩) ∧ Below w.heap.size w w') := HC.out
  clear HC hp
  go_enter Tryd.func14, Tryd.ntmps14
  go_wp2_with (first | (go_at_call 23; refine HC2.out.mono ?_; rintro e w1 ⟨rfl, hb⟩) | fail)
  go_ret
  exact ⟨rfl, hb⟩
/-- A row of another type is kept when a row grows. -/
theorem ownsRow_kept {w w' : World} {B B' : Nat} {e e' : TypeId} {k k' : Nat} {v v' : Value} {n n' : Nat} {xs xs' : List Value} (h : w.ownsRow B e k v n xs) (hne : e ≠ e') (h' : w.ownsRow B' e' k' v' n' xs') (hg : w.grownBy w' v'.ownBlock) : w'.ownsRow B e k v n xs := by
  refine ⟨h.1, ?_⟩
  rcases h.2 with h2 | ⟨g, cap, cur, h1, h2, h3, h4⟩
  · exact .inl h2
  · refine .inr ⟨g, cap, cur, h1, h2, ?_, h4⟩
    rw [hg.block g (Array.getElem?_eq_some_iff.1 h3).1 ?_]
    · exact h3
    · intro he
      rcases h'.2 with ⟨k1, -⟩ | ⟨g', cap', cur', k1, -, k3, -⟩
      · rw [k1] at he; cases he
      · rw [k1] at he
        have : g = g' := by simpa [Value.ownBlock] using he
        subst this
        rw [h3] at k3
        simp at k3
        exact hne k3.2
/-- A row of rows, each of one's own. -/
theorem env_of_rows {w : World} {B : Nat} {v : Value} {vals : List Value} {env : List (List Dt)} (h : w.ownsRow B 41 1 v env.length vals) (hr : ∀ (i : Nat) (r : List Dt) (u : Value), env[i]? = some r → vals[i]? = some u → DatS w u r) : EnvS w v env := by
  have hl : vals.length = env.length := by have := h.1; omega
  rcases h.2 with ⟨rfl, hn⟩ | ⟨g, cap, cur, rfl, hB, hg, hc, hm, hz, ht⟩
  · have : env = [] := List.length_eq_zero_iff.1 hn
    subst this
    exact ⟨none, 0, rfl, Nat.le_refl _, by omega, .inl rfl⟩
  · refine ⟨_, cap, rfl, hc, by unfold maxLen at hm; omega, ?_⟩
    by_cases h0 : env = []
    · exact .inl h0
    · refine .inr ⟨g, 0, rfl, (Array.getElem?_eq_some_iff.1 hg).1, fun i r hi => ?_⟩
      have hil : i < vals.length := by have := (List.getElem?_eq_some_iff.1 hi).1; omega
      have hcell := h.cells (g := g) rfl i (vals[i]) (List.getElem?_eq_getElem hil)
      rw [add_zero'] at hcell
      exact ⟨_, hcell, hr i r _ hi (List.getElem?_eq_getElem hil)⟩
theorem otherRow_len (used : Int → Int → Bool) (i : Nat) (r : List Dt) : (otherRow used i r).length = r.length := by unfold otherRow; simp
theorem otherRow_take (used : Int → Int → Bool) (i : Nat) (r : List Dt) (j : Nat) (h : j < r.length) : (otherRow used i r).take (j + 1) = (otherRow used i r).take j ++ [if used (i : Int) (j : Int) then dnth r j else ⟨2, 77, ⟨#[]⟩⟩] := by
  rw [List.take_add_one]
  congr 1
  unfold otherRow
  rw [List.getElem?_map, List.getElem?_range h]; rfl
theorem otherEnv_get (used : Int → Int → Bool) (env : List (List Dt)) (i : Nat) (h : i < env.length) : (otherEnv used env)[i]? = some (otherRow used i (env.getD i [])) := by
  unfold otherEnv
  rw [List.getElem?_map, List.getElem?_range h]; rfl
theorem otherEnv_len (used : Int → Int → Bool) (env : List (List Dt)) : (otherEnv used env).length = env.length := by unfold otherEnv; simp
end Go.Proofs.YtokbdleokihdaaaDoor
namespace Go.Proofs.YtokbdleokihdaaaDoor
open Go.RowKit Go.Maps

theorem eqD_me3 (k i : Int) (s : ByteArray) : eqD k i s k i s = true := eqD_iff.2 ⟨rfl, rfl, rfl⟩
theorem Rowinfo : (Tryd.prog.info? 41).map (fun i => (i.zero, i.size, i.bytes)) = some (some (.slice none 0 0), 1, 24) := by kernel_rfl
theorem MI.made (w : World) : MI (w.alloc (.map #[] 0)) w.heap.size 0 (fun _ _ => 0) := by
  refine ⟨.map [], World.ownsMap_made _ _ _ _, isMap_empty, fun a c _ _ => ?_⟩
  simp [DataW.atKey]
theorem LZ.k1 {w u u' : World} {L : List (Nat × Array Value)} {b : Nat} (h : LZ w L u) (hk : K1 b u u') (hb : w.heap.size ≤ b) (hn : ∀ p ∈ L, p.1 ≠ b) : LZ w L u' :=
  ⟨K1.belowN h.b hk h.b.size hb, fun p hp => ⟨fun i v hv => by
    have hl := (h.l p hp).lt
    rw [World.cell?_of_block (w := u) (hk.block p.1 hl (hn p hp))]
    exact (h.l p hp).c i v hv, Nat.lt_of_lt_of_le (h.l p hp).lt hk.size⟩⟩
/-- The rows' values in memory. -/
theorem env_vals {w : World} {p : Option Addr} {n c : Nat} {env : List (List Dt)} (h : EnvS w (.slice p n c) env) : ∃ vals : List Value, vals.length = env.length ∧ (∀ (i : Nat) (r : List Dt) (u : Value), env[i]? = some r → vals[i]? = some u → DatS w u r) ∧ (∀ a, p = some a → ∀ (j : Nat) (u : Value), vals[j]? = some u → w.cell? (a.add j) = some u) ∧ ∀ u ∈ vals, u.oneCell' = true := by
  obtain ⟨p', c', he, h1, h2, h3⟩ := h
  injection he with e1 e2 e3
  subst e1 e2 e3
  by_cases h0 : env = []
  · subst h0
    exact ⟨[], rfl, by simp, by simp, by simp⟩
  · obtain ⟨b, o, rfl, hb, hc⟩ := h3.resolve_left h0
    have each : ∀ i, i < env.length → ∃ u : Value, w.cell? ⟨b, o + i, none⟩ = some u ∧ DatS w u (env.getD i []) := fun i hi => by
      obtain ⟨v, h4, h5⟩ := hc i _ (List.getElem?_eq_getElem hi)
      exact ⟨v, h4, by rw [List.getD_eq_getElem?_getD, List.getElem?_eq_getElem hi]; exact h5⟩
    obtain ⟨F, hF⟩ := Go.Deep.choose_lt each
    have hg : ∀ (i : Nat) (u : Value), ((List.range env.length).map F)[i]? = some u → i < env.length ∧ u = F i := fun i u hu => by
      have hi : i < env.length := by have := (List.getElem?_eq_some_iff.1 hu).1; simpa using this
      rw [List.getElem?_map, List.getElem?_range hi] at hu
      exact ⟨hi, by simpa using hu.symm⟩
    refine ⟨(List.range env.length).map F, by simp, fun i r u hr hu => ?_, fun a ha j u hu => ?_, fun u hu => ?_⟩
    · obtain ⟨hi, rfl⟩ := hg i u hu
      have := (hF i hi).2
      rw [List.getD_eq_getElem?_getD, hr] at this
      exact this
    · obtain ⟨hi, rfl⟩ := hg j u hu
      cases ha
      rw [show (⟨b, o, none⟩ : Addr).add j = ⟨b, o + j, none⟩ by unfold Addr.add; split <;> simp_all]
      exact (hF j hi).1
    · obtain ⟨i, hi, rfl⟩ := List.mem_map.1 hu
      obtain ⟨p, c, hv, _⟩ := (hF i (by simpa using hi)).2
      rw [hv]; rfl

set_option maxRecDepth 100000 in
set_option maxHeartbeats 16000000 in
theorem scopes_walk {w : World} {x : Ex} (hx : ExAt w x) (hwf : x.wfs) (hcl : x.cols.length ≤ 1048576) (hcnt : x.cnt ≤ 1000000000) (env : List (List Dt)) (ve : Value) (hE : EnvS w ve env) (hnil : ∀ n c, ve = .slice none n c → c = 0) (henv : ∀ r ∈ env, ∀ d ∈ r, In64d d) (hel : env.length ≤ 1048576) (her : ∀ r ∈ env, r.length ≤ 1048576)
    (more : List Dt) (vm : Value) (hM : DatS w vm more) (subs : List Dt) (vs : Value) (hS : DatS w vs subs) (hT : Tabs w) (hP : Pow w) :
    Calls Tryd.prog 5 #[x.v, ve, vm, vs] w fun e w' => e = .returned (.bool true) ∧ Below w.heap.size w w' := by
  have hmi : ∀ d ∈ more, In64d d := by obtain ⟨_, _, _, _, _, _, h4⟩ := hM; exact h4
  have H1 := Lib.hid (fun W hW => evValue_any hx env ve hE hT henv hcnt subs vs W hW (hS.later hW))
  have H2 := Lib.hid (fun W v (hW : Below w.heap.size w W) (hv : EnvS W v (env ++ [more])) => evValue_any (hx.later hW) (env ++ [more]) v hv (hT.below hW) (fun r hr d hd => by
    rcases List.mem_append.1 hr with hr | hr
    · exact henv r hr d hd
    · simp at hr; subst hr; exact hmi d hd) hcnt subs vs W (Below.refl _ _) (hS.later hW))
  have H3 := Lib.hid (fun used W v (hW : Below w.heap.size w W) (hv : EnvS W v (otherEnv used env)) => evValue_any (hx.later hW) (otherEnv used env) v hv (hT.below hW) (fun r hr d hd => by
    unfold otherEnv at hr
    obtain ⟨i, hi, rfl⟩ := List.mem_map.1 hr
    unfold otherRow at hd
    obtain ⟨j, hj, rfl⟩ := List.mem_map.1 hd
    simp only [List.mem_range] at hi hj
    split
    · unfold dnth
      rw [List.getD_eq_getElem?_getD, List.getElem?_eq_getElem hj]
      exact henv _ (by rw [List.getD_eq_getElem?_getD, List.getElem?_eq_getElem hi]; exact List.getElem_mem hi) _ (List.getElem_mem hj)
    · exact ⟨by decide, by decide⟩) hcnt subs vs W (Below.refl _ _) (hS.later hW))
  have HA := Lib.hid (fun W (hW : Below w.heap.size w W) => alive_any W (hT.below hW) (hP.below hW))
  have HN := Lib.hid (fun b (hb : w.heap.size ≤ b) n f h W hW hM => names_any hx b hb hwf n f h W hW hM)
  have G2 := Lib.hid (fun h => value_agree hx env (env ++ [more]) subs (agree_wider _ env more) h)
  have G3 := Lib.hid (fun used hu h => value_agree hx env (otherEnv used env) subs (agree_other _ env used hu) h)
  have GB := Lib.hid (fun h => value_bad (x := x) (env := env) (subs := subs) h)
  have HE := Lib.hid hE
  have HM := Lib.hid hM
  have HER := Lib.hid her
  have HEN := Lib.hid henv
  obtain ⟨pv, cv, rfl, hs1, hs2, -, -⟩ := hS
  obtain ⟨pm, cm, rfl, hm1, hm2, -, -⟩ := hM
  obtain ⟨pe, ce, rfl, he1, he2, -⟩ := hE
  obtain ⟨xk, xt, xn, xl, xlev, xcol, xop, xkv, xsv, xkids⟩ := x
  obtain ⟨xp, xcap, xps, xns, xcs, rfl, rfl⟩ := hx.slices
  have L0 := Lib.hid (show LZ w [(w.heap.size, #[.int .i64 xk, .int .i64 xt, .bool xn, .int .i64 xl.k, .int .i64 xl.i, .string xl.s, .int .i64 xlev, .int .i64 xcol, .int .i64 xop, .slice xp xkids.length xcap, .slice xps xns xcs])] _ from (LZ.start w).push #[.int .i64 xk, .int .i64 xt, .bool xn, .int .i64 xl.k, .int .i64 xl.i, .string xl.s, .int .i64 xlev, .int .i64 xcol, .int .i64 xop, .slice xp xkids.length xcap, .slice xps xns xcs] 27)
  simp only [Ex.v] at H1 H2 H3 HN ⊢
  obtain ⟨CS, hCS⟩ : ∃ CS, CS = Ex.cols (Ex.node xk xt xn xl xlev xcol xop (.slice xp xkids.length xcap) (.slice xps xns xcs) xkids) := ⟨_, rfl⟩
  rw [← hCS] at HN hcl G3
  obtain ⟨F, hF⟩ : ∃ F, F = valueF (Ex.node xk xt xn xl xlev xcol xop (.slice xp xkids.length xcap) (.slice xps xns xcs) xkids) env subs := ⟨_, rfl⟩
  rw [← hF] at H1 G2 G3 GB
  obtain ⟨⟨fk, fi, fs⟩, fe⟩ := F
  have q1 := eqD_me3 fk fi fs
  clear hx hwf hcnt henv her hT hP hmi hCS hF
  obtain ⟨⟨xz0, xz1, xz2, xz3⟩, ⟨xz4, xz5, xz6, xz7⟩, xz8, xz9, xz10⟩ := (L0.out.l _ (.head _)).cells
  have xzl := (L0.out.l _ (.head _)).lt
  go_enter Tryd.func5, Tryd.ntmps5
  go_wp2_with fail
  refine (HA.out _ L0.out.b).mono ?_
  rintro e w1 ⟨rfl, hb⟩
  have L1 := Lib.hid (L0.out.below hb)
  obtain ⟨⟨xa0, xa1, xa2, xa3⟩, ⟨xa4, xa5, xa6, xa7⟩, xa8, xa9, xa10⟩ := (L1.out.l _ (.head _)).cells
  have xal := (L1.out.l _ (.head _)).lt
  clear hb HA L0 xz0 xz1 xz2 xz3 xz4 xz5 xz6 xz7 xz8 xz9 xz10 xzl
  go_wp2_with fail
  refine (H1.out _ L1.out.b).mono ?_
  rintro e w2 ⟨rfl, hb⟩
  have L2 := Lib.hid (L1.out.below hb)
  clear hb H1 xa0 xa1 xa2 xa3 xa4 xa5 xa6 xa7 xa8 xa9 xa10 xal
  go_upto_region 4 with fail
  obtain ⟨wr, hwr⟩ : ∃ u, u = (w2.alloc (.cells #[.int .i64 fk, .int .i64 fi, .string fs] 23)) := ⟨_, rfl⟩
  have LR := Lib.hid (show LZ w [(w2.heap.size, #[.int .i64 fk, .int .i64 fi, .string fs]), (w.heap.size, #[.int .i64 xk, .int .i64 xt, .bool xn, .int .i64 xl.k, .int .i64 xl.i, .string xl.s, .int .i64 xlev, .int .i64 xcol, .int .i64 xop, .slice xp xkids.length xcap, .slice xps xns xcs])] wr by rw [hwr]; exact L2.out.push _ _)
  rw [← hwr]
  clear hwr L1
  obtain ⟨ri, hri, hr0, hr1, hr2⟩ := info_parts Rowinfo
  go_cut [11] (fun p wc => EnvS wc p (env ++ [more]) ∧ LZ w [(w2.heap.size, #[.int .i64 fk, .int .i64 fi, .string fs]), (w.heap.size, #[.int .i64 xk, .int .i64 xt, .bool xn, .int .i64 xl.k, .int .i64 xl.i, .string xl.s, .int .i64 xlev, .int .i64 xcol, .int .i64 xop, .slice xp xkids.length xcap, .slice xps xns xcs])] wc)
  case first =>
    obtain ⟨vals, hv1, hv2, hv3, hv4⟩ := env_vals (HE.out.later LR.out.b)
    have HV2 := Lib.hid hv2
    have HV3 := Lib.hid hv3
    have HV4 := Lib.hid hv4
    have HN0 := Lib.hid (ownsRow_new wr wr.heap.size (Nat.le_refl _) 41 1 0 #[] rfl (Nat.zero_le _))
    clear hv2 hv3 hv4
    have HNW := Lib.hid (fun (o : Obj) a (ha : pe = some a) j u (hu : vals[j]? = some u) => (((Below.refl wr.heap.size wr).alloc (Nat.le_refl _) o).cell (World.block_lt_of_cell? _ _ (HV3.out a ha j u hu))).trans (HV3.out a ha j u hu))
    cases pe with
    | none =>
      obtain rfl : env = [] := by
        obtain ⟨_, _, he, _, _, h3⟩ := HE.out
        injection he with e1 _ _
        subst e1
        rcases h3 with h3 | ⟨_, _, h3, _⟩
        · exact h3
        · cases h3
      obtain rfl : ce = 0 := hnil _ _ rfl
      have hrun : ∀ ty, (Builtin.append_ #[28, 28] ty #[.slice (some ⟨wr.heap.size, 0, none⟩) 0 0, .slice none 0 0]).run Tryd.prog (wr.alloc (.cells #[] 41)) = .ok (.slice (some ⟨wr.heap.size, 0, none⟩) 0 0) (wr.alloc (.cells #[] 41)) :=
        fun ty => run_append_owned_none _ wr.heap.size 28 ty 41 ri 1 Tryd.underlying28 hri _ _ _ HN0.out
      simp only [List.length_nil] at *
      go_wp2_with (first
        | (at_builtin; refine wpList_append_own _ rfl _ _ 28 rfl wr.heap.size 41 ri (.slice none 0 0) 1 24 Tryd.underlying28 hri hr0 hr1 hr2 rfl (by decide) _ _ _ rfl (HN0.out.alloc _) ⟨wr.heap.size + 1, 0, none⟩ 1 1 [.slice pm more.length cm] rfl rfl (cell1n2 _ _ _ _) (by simp [Value.oneCell']) (by unfold maxLen; omega) (by omega) (by simp; omega) ?_; intro v'' w6 hown'' hg6 _; have HO6 := Lib.hid hown''; have HG6 := Lib.hid hg6; clear hown'' hg6; go_frame)
        | fail)
      have HB6 := Lib.hid (show Below wr.heap.size wr w6 from (((Below.refl _ _).alloc (Nat.le_refl _) _).alloc (by simp) _).grown HG6.out (by simp; omega) (fun j hj => (HN0.out.lt j hj).1))
      go_meet
      case rel =>
        refine ⟨env_of_rows (by simpa using HO6.out) (fun i r u hr hu => ?_), LR.out.below HB6.out⟩
        match i, hr, hu with
        | 0, hr, hu =>
          simp at hr hu
          subst hr hu
          exact HM.out.later (LR.out.b.trans (HB6.out.mono LR.out.b.size))
    | some a =>
      go_wp2_with (first
        | (at_builtin; refine wpList_append_own _ rfl _ _ 28 rfl wr.heap.size 41 ri (.slice none 0 0) 1 24 Tryd.underlying28 hri hr0 hr1 hr2 rfl (by decide) _ _ _ rfl HN0.out a env.length ce vals rfl (by omega) (HNW.out _ a rfl) HV4.out (by unfold maxLen; omega) (by omega) (by simp) ?_; intro v' w5 hown' hg5 _; have HO5 := Lib.hid hown'; have HG5 := Lib.hid hg5; have hz5 := hg5.size; simp only [World.size_alloc] at hz5; clear hown' hg5; go_frame)
        | (at_builtin; refine wpList_append_own _ rfl _ _ 28 rfl wr.heap.size 41 ri (.slice none 0 0) 1 24 Tryd.underlying28 hri hr0 hr1 hr2 rfl (by decide) _ _ _ rfl (HO5.out.alloc _) ⟨w5.heap.size, 0, none⟩ 1 1 [.slice pm more.length cm] rfl rfl (cell1n _ _ _) (by simp [Value.oneCell']) (by unfold maxLen; omega) (by omega) (by simp; omega) ?_; intro v'' w6 hown'' hg6 _; have HO6 := Lib.hid hown''; have HG6 := Lib.hid hg6; clear hown'' hg6; go_frame)
        | fail)
      have HB6 := Lib.hid (show Below wr.heap.size wr w6 from ((((Below.refl _ _).alloc (Nat.le_refl _) _).grown HG5.out (by simp) (fun j hj => (HN0.out.lt j hj).1)).alloc (by omega) _).grown HG6.out (by simp; omega) (fun j hj => (HO5.out.lt j hj).1))
      go_meet
      case rel =>
        refine ⟨env_of_rows (by simpa using HO6.out) (fun i r u hr hu => ?_), LR.out.below HB6.out⟩
        by_cases hi : i < env.length
        · rw [List.getElem?_append_left hi] at hr
          rw [List.getElem?_append_left (by omega)] at hu
          exact (HV2.out i r u hr hu).later HB6.out
        · rw [List.getElem?_append_right (by omega)] at hr hu
          obtain h0 : i - env.length = 0 := by have := (List.getElem?_eq_some_iff.1 hr).1; simp at this; omega
          rw [h0] at hr
          rw [hv1, h0] at hu
          simp at hr hu
          subst hr hu
          exact HM.out.later (LR.out.b.trans (HB6.out.mono LR.out.b.size))
  obtain ⟨hEw, hL⟩ := hcut
  have L3 := Lib.hid hL
  have HEW := Lib.hid hEw
  clear hL hEw LR
  obtain ⟨r9c0, r9c1, r9c2⟩ := (L3.out.l _ (.head _)).cells3
  have r9cl := (L3.out.l _ (.head _)).lt
  obtain ⟨⟨xc0, xc1, xc2, xc3⟩, ⟨xc4, xc5, xc6, xc7⟩, xc8, xc9, xc10⟩ := (L3.out.l _ (.tail _ (.head _))).cells
  have xcl := (L3.out.l _ (.tail _ (.head _))).lt
  obtain ⟨pw, cw, hvw, -⟩ := id HEW.out
  rw [List.length_append, List.length_singleton] at hvw
  subst hvw
  generalize valueF (Ex.node xk xt xn xl xlev xcol xop (.slice xp xkids.length xcap) (.slice xps xns xcs) xkids) (env ++ [more]) subs = G at *
  obtain ⟨⟨gk, gi, gs⟩, ge⟩ := G
  go_wp2_with fail
  refine (H2.out _ _ L3.out.b HEW.out).mono ?_
  rintro e w4 ⟨rfl, hb⟩
  have L4 := Lib.hid (L3.out.below hb)
  clear hb H2 HEW r9c0 r9c1 r9c2 r9cl xc0 xc1 xc2 xc3 xc4 xc5 xc6 xc7 xc8 xc9 xc10 xcl
  obtain ⟨r9d0, r9d1, r9d2⟩ := (L4.out.l _ (.head _)).cells3
  have r9dl := (L4.out.l _ (.head _)).lt
  obtain ⟨⟨xd0, xd1, xd2, xd3⟩, ⟨xd4, xd5, xd6, xd7⟩, xd8, xd9, xd10⟩ := (L4.out.l _ (.tail _ (.head _))).cells
  have xdl := (L4.out.l _ (.tail _ (.head _))).lt
  by_cases h1 : fe = 1
  · subst h1
    have hz := GB.out (by decide)
    obtain ⟨rfl, rfl, rfl⟩ : fk = 0 ∧ fi = 0 ∧ fs = ⟨#[]⟩ := by injection hz with a b c; exact ⟨a, b, c⟩
    clear hz GB G2 G3
    go_wp2_with fail
    go_ret
    exact ⟨rfl, L4.out.b.alloc L4.out.b.size _⟩
  · obtain ⟨rfl, rfl, rfl, rfl⟩ : fk = gk ∧ fi = gi ∧ fs = gs ∧ fe = ge := by
      have h2 := G2.out h1
      injection h2 with h3 h4
      injection h3 with h5 h6 h7
      exact ⟨h5.symm, h6.symm, h7.symm, h4.symm⟩
    have b1 : (fe == 1) = false := by simpa using h1
    have GF := Lib.hid (G3.out (fun a c => decide ((a, c) ∈ CS)) (fun p hp => by simpa using hp) h1)
    have H4 := Lib.hid (H3.out (fun a c => decide ((a, c) ∈ CS)))
    clear GB G2 G3 H3 h1
    rw [GF.out] at H4
    have hmm := @run_makeMap Tryd.prog
    go_wp2_with fail
    have MM := Lib.hid (MI.made (w4.alloc (.cells #[.int .i64 fk, .int .i64 fi, .string fs] 23)))
    simp only [World.size_alloc] at MM
    have L5 := Lib.hid ((L4.out.push #[.int .i64 fk, .int .i64 fi, .string fs] 23).alloc (.map #[] 0))
    have h4z := L4.out.b.size
    have hx4 := (L4.out.l _ (.tail _ (.head _))).lt
    have hr4 := (L4.out.l _ (.head _)).lt
    refine (HN.out (w4.heap.size + 1) (by omega) 0 (fun _ _ => 0) (by omega) _ L5.out.b MM.out).mono ?_
    rintro e w5 ⟨rfl, hm, hk⟩
    have L6 := Lib.hid (L5.out.k1 hk (by omega) (by simp; omega))
    have HMI := Lib.hid hm
    clear hm hk MM L5 HN r9d0 r9d1 r9d2 r9dl xd0 xd1 xd2 xd3 xd4 xd5 xd6 xd7 xd8 xd9 xd10 xdl
    obtain ⟨r12g0, r12g1, r12g2⟩ := (L6.out.l _ (.head _)).cells3
    have r12gl := (L6.out.l _ (.head _)).lt
    obtain ⟨r9g0, r9g1, r9g2⟩ := (L6.out.l _ (.tail _ (.head _))).cells3
    have r9gl := (L6.out.l _ (.tail _ (.head _))).lt
    obtain ⟨⟨xg0, xg1, xg2, xg3⟩, ⟨xg4, xg5, xg6, xg7⟩, xg8, xg9, xg10⟩ := (L6.out.l _ (.tail _ (.tail _ (.head _)))).cells
    have xgl := (L6.out.l _ (.tail _ (.tail _ (.head _)))).lt
    go_wp2_with fail
    obtain ⟨di0, hdi, hd0, hd1, hd2⟩ := info_parts Dtinfo
    go_loopw [15, 64] (fun ov iv wr => ∃ (i : Nat) (vals : List Value), i ≤ env.length ∧ iv = .int .i64 (i : Int) ∧ wr.ownsRow w5.heap.size 41 1 ov i vals ∧
        (∀ (j : Nat) (u : Value), vals[j]? = some u → wr.ownsRow 0 23 3 u (env.getD j []).length (dtCells (otherRow (fun a c => decide ((a, c) ∈ CS)) j (env.getD j [])))) ∧ Below w5.heap.size w5 wr) (fun _ iv _ => env.length - (intOf iv).toNat)
    case atStart => exact ⟨0, [], Nat.zero_le _, rfl, World.ownsRow_nil _ _ _ _, by simp, Below.refl _ _⟩
    case round =>
      obtain ⟨i, vals, hi, rfl, hrow, hvals, hbl⟩ := hrel
      have HROW := Lib.hid hrow
      have HVS := Lib.hid hvals
      have HBL := Lib.hid hbl
      have L7 := Lib.hid (L6.out.below hbl)
      have hzr := hbl.size
      obtain ⟨lp, ln, lc, hlv⟩ := owns_slice hrow
      subst hlv
      clear hrow hvals hbl r12g0 r12g1 r12g2 r12gl r9g0 r9g1 r9g2 r9gl xg0 xg1 xg2 xg3 xg4 xg5 xg6 xg7 xg8 xg9 xg10 xgl
      obtain ⟨r12h0, r12h1, r12h2⟩ := (L7.out.l _ (.head _)).cells3
      have r12hl := (L7.out.l _ (.head _)).lt
      obtain ⟨r9h0, r9h1, r9h2⟩ := (L7.out.l _ (.tail _ (.head _))).cells3
      have r9hl := (L7.out.l _ (.tail _ (.head _))).lt
      obtain ⟨⟨xh0, xh1, xh2, xh3⟩, ⟨xh4, xh5, xh6, xh7⟩, xh8, xh9, xh10⟩ := (L7.out.l _ (.tail _ (.tail _ (.head _)))).cells
      have xhl := (L7.out.l _ (.tail _ (.tail _ (.head _)))).lt
      by_cases hlt : i < env.length
      · obtain ⟨wo, rfl⟩ : ∃ u, u = wr := ⟨_, rfl⟩
        obtain ⟨eb, eo, rp, ce', rc, hev, heb, hcell, hrd⟩ := HE.out.row (lev := (i : Int)) L7.out.b (by omega) (by omega)
        obtain ⟨rfl, rfl⟩ : pe = some ⟨eb, eo, none⟩ ∧ ce = ce' := by injection hev with a _ b; exact ⟨a, b⟩
        simp only [Int.toNat_natCast] at hcell hrd
        have hrm : (env.getD i []).length ≤ 1048576 := HER.out _ (by rw [List.getD_eq_getElem?_getD, List.getElem?_eq_getElem hlt]; exact List.getElem_mem hlt)
        obtain ⟨r, hr⟩ : ∃ r, r = env.getD i [] := ⟨_, rfl⟩
        rw [← hr] at hcell hrd hrm
        have HR := Lib.hid hr
        have HRD := Lib.hid hrd
        have HMO := Lib.hid (HMI.out.below HBL.out)
        clear hr hrd hev
        go_wp2_with fail
        go_loopw [18, 71] (fun sv jv wq => ∃ j : Nat, j ≤ r.length ∧ jv = .int .i64 (j : Int) ∧ wq.ownsRow wo.heap.size 23 3 sv j (dtCells ((otherRow (fun a c => decide ((a, c) ∈ CS)) i r).take j)) ∧ Below wo.heap.size wo wq) (fun _ jv _ => r.length - (intOf jv).toNat)
        case atStart => exact ⟨0, Nat.zero_le _, rfl, World.ownsRow_nil _ _ _ _, Below.refl _ _⟩
        case round =>
          obtain ⟨j, hj, rfl, hrw, hbq⟩ := hrel
          have HRW := Lib.hid hrw
          have HBQ := Lib.hid hbq
          have hzq := hbq.size
          obtain ⟨sp, sn, sc, hsv⟩ := owns_slice hrw
          subst hsv
          clear hrw hbq
          by_cases hjl : j < r.length
          · obtain ⟨db, dof, dc, hdv, hdb, d0, d1, d2⟩ := HRD.out.at (col := (j : Int)) (by omega) (by omega)
            obtain ⟨rfl, rfl⟩ : rp = some ⟨db, dof, none⟩ ∧ rc = dc := by injection hdv with a _ b; exact ⟨a, b⟩
            simp only [Int.toNat_natCast] at d0 d1 d2
            have e0 := (HBQ.out.cell (p := ⟨db, dof + j * 3, none⟩) hdb).trans d0
            have e1 := (HBQ.out.cell (p := ⟨db, dof + j * 3 + 1, none⟩) hdb).trans d1
            have e2 := (HBQ.out.cell (p := ⟨db, dof + j * 3 + 2, none⟩) hdb).trans d2
            have HTK := Lib.hid (show dtCells ((otherRow (fun a c => decide ((a, c) ∈ CS)) i r).take (j + 1)) = dtCells ((otherRow (fun a c => decide ((a, c) ∈ CS)) i r).take j) ++ (if decide (((i : Int), (j : Int)) ∈ CS) = true then dnth r j else ⟨2, 77, ⟨#[]⟩⟩ : Dt).cells by rw [otherRow_take _ _ _ _ hjl]; exact dtCells_snoc _ _)
            generalize dnth r j = dd at *
            obtain ⟨dk, di, dst⟩ := dd
            have HMQ := Lib.hid ((HMO.out.below HBQ.out).alloc (.cells #[.int .i64 dk, .int .i64 di, .string dst] 23))
            obtain ⟨MD, hown, hMD, hat⟩ := HMQ.out
            have HOWN := Lib.hid hown
            have hcat := hat (i : Int) (j : Int) ⟨by omega, by omega⟩ ⟨by omega, by omega⟩
            have hkey := key_pair (a := (i : Int)) (c := (j : Int)) ⟨by omega, by omega⟩ ⟨by omega, by omega⟩
            clear hdv d0 d1 d2 hown hMD hat HMQ
            by_cases hm : ((i : Int), (j : Int)) ∈ CS
            · have HCAT := Lib.hid (hcat.trans (by rw [show updF (fun _ _ => 0) CS (i : Int) (j : Int) = 1 from if_pos hm]))
              rw [if_pos (by simpa using hm)] at HTK
              clear hcat
              go_wp2_with (first | (at_lookup; refine wpList_lookup_own_int _ rfl _ _ 43 rfl 45 3 .i64 pairLaw Tryd.underlying43 Tryd.underlying3 (zeroInt _) (w4.heap.size + 1) _ MD rfl HOWN.out _ _ rfl hkey ?_; intro c hatc hwc; (obtain rfl : c = 1 := by (have h := HCAT.out.symm.trans hatc; simp only [DataW.lit.injEq, Lit.int.injEq, true_and] at h; omega)); clear hatc hwc; go_frame) | (at_builtin; refine wpList_append_own _ rfl _ _ 41 rfl wo.heap.size 23 di0 (.agg #[.int .i64 0, .int .i64 0, .string ⟨#[]⟩]) 3 32 Tryd.underlying41 hdi hd0 hd1 hd2 rfl (by decide) _ _ _ rfl ((HRW.out.alloc _).alloc _) ⟨wr.heap.size + 1, 0, none⟩ 1 1 [.int .i64 dk, .int .i64 di, .string dst] rfl rfl (cell3n2 _ _ _ _ _ _) (by simp [Value.oneCell']) (by unfold maxLen; omega) (by omega) (by simp; omega) ?_; intro v' w7 hown' hg7 _; have HO7 := Lib.hid hown'; have HG7 := Lib.hid hg7; clear hown' hg7; go_frame) | fail)
              go_roundw
              case rel => exact ⟨j + 1, by omega, by go_num, by rw [HTK.out]; exact HO7.out, ((HBQ.out.alloc (by omega) _).alloc (by first | (simp; done) | (simp; omega)) _).grown HG7.out (by first | (simp; done) | (simp; omega)) (fun j hj => (HRW.out.lt j hj).1)⟩
              case measure => simp [intOf]; omega
            · have HCAT := Lib.hid (hcat.trans (by rw [show updF (fun _ _ => 0) CS (i : Int) (j : Int) = 0 from if_neg hm]))
              rw [if_neg (by simpa using hm)] at HTK
              clear hcat
              go_wp2_with (first | (at_lookup; refine wpList_lookup_own_int _ rfl _ _ 43 rfl 45 3 .i64 pairLaw Tryd.underlying43 Tryd.underlying3 (zeroInt _) (w4.heap.size + 1) _ MD rfl HOWN.out _ _ rfl hkey ?_; intro c hatc hwc; (obtain rfl : c = 0 := by (have h := HCAT.out.symm.trans hatc; simp only [DataW.lit.injEq, Lit.int.injEq, true_and] at h; omega)); clear hatc hwc; go_frame) | (at_builtin; refine wpList_append_own _ rfl _ _ 41 rfl wo.heap.size 23 di0 (.agg #[.int .i64 0, .int .i64 0, .string ⟨#[]⟩]) 3 32 Tryd.underlying41 hdi hd0 hd1 hd2 rfl (by decide) _ _ _ rfl ((HRW.out.alloc _).alloc _) ⟨wr.heap.size + 1, 0, none⟩ 1 1 [.int .i64 2, .int .i64 77, .string ⟨#[]⟩] rfl rfl (cell3n2 _ _ _ _ _ _) (by simp [Value.oneCell']) (by unfold maxLen; omega) (by omega) (by simp; omega) ?_; intro v' w7 hown' hg7 _; have HO7 := Lib.hid hown'; have HG7 := Lib.hid hg7; clear hown' hg7; go_frame) | fail)
              go_roundw
              case rel => exact ⟨j + 1, by omega, by go_num, by rw [HTK.out]; exact HO7.out, ((HBQ.out.alloc (by omega) _).alloc (by first | (simp; done) | (simp; omega)) _).grown HG7.out (by first | (simp; done) | (simp; omega)) (fun j hj => (HRW.out.lt j hj).1)⟩
              case measure => simp [intOf]; omega
          · obtain rfl : j = r.length := by omega
            have HRO := Lib.hid (ownsRow_later HROW.out HBQ.out)
            have hvl : vals.length = i := by have := HROW.out.1; omega
            go_wp2_with (first | (at_builtin; refine wpList_append_own _ rfl _ _ 28 rfl w5.heap.size 41 ri (.slice none 0 0) 1 24 Tryd.underlying28 hri hr0 hr1 hr2 rfl (by decide) _ _ _ rfl (HRO.out.alloc _) ⟨wr.heap.size, 0, none⟩ 1 1 [.slice sp sn sc] rfl rfl (cell1n _ _ _) (by simp [Value.oneCell']) (by unfold maxLen; omega) (by omega) (by simp; omega) ?_; intro v'' w8 hown'' hg8 _; have HO8 := Lib.hid hown''; have HG8 := Lib.hid hg8; clear hown'' hg8; go_frame) | fail)
            go_roundw
            case rel =>
              refine ⟨i + 1, vals ++ [.slice sp sn sc], by omega, by go_num, HO8.out, fun j u hu => ?_, ((HBL.out.trans (HBQ.out.mono hzr)).alloc (by omega) _).grown HG8.out (by first | (simp; done) | (simp; omega)) (fun j hj => (HRO.out.lt j hj).1)⟩
              by_cases hjv : j < vals.length
              · rw [List.getElem?_append_left hjv] at hu
                exact ownsRow_kept ((ownsRow_later (HVS.out j u hu) HBQ.out).alloc _) (by decide) (HRO.out.alloc _) HG8.out
              · rw [List.getElem?_append_right (by omega)] at hu
                have h0 : j - vals.length = 0 := by have := (List.getElem?_eq_some_iff.1 hu).1; simp at this; omega
                have hji : j = i := by omega
                rw [h0] at hu
                simp at hu
                subst hu hji
                have hin := HRW.out
                rw [List.take_of_length_le (by rw [otherRow_len]; exact Nat.le_refl _)] at hin
                have hin0 : wr.ownsRow 0 23 3 (.slice sp sn sc) r.length (dtCells (otherRow (fun a c => decide ((a, c) ∈ CS)) j r)) := by
                  refine ⟨hin.1, ?_⟩
                  rcases hin.2 with h | ⟨g, cap, cur, h3, _, h5⟩
                  · exact .inl h
                  · exact .inr ⟨g, cap, cur, h3, Nat.zero_le _, h5⟩
                rw [← HR.out]
                exact ownsRow_kept (hin0.alloc _) (by decide) (HRO.out.alloc _) HG8.out
            case measure => simp [intOf]; omega
      · obtain rfl : i = env.length := by omega
        have hvl : vals.length = env.length := by have := HROW.out.1; omega
        have HEO := Lib.hid (show EnvS wr (.slice lp ln lc) (otherEnv (fun a c => decide ((a, c) ∈ CS)) env) from env_of_rows (by rw [otherEnv_len]; exact HROW.out) (fun j rr u hj hu => by
          have hjl : j < env.length := by have := (List.getElem?_eq_some_iff.1 hj).1; rwa [otherEnv_len] at this
          rw [otherEnv_get _ _ _ hjl] at hj
          obtain rfl := Option.some.inj hj
          refine datS_of_row (by rw [otherRow_len]; exact HVS.out j u hu) (fun d hd => ?_)
          unfold otherRow at hd
          obtain ⟨m, hm, rfl⟩ := List.mem_map.1 hd
          simp only [List.mem_range] at hm
          split
          · unfold dnth
            rw [List.getD_eq_getElem?_getD, List.getElem?_eq_getElem hm]
            exact HEN.out _ (by rw [List.getD_eq_getElem?_getD, List.getElem?_eq_getElem hjl]; exact List.getElem_mem hjl) _ (List.getElem_mem hm)
          · exact ⟨by decide, by decide⟩))
        go_wp2_with fail
        refine (H4.out _ _ L7.out.b HEO.out).mono ?_
        rintro e w9 ⟨rfl, hb⟩
        have L9 := Lib.hid (L7.out.below hb)
        obtain ⟨r12k0, r12k1, r12k2⟩ := (L9.out.l _ (.head _)).cells3
        have r12kl := (L9.out.l _ (.head _)).lt
        obtain ⟨r9k0, r9k1, r9k2⟩ := (L9.out.l _ (.tail _ (.head _))).cells3
        have r9kl := (L9.out.l _ (.tail _ (.head _))).lt
        obtain ⟨⟨xk0, xk1, xk2, xk3⟩, ⟨xk4, xk5, xk6, xk7⟩, xk8, xk9, xk10⟩ := (L9.out.l _ (.tail _ (.tail _ (.head _)))).cells
        have xkl := (L9.out.l _ (.tail _ (.tail _ (.head _)))).lt
        clear hb r12h0 r12h1 r12h2 r12hl r9h0 r9h1 r9h2 r9hl xh0 xh1 xh2 xh3 xh4 xh5 xh6 xh7 xh8 xh9 xh10 xhl
        go_wp2_with fail
        go_ret
        exact ⟨rfl, L9.out.b.alloc L9.out.b.size _⟩
end Go.Proofs.YtokbdleokihdaaaDoor
