/- The walk of VfsPlays: it answers true. -/
import Derived.Test.YtcjhkonjlhpmhaaVfsPlaysL
import Derived.Test.YtcjhkonjlhpmhaaVfsRenW
import Derived.Test.YtcjhkonjlhpmhaaVfsClone
namespace Go.Proofs.Ytcjhkonjlhpmhaa
open Go.RowKit Go.Maps

theorem step_any {w : World} {b m r g : Nat} {d : Dk} (h : Both w b m r g d) (hok : d.Ok) (hs : d.steps < 4611686018427387904) (x : OpE) (hx : x.Ok)
    (hkr : IntsAt r g w x.kv x.o.keep) (htr : IntsAt r g w x.tv x.o.turn) (hkd : IntsAt b m w x.kv x.o.keep) (htd : IntsAt b m w x.tv x.o.turn) (hk8 : x.o.keep.length * 8 ≤ 140737488351232) (ht8 : x.o.turn.length * 8 ≤ 140737488351232) :
    Calls Try.prog 31 #[.pointer (some ⟨b, 0, none⟩), .pointer (some ⟨r, 0, none⟩), .agg #[.int .i64 x.o.kind, .int .i64 x.o.on, .int .i64 x.o.n, .string x.o.name, .string x.o.data, x.kv, x.tv]] w fun e w' => e = .returned (.bool true) ∧ SOut w w' b m r g (stepD d x.o) := by
  obtain ⟨⟨kind, on, n, nm, dt, keep, turn⟩, kv, tv⟩ := x
  obtain ⟨h1, h2, h3, -, -, hkb, htb, k1, t1⟩ := hx
  simp only at *
  obtain ⟨kp, kn, kc, rfl⟩ := k1
  obtain ⟨tp, tn, tc, rfl⟩ := t1
  by_cases c1 : kind = 1
  · subst c1; exact step_k1 h hok hs on n nm dt kp kn kc tp tn tc h1 h2 h3
  by_cases c2 : kind = 2
  · subst c2; exact step_k2 h hok hs on n nm dt kp kn kc tp tn tc h1 h2 h3
  by_cases c3 : kind = 3
  · subst c3; exact step_k3 h hok hs on n nm dt kp kn kc tp tn tc h1 h2 h3
  by_cases c4 : kind = 4
  · subst c4; exact step_k4 h hok hs on n nm dt kp kn kc tp tn tc h1 h2 h3
  by_cases c5 : kind = 5
  · subst c5; exact step_k5 h hok hs on n nm dt kp kn kc tp tn tc h1 h2 h3
  by_cases c6 : kind = 6
  · subst c6; exact step_k6 h hok hs on n nm dt kp kn kc tp tn tc h1 h2 h3
  by_cases c7 : kind = 7
  · subst c7; exact step_k7 h hok hs on n nm dt kp kn kc tp tn tc h1 h2 h3
  by_cases c8 : kind = 8
  · subst c8; exact step_k8 h hok hs on n nm dt kp kn kc tp tn tc h1 h2 h3
  by_cases c9 : kind = 9
  · subst c9; exact step_k9 h hok hs on n nm dt kp kn kc tp tn tc h1 h2 h3
  by_cases c10 : kind = 10
  · subst c10; exact step_k10 h hok hs on n nm dt kp kn kc tp tn tc h1 h2 h3 keep turn hkr htr hkd htd hkb htb hk8 ht8
  · have e : stepD d ⟨kind, on, n, nm, dt, keep, turn⟩ = d := by
      unfold stepD doesD
      simp only [c1, c2, c3, c4, c5, c6, c9, c10, if_false]
    rw [e]
    exact step_none h hok hs on n nm dt kp kn kc tp tn tc h1 h2 h3 kind c1 c2 c3 c4 c5 c6 c7 c8 c9 c10

set_option maxRecDepth 100000 in
set_option maxHeartbeats 8000000 in
theorem plays_bad (r : Int) (p : Option Addr) (n c : Nat) (w : World) (hr : r < 0 ∨ 4194304 < r) :
    Calls Try.prog 8 #[.int .i64 r, .slice p n c] w fun e w' => e = .returned (.bool true) ∧ Below w.heap.size w w' := by
  go_enter Try.func8, Try.ntmps8
  go_wp2_with fail
  refine (new_bad r w hr).mono ?_
  rintro e w1 ⟨rfl, rfl⟩
  go_wp2_with fail
  refine (ref_new_bad r w hr).mono ?_
  rintro e w1 ⟨rfl, rfl⟩
  go_wp2_with fail
  refine (known_any _).mono ?_
  rintro e w1 ⟨rfl, hB⟩
  have HBB := Lib.hid hB
  clear hB
  go_wp2_with fail
  go_ret
  exact ⟨rfl, HBB.out⟩

/-- The numbers of a call's crash stay where they are. -/
def OpI (B : Nat) (w : World) (x : OpE) : Prop := ∀ b m, B ≤ b → B ≤ m → IntsAt b m w x.kv x.o.keep ∧ IntsAt b m w x.tv x.o.turn
structure OpsBig (x : OpE) : Prop where
  k8 : x.o.keep.length * 8 ≤ 140737488351232
  t8 : x.o.turn.length * 8 ≤ 140737488351232
theorem St.start {w : World} {B b m r ga gr : Nat} {d : Dk} (hD : DAt w b m d) (hR : RAt w r r d) (hbr : b ≠ r) (hmr : m ≠ r) (h1 : B ≤ b) (h2 : B ≤ m) (h3 : B ≤ r) (ha : ga ≠ gr) (hab : ga ≠ b ∧ ga ≠ m ∧ ga ≠ r) (hrb : gr ≠ b ∧ gr ≠ m ∧ gr ≠ r)
    (ra : w.ownsRow B 26 1 (.slice (some ⟨ga, 0, none⟩) 1 1) 1 [ptr b]) (rr : w.ownsRow B 57 1 (.slice (some ⟨gr, 0, none⟩) 1 1) 1 [ptr r]) : St w B ga gr 1 1 [⟨b, m, r, r, d⟩] := by
  refine ⟨ra, rr, ha, ?_, ?_, ?_, List.pairwise_singleton _ _⟩
  · intro p hp
    obtain rfl := List.mem_singleton.1 hp
    exact ⟨hD, hR, hbr, hbr, hmr, hmr⟩
  · intro p hp
    obtain rfl := List.mem_singleton.1 hp
    exact ⟨h1, h2, h3, h3⟩
  · intro p hp
    obtain rfl := List.mem_singleton.1 hp
    refine ⟨fun e => ?_, fun e => ?_⟩ <;> rcases e with e | e | e | e <;> simp only at e <;> omega
theorem St.at {w : World} {B ga gr ca cr : Nat} {ps : List Pr} (h : St w B ga gr ca cr ps) {k : Nat} {q : Pr} (hk : ps[k]? = some q) : w.cell? ⟨ga, k, none⟩ = some (ptr q.b) ∧ w.cell? ⟨gr, k, none⟩ = some (ptr q.r) := by
  have hkl : k < ps.length := (List.getElem?_eq_some_iff.1 hk).1
  refine ⟨?_, ?_⟩
  · rw [h.ra.cellAt k (by omega), List.getElem?_map, hk]; rfl
  · rw [h.rr.cellAt k (by omega), List.getElem?_map, hk]; rfl
theorem K4.belowN {B b m r g : Nat} {w0 w w' : World} (h : K4 b m r g w w') (hB : Below B w0 w) (hBs : B ≤ w.heap.size) (h1 : B ≤ b) (h2 : B ≤ m) (h3 : B ≤ r) (h4 : B ≤ g) : Below B w0 w' := by
  exact hB.trans ⟨h.os, h.tape, h.output, h.size, fun k hk => h.block k (by omega) (by omega) (by omega) (by omega) (by omega)⟩
set_option maxRecDepth 100000 in
set_option maxHeartbeats 32000000 in
theorem plays_walk (r : Nat) (hr : r ≤ 4194304) (p : Option Addr) (n c : Nat) (es : List OpE) (w : World) (hes : OpsAt w.heap.size w (.slice p n c) es) (hI : ∀ x ∈ es, OpI w.heap.size w x) (h8 : ∀ x ∈ es, OpsBig x) :
    Calls Try.prog 8 #[.int .i64 (r : Int), .slice p n c] w fun e w' => e = .returned (.bool true) ∧ Below w.heap.size w w' := by
  obtain ⟨i0, hi, hz0, hz1, hz2⟩ := info_parts ptrinfo
  obtain ⟨i1, hi1, hy0, hy1, hy2⟩ := info_parts ptrinfo2
  have HES := Lib.hid hes
  have HI := Lib.hid hI
  have H8 := Lib.hid h8
  clear hes hI h8
  go_enter Try.func8, Try.ntmps8
  go_wp2_with fail
  refine (new_ok r w hr).mono ?_
  rintro e w1 ⟨rfl, hd1, hb1, hs1⟩
  have HD1 := Lib.hid hd1
  have HB1 := Lib.hid hb1
  clear hd1 hb1
  go_wp2_with fail
  refine (ref_new_ok r w1 hr).mono ?_
  rintro e w2 ⟨rfl, hr2, hb2⟩
  have HR2 := Lib.hid hr2
  have HD2 := Lib.hid (show DAt w2 (w.heap.size + 1) w.heap.size (Dk.new r) from HD1.out.below hb2)
  have HB2 := Lib.hid (HB1.out.trans (hb2.mono (by omega)))
  have hs2 : w1.heap.size < w2.heap.size := hr2.lt
  clear hr2 hb2 HD1 HB1
  go_wp2_with fail
  refine (known_any _).mono ?_
  rintro e w3 ⟨rfl, hb3⟩
  have HR3 := Lib.hid (HR2.out.below hb3)
  have HD3 := Lib.hid (show DAt w3 (w.heap.size + 1) w.heap.size (Dk.new r) from HD2.out.below hb3)
  have HB3 := Lib.hid (HB2.out.trans (hb3.mono (by omega)))
  have hs3 := hb3.size
  clear hb3 HR2 HD2 HB2
  go_upto_region 9 with fail
  have hla : (w3.alloc (.cells #[ptr (w.heap.size + 1)] 26)).ownsRow w.heap.size 26 1 (.slice (some ⟨w3.heap.size, 0, none⟩) 1 1) 1 [ptr (w.heap.size + 1)] := World.ownsRow_lit w3 #[ptr (w.heap.size + 1)] 1 (by omega) (by unfold maxLen; omega) rfl
  have hza : (w3.alloc (.cells #[ptr (w.heap.size + 1)] 26)).heap.size = w3.heap.size + 1 := by simp
  have hlr := World.ownsRow_lit (base := w.heap.size) (e := 57) (size := 1) (w3.alloc (.cells #[ptr (w.heap.size + 1)] 26)) #[ptr w1.heap.size] 1 (by omega) (by unfold maxLen; omega) rfl
  rw [hza] at hlr
  have hb4 : Below w3.heap.size w3 ((w3.alloc (.cells #[ptr (w.heap.size + 1)] 26)).alloc (.cells #[ptr w1.heap.size] 57)) := ((Below.refl _ _).alloc (Nat.le_refl _) _).alloc (by omega) _
  have hla2 := hla.alloc (.cells #[ptr w1.heap.size] 57)
  have hz4 : ((w3.alloc (.cells #[ptr (w.heap.size + 1)] 26)).alloc (.cells #[ptr w1.heap.size] 57)).heap.size = w3.heap.size + 2 := by simp
  generalize ((w3.alloc (.cells #[ptr (w.heap.size + 1)] 26)).alloc (.cells #[ptr w1.heap.size] 57)) = w4 at *
  have HST := Lib.hid (St.start (B := w.heap.size) (HD3.out.below hb4) (HR3.out.below hb4) (by omega) (by omega) (by omega) (Nat.le_refl _) (by omega) (by omega : w3.heap.size ≠ w3.heap.size + 1) (by omega) (by omega) hla2 hlr)
  have HB4 := Lib.hid (HB3.out.trans (hb4.mono (by omega)))
  have HES4 := Lib.hid (HES.out.below HB4.out)
  clear hla hza hlr hb4 hla2 HD3 HR3 HB3
  go_wp2_with fail
  refine (cutop_any HES4.out 400 (by omega)).mono ?_
  rintro e w4' ⟨rfl, rfl⟩
  have HT := Lib.hid (HES.out.take 400)
  have hl400 : (es.take 400).length ≤ 400 := List.length_take_le _ _
  have HTM := Lib.hid (show ∀ x ∈ es.take 400, OpI w.heap.size w x ∧ OpsBig x from fun x hx => ⟨HI.out x (List.mem_of_mem_take hx), H8.out x (List.mem_of_mem_take hx)⟩)
  generalize es.take 400 = fs at *
  have hs4 : w.heap.size ≤ w4.heap.size := by omega
  have HN0 := Lib.hid (Dk.Ok.new hr)
  clear HES HES4 HI H8 hs1 hs2 hs3 hz4
  go_wp2_with fail
  go_loopw [9, 10, 49] (fun av rv iv wr => ∃ (i ga gr ca cr : Nat) (ps : List Pr), i ≤ fs.length ∧ iv = .int .i64 (i : Int) ∧ av = .slice (some ⟨ga, 0, none⟩) ps.length ca ∧ rv = .slice (some ⟨gr, 0, none⟩) ps.length cr ∧ St wr w.heap.size ga gr ca cr ps ∧ 0 < ps.length ∧ ps.length ≤ 5 ∧ (∀ p ∈ ps, p.d.Ok ∧ p.d.steps ≤ i) ∧ Below w.heap.size w wr)
    (fun _ _ iv _ => fs.length - (intOf iv).toNat)
  case atStart =>
    refine ⟨0, _, _, _, _, _, Nat.zero_le _, rfl, rfl, rfl, HST.out, by simp, by simp, ?_, HB4.out⟩
    intro p hp
    obtain rfl := List.mem_singleton.1 hp
    exact ⟨HN0.out, Nat.le_refl _⟩
  case round =>
    obtain ⟨i, ga, gr, ca, cr, ps, hi', rfl, rfl, rfl, hst, hp0, hp5, hps, hbw⟩ := hrel
    have HS := Lib.hid hst
    have HPS := Lib.hid hps
    have HBW := Lib.hid hbw
    have hzr := hbw.size
    clear hst hps hbw HST
    by_cases hlt : i < fs.length
    · obtain ⟨x, hx⟩ : ∃ x, fs[i]? = some x := ⟨fs[i], List.getElem?_eq_getElem hlt⟩
      obtain ⟨hxo, -, g, o, rfl, hg, q0, q1, q2, q3, q4, q5, q6⟩ := (HT.out.below HBW.out).get hx
      have HXO := Lib.hid hxo
      have HXI := Lib.hid (HTM.out x (List.mem_of_getElem? hx))
      obtain ⟨xo, xk, xt⟩ := x
      obtain ⟨kp, kn, kc, hxk⟩ := hxo.k1
      obtain ⟨tp, tn, tc, hxt⟩ := hxo.t1
      simp only at hxk hxt
      subst hxk hxt
      obtain ⟨kind, on, on2, nm, dt, keep, turn⟩ := xo
      simp only at q0 q1 q2 q3 q4 q5 q6
      have hon := hxo.on0
      have hon1 := hxo.on1
      simp only at hon hon1
      clear hx hxo
      have HSM := Lib.hid (fun wx => small_any _ HXO.out wx)
      go_upto_region 12 with fail
      have hba := (Below.refl wr.heap.size wr).alloc (Nat.le_refl _) (.cells #[.int .i64 kind, .int .i64 on, .int .i64 on2, .string nm, .string dt, .slice kp kn kc, .slice tp tn tc] 49)
      have hca := op_box wr kind on on2 nm dt (.slice kp kn kc) (.slice tp tn tc) 49
      have hza : wr.heap.size < (wr.alloc (.cells #[.int .i64 kind, .int .i64 on, .int .i64 on2, .string nm, .string dt, .slice kp kn kc, .slice tp tn tc] 49)).heap.size := by simp
      generalize wr.alloc (.cells #[.int .i64 kind, .int .i64 on, .int .i64 on2, .string nm, .string dt, .slice kp kn kc, .slice tp tn tc] 49) = wa at *
      have HSA := Lib.hid (HS.out.below hba)
      have HBA := Lib.hid (HBW.out.trans (hba.mono hzr))
      have z0 : wa.cell? ⟨wr.heap.size, 0, none⟩ = some (.int .i64 kind) := hca 0
      have z1 : wa.cell? ⟨wr.heap.size, 1, none⟩ = some (.int .i64 on) := hca 1
      have z2 : wa.cell? ⟨wr.heap.size, 2, none⟩ = some (.int .i64 on2) := hca 2
      have z3 : wa.cell? ⟨wr.heap.size, 3, none⟩ = some (.string nm) := hca 3
      have z4 : wa.cell? ⟨wr.heap.size, 4, none⟩ = some (.string dt) := hca 4
      have z5 : wa.cell? ⟨wr.heap.size, 5, none⟩ = some (.slice kp kn kc) := hca 5
      have z6 : wa.cell? ⟨wr.heap.size, 6, none⟩ = some (.slice tp tn tc) := hca 6
      clear hba hca q0 q1 q2 q3 q4 q5 q6 HS HBW
      generalize hN : ps.length = N at *
      have HNL := Lib.hid hN
      clear hN
      have hk0 : 0 ≤ on % (N : Int) := Int.emod_nonneg _ (by omega)
      have hk1 : on % (N : Int) < N := Int.emod_lt_of_pos _ (by omega)
      have hpl := place_any on N wa hp0 (by omega) hon hon1
      obtain ⟨k, hk⟩ : ∃ k : Nat, on % (N : Int) = (k : Int) := ⟨_, (Int.toNat_of_nonneg hk0).symm⟩
      rw [hk] at hpl hk1
      have HPL := Lib.hid hpl
      have hkN : k < N := by omega
      obtain ⟨q, hq⟩ : ∃ q, ps[k]? = some q := ⟨ps[k]'(by rw [HNL.out]; exact hkN), List.getElem?_eq_getElem _⟩
      have HQ := Lib.hid hq
      clear hpl hk hk0 hq
      go_wp2_with fail
      refine HPL.out.mono ?_
      rintro e wa' ⟨rfl, rfl⟩
      go_wp2_with fail
      refine (HSM.out _).mono ?_
      rintro e w5 ⟨rfl, hb5⟩
      have HS5 := Lib.hid (HSA.out.below hb5)
      have HB5 := Lib.hid (HBA.out.trans (hb5.mono (by omega)))
      have hz5 := hb5.size
      have y0 : w5.cell? ⟨wr.heap.size, 0, none⟩ = some (.int .i64 kind) := by rw [hb5.cell (p := ⟨wr.heap.size, 0, none⟩) hza]; exact z0
      have y1 : w5.cell? ⟨wr.heap.size, 1, none⟩ = some (.int .i64 on) := by rw [hb5.cell (p := ⟨wr.heap.size, 1, none⟩) hza]; exact z1
      have y2 : w5.cell? ⟨wr.heap.size, 2, none⟩ = some (.int .i64 on2) := by rw [hb5.cell (p := ⟨wr.heap.size, 2, none⟩) hza]; exact z2
      have y3 : w5.cell? ⟨wr.heap.size, 3, none⟩ = some (.string nm) := by rw [hb5.cell (p := ⟨wr.heap.size, 3, none⟩) hza]; exact z3
      have y4 : w5.cell? ⟨wr.heap.size, 4, none⟩ = some (.string dt) := by rw [hb5.cell (p := ⟨wr.heap.size, 4, none⟩) hza]; exact z4
      have y5 : w5.cell? ⟨wr.heap.size, 5, none⟩ = some (.slice kp kn kc) := by rw [hb5.cell (p := ⟨wr.heap.size, 5, none⟩) hza]; exact z5
      have y6 : w5.cell? ⟨wr.heap.size, 6, none⟩ = some (.slice tp tn tc) := by rw [hb5.cell (p := ⟨wr.heap.size, 6, none⟩) hza]; exact z6
      clear hb5 z0 z1 z2 z3 z4 z5 z6 HSA HBA HPL
      have HPS1 := Lib.hid (show ∀ p ∈ ps, p.d.Ok ∧ p.d.steps ≤ i + 1 from fun p hp => ⟨(HPS.out p hp).1, by have := (HPS.out p hp).2; omega⟩)
      cases hsm : smallB ⟨kind, on, on2, nm, dt, keep, turn⟩ with
      | false =>
        clear y0 y1 y2 y3 y4 y5 y6
        go_wp2_with fail
        go_roundw
        case rel => exact ⟨i + 1, ga, gr, ca, cr, ps, by omega, by go_num, by rw [HNL.out], by rw [HNL.out], HS5.out, by rw [HNL.out]; exact hp0, by rw [HNL.out]; exact hp5, HPS1.out, HB5.out⟩
        case measure => simp [intOf]; omega
      | true =>
        have HSMT := Lib.hid hsm
        clear hsm HSM
        by_cases h11 : kind = 11
        · go_upto_region 15 with fail
          have hmq := List.mem_of_getElem? HQ.out
          obtain ⟨qa, qr⟩ := HS5.out.at HQ.out
          have HCL := Lib.hid (clone_any (HS5.out.both q hmq).D)
          have HOK := Lib.hid (HPS1.out q hmq)
          clear hmq y0 y1 y2 y3 y4 y5 y6
          go_wp2_with fail
          refine HCL.out.mono ?_
          rintro e w6 ⟨rfl, hd6, hb6, hz6⟩
          have HD6 := Lib.hid hd6
          have HB6 := Lib.hid hb6
          have HS6 := Lib.hid (HS5.out.below hb6)
          have HBW6 := Lib.hid (HB5.out.trans (hb6.mono (by omega)))
          clear hd6 hb6 HCL qa qr
          by_cases h5 : N < 5
          · have hra := HS6.out.ra
            rw [HNL.out] at hra
            have HRA := Lib.hid hra
            clear hra
            go_upto_region 20 with (first
              | (at_builtin; refine wpList_app_at rfl _ _ 60 rfl w.heap.size 26 i0 Try.underlying60 hi hz0 hz1 hz2 ga N ca _ rfl (HRA.out.alloc _) ⟨w6.heap.size, 0, none⟩ (ptr w5.heap.size) rfl (by rw [World.cell?_alloc_new]; rfl) rfl (by omega) (by simp; omega) ?_; intro ga2 ca2 w8 hr8 hg8 ha8; have HR8 := Lib.hid hr8; have HG8 := Lib.hid hg8; have HA8 := Lib.hid ha8; clear hr8 hg8 ha8; go_frame)
              | fail)
            have s8 : w6.heap.size < w8.heap.size := by have h9 := HG8.out.size; simp at h9; omega
            have hne := HS6.out.ne
            have hltr := HS6.out.ltr
            have hlo := HS6.out.lo q (List.mem_of_getElem? HQ.out)
            have hof := HS6.out.off q (List.mem_of_getElem? HQ.out)
            have hbo := HS6.out.both q (List.mem_of_getElem? HQ.out)
            have hbl := hbo.lt
            have up8 : ∀ x, x < w6.heap.size → x ≠ ga → w8.heap[x]? = w6.heap[x]? := fun x hx hn => (HG8.out.block x (by simp; omega) (fun e => hn (Option.some.inj e))).trans (((Below.refl w6.heap.size w6).alloc (Nat.le_refl _) _).block x hx)
            have HRQ8 := Lib.hid (hbo.R.of (up8 q.r hbl.2.2.1 (fun e => hof.1 (.inr (.inr (.inl e.symm))))) (up8 q.g hbl.2.2.2 (fun e => hof.1 (.inr (.inr (.inr e.symm))))))
            have HRR8 := Lib.hid (row_block_kept (w' := w8) HS6.out.rr fun x hx => by
              obtain rfl : gr = x := Option.some.inj hx
              exact up8 gr hltr.2 (fun e => hne e.symm))
            have qr8 : w8.cell? ⟨gr, k, none⟩ = some (ptr q.r) := by rw [World.cell?_of_block (w := w6) (a := ⟨gr, k, none⟩) (up8 gr hltr.2 (fun e => hne e.symm))]; exact (HS6.out.at HQ.out).2
            have HCR := Lib.hid (ref_clone HRQ8.out HOK.out.1.many)
            have HBW8 := Lib.hid ((HBW6.out.alloc (by omega) _).grown HG8.out (by simp; omega) (fun j hj => by have := (HRA.out.lt j hj).1; omega))
            clear hne hlo hof hbo hbl up8
            go_wp2_with (first
              | (go_at_call 30; refine HCR.out.mono ?_; rintro e w9 ⟨rfl, ⟨g9, hr9, hg9⟩, hb9⟩; have HR9 := Lib.hid hr9; have HB9 := Lib.hid hb9; have hrr := row_block_kept (w' := w9) HRR8.out (fun x hx => hb9.block x (HRR8.out.lt x hx).2); rw [HNL.out] at hrr; have HRR9 := Lib.hid hrr; have hz9 : w8.heap.size ≤ w9.heap.size := hb9.size; clear hr9 hb9 hrr)
              | (at_builtin; refine wpList_app_at rfl _ _ 61 rfl w.heap.size 57 i1 Try.underlying61 hi1 hy0 hy1 hy2 gr N cr _ rfl (HRR9.out.alloc _) ⟨w9.heap.size, 0, none⟩ (ptr w8.heap.size) rfl (by rw [World.cell?_alloc_new]; rfl) rfl (by omega) (by simp; omega) ?_; intro gr2 cr2 w10 hr10 hg10 ha10; have HR10 := Lib.hid hr10; have HG10 := Lib.hid hg10; have HA10 := Lib.hid ha10; clear hr10 hg10 ha10; go_frame)
              | fail)
            have hr8 := HR8.out
            have hr10 := HR10.out
            rw [← HNL.out] at hr8 hr10
            have HP := Lib.hid (St.push HS5.out HB6.out HD6.out (Nat.le_refl _) (by omega) ((Below.refl w6.heap.size w6).alloc (Nat.le_refl _) (.cells #[ptr w5.heap.size] 26)) hr8 HG8.out HA8.out HB9.out HR9.out (Nat.le_refl _) hg9 ((Below.refl w9.heap.size w9).alloc (Nat.le_refl _) (.cells #[ptr w8.heap.size] 57)) hr10 HG10.out HA10.out)
            have HBW10 := Lib.hid (((HBW8.out.trans (HB9.out.mono (by omega))).alloc (by omega) (.cells #[ptr w8.heap.size] 57)).grown HG10.out (by simp; omega) (fun j hj => by have := (HRR9.out.lt j hj).1; omega))
            clear hr8 hr10
            go_roundw
            case rel =>
              refine ⟨i + 1, ga2, gr2, ca2, cr2, ps ++ [⟨w5.heap.size, w5.heap.size + 1, w8.heap.size, g9, q.d⟩], by omega, by go_num, by simp [HNL.out], by simp [HNL.out], HP.out, by simp, by simp [HNL.out]; omega, ?_, HBW10.out⟩
              intro p hp
              rcases List.mem_append.1 hp with hp | hp
              · exact HPS1.out p hp
              · obtain rfl := List.mem_singleton.1 hp
                exact HOK.out
            case measure => simp [intOf]; omega
          · go_wp2_with fail
            go_roundw
            case rel => exact ⟨i + 1, ga, gr, ca, cr, ps, by omega, by go_num, by rw [HNL.out], by rw [HNL.out], HS6.out, by rw [HNL.out]; exact hp0, by rw [HNL.out]; exact hp5, HPS1.out, HBW6.out⟩
            case measure => simp [intOf]; omega
        · have hmq := List.mem_of_getElem? HQ.out
          obtain ⟨qa, qr⟩ := HS5.out.at HQ.out
          have HOK := Lib.hid (HPS.out q hmq)
          clear hmq
          go_upto_region 21 with fail
          go_still_tail 9, (by kernel_rfl)
          change wpList _ _ _ _ _ w5.drew
          have HS6 := Lib.hid (HS5.out.below (Below.refl _ _).drew)
          have HB6 := Lib.hid HB5.out.drew
          clear qa qr y0 y1 y2 y3 y4 y5 y6 HS5 HB5
          have hz6 : wa.heap.size ≤ w5.drew.heap.size := hz5
          generalize w5.drew = w6 at *
          have hmq := List.mem_of_getElem? HQ.out
          have hlo := HS6.out.lo q hmq
          have HSTEP := Lib.hid (step_any (HS6.out.both q hmq) HOK.out.1 (by have := HOK.out.2; omega) _ HXO.out ((HXI.out.1 q.r q.g hlo.2.2.1 hlo.2.2.2).1.kept (Kp.of_below HB6.out)) ((HXI.out.1 q.r q.g hlo.2.2.1 hlo.2.2.2).2.kept (Kp.of_below HB6.out)) ((HXI.out.1 q.b q.m hlo.1 hlo.2.1).1.kept (Kp.of_below HB6.out)) ((HXI.out.1 q.b q.m hlo.1 hlo.2.1).2.kept (Kp.of_below HB6.out)) HXI.out.2.k8 HXI.out.2.t8)
          have HNEW := Lib.hid (show (stepD q.d ⟨kind, on, on2, nm, dt, keep, turn⟩).Ok ∧ (stepD q.d ⟨kind, on, on2, nm, dt, keep, turn⟩).steps ≤ i + 1 from ⟨HOK.out.1.stepD _ (by have := HXO.out.n1; simp only at this; show on2 < _; omega), Nat.le_trans (stepD_steps _) (by have := HOK.out.2; omega)⟩)
          have HLO := Lib.hid hlo
          clear hmq hlo
          go_wp2_with fail
          refine HSTEP.out.mono ?_
          rintro e w7 ⟨rfl, ho⟩
          obtain ⟨g', hst7⟩ := HS6.out.step HQ.out ho
          have HS7 := Lib.hid hst7
          have HB7 := Lib.hid (by obtain ⟨_, _, _, hk4⟩ := ho; exact hk4.belowN HB6.out (by omega) HLO.out.1 HLO.out.2.1 HLO.out.2.2.1 HLO.out.2.2.2 : Below w.heap.size w w7)
          clear hst7 ho HSTEP
          go_wp2_with fail
          go_roundw
          case rel =>
            refine ⟨i + 1, ga, gr, ca, cr, _, by omega, by go_num, by rw [List.length_set, HNL.out], by rw [List.length_set, HNL.out], HS7.out, by rw [List.length_set, HNL.out]; exact hp0, by rw [List.length_set, HNL.out]; exact hp5, ?_, HB7.out⟩
            intro p hp
            rcases List.mem_or_eq_of_mem_set hp with hp | rfl
            · exact HPS1.out p hp
            · exact HNEW.out
          case measure => simp [intOf]; omega
    · obtain rfl : i = fs.length := by omega
      clear HT HTM hl400 HB4
      generalize hN : ps.length = N at *
      have HNL := Lib.hid hN
      clear hN
      go_wp2_with fail
      go_loopw [100] (fun iv wr => ∃ j : Nat, j ≤ N ∧ iv = .int .i64 (j : Int) ∧ St wr w.heap.size ga gr ca cr ps ∧ Below w.heap.size w wr) (fun iv _ => N - (intOf iv).toNat)
      case atStart => exact ⟨0, Nat.zero_le _, rfl, HS.out, HBW.out⟩
      case round =>
        obtain ⟨j, hj, rfl, hs2, hb2⟩ := hrel
        have HS2 := Lib.hid hs2
        have HB2 := Lib.hid hb2
        have hz2 := hb2.size
        clear hb2 hs2
        by_cases hlt2 : j < N
        · obtain ⟨q, hq⟩ : ∃ q, ps[j]? = some q := ⟨ps[j]'(by rw [HNL.out]; exact hlt2), List.getElem?_eq_getElem _⟩
          have hmq := List.mem_of_getElem? hq
          obtain ⟨qa, qr⟩ := HS2.out.at hq
          have hOK := (HPS.out q hmq).1
          have HOK := Lib.hid hOK
          have HBO := Lib.hid (HS2.out.both q hmq)
          have hji : (j : Int) < (N : Int) := by omega
          have hj0 : (0 : Int) ≤ (j : Int) := by omega
          clear hq hmq hOK
          go_upto_region 27 with fail
          go_still_tail 8, (by kernel_rfl)
          change wpList _ _ _ _ _ wr.drew
          have HB3 := Lib.hid HB2.out.drew
          have HBD := Lib.hid (HBO.out.below (Below.refl _ _).drew)
          have HS3 := Lib.hid (HS2.out.below (Below.refl _ _).drew)
          have hz3 : w.heap.size ≤ wr.drew.heap.size := hz2
          clear qa qr HB2 HS2 HBO
          generalize wr.drew = w5 at *
          have HSA := Lib.hid (stands_any HBD.out HOK.out)
          go_wp2_with fail
          refine HSA.out.mono ?_
          rintro e w6 ⟨rfl, hb6⟩
          have HB6 := Lib.hid (HB3.out.trans (hb6.mono hz3))
          have HS6 := Lib.hid (HS3.out.below hb6)
          clear hb6 HSA
          go_wp2_with fail
          go_roundw
          case rel => exact ⟨j + 1, by omega, by go_num, HS6.out, HB6.out⟩
          case measure => simp [intOf]; omega
        · obtain rfl : j = N := by omega
          go_wp2_with fail
          go_ret
          exact ⟨rfl, HB2.out⟩
end Go.Proofs.Ytcjhkonjlhpmhaa
