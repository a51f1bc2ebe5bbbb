/- Results of an evaluation: type assertions, '!=' between two; the contract of eval.truth. The contract of eval.apply. Expressions in memory; the contract of eval.many. Rows of scopes; the contracts of eval.kids, eval.truth. The contract of eval.right. The document's many, of an operator. -/
import Derived.Test.YtokbdleokihdaaaGreatDoorG22
import Derived.Test.YtokbdleokihdaaaGreatDoorG02
import Derived.LaidEql
import Derived.BigQuiet
import Derived.Deep.QuietTactic
import Derived.Outline
import Derived.Test.YtokbdleokihdaaaGreatDoorOpenDS
import Derived.Test.YtokbdleokihdaaaGreatDoorG05
namespace Go.Proofs.YtokbdleokihdaaaGreatDoor
open Go.RowKit

/-- A result as the program holds it: a value, or an error. -/
def resV (r : Dt × Int) : Value := if r.2 = 0 then .iface 27 r.1.v else .iface 33 (.int .i64 r.2)

theorem ta_d (v : Value) (x : TypeId) (w : World) : (Instr.typeAssert (.iface 27 v) x 27 true).run Tryz.prog w = .ok (.tuple #[v, .bool true]) w := by
  simp [Instr.typeAssert, run_underlying Tryz.underlying27, go_sem]
theorem ta_dm (v : Value) (x : TypeId) (w : World) : (Instr.typeAssert (.iface 33 v) x 27 true).run Tryz.prog w = .ok (.tuple #[.agg #[.int .i64 0, .int .i64 0, .string ⟨#[]⟩], .bool false]) w := by
  obtain ⟨j, hj, hz⟩ := Option.map_eq_some_iff.1 (show (Tryz.prog.info? 27).map (·.zero) = some (some (.agg #[.int .i64 0, .int .i64 0, .string ⟨#[]⟩])) by kernel_rfl)
  simp [Instr.typeAssert, run_underlying Tryz.underlying27, zeroValue, typeInfo, hj, hz, go_sem]
theorem ta_e (v : Value) (x : TypeId) (w : World) : (Instr.typeAssert (.iface 33 v) x 33 true).run Tryz.prog w = .ok (.tuple #[v, .bool true]) w := by
  simp [Instr.typeAssert, run_underlying Tryz.underlying33, go_sem]
theorem ta_em (v : Value) (x : TypeId) (w : World) : (Instr.typeAssert (.iface 27 v) x 33 true).run Tryz.prog w = .ok (.tuple #[.int .i64 0, .bool false]) w := by
  obtain ⟨j, hj, hz⟩ := Option.map_eq_some_iff.1 (show (Tryz.prog.info? 33).map (·.zero) = some (some (.int .i64 0)) by kernel_rfl)
  simp [Instr.typeAssert, run_underlying Tryz.underlying33, zeroValue, typeInfo, hj, hz, go_sem]
attribute [go_sem ↓] ta_d ta_dm ta_e ta_em

/-- '==', '!=' between two results, one of them a value. -/
theorem eqIn_res (d : Nat) (ak ai : Int) (sa : ByteArray) (bk bi : Int) (sb : ByteArray) (w : World) :
    (Op.equalIn (d + 1) 45 (.iface 27 (.agg #[.int .i64 ak, .int .i64 ai, .string sa])) (.iface 27 (.agg #[.int .i64 bk, .int .i64 bi, .string sb]))).run Tryz.prog w
      = (Op.equalIn d 27 (.agg #[.int .i64 ak, .int .i64 ai, .string sa]) (.agg #[.int .i64 bk, .int .i64 bi, .string sb])).run Tryz.prog w := by
  obtain ⟨j, hj, hc⟩ := Option.map_eq_some_iff.1 (show (Tryz.prog.info? 27).map (·.comparable) = some true by kernel_rfl)
  simp [Op.equalIn, run_underlying Tryz.underlying45, typeInfo, hj, hc]
theorem eqIn_dat (ak ai : Int) (sa : ByteArray) (bk bi : Int) (sb : ByteArray) (w : World) :
    (Op.equalIn 9999 27 (.agg #[.int .i64 ak, .int .i64 ai, .string sa]) (.agg #[.int .i64 bk, .int .i64 bi, .string sb])).run Tryz.prog w = .ok (eqD ak ai sa bk bi sb) w := by
  unfold eqD
  go_simp
  by_cases h1 : ak = bk <;> by_cases h2 : ai = bi <;> by_cases h3 : sa.toList = sb.toList <;> simp [h1, h2, h3]
theorem run_eql_res (ak ai : Int) (sa : ByteArray) (bk bi : Int) (sb : ByteArray) (w : World) :
    (Go.binOp .eql 45 (.iface 27 (.agg #[.int .i64 ak, .int .i64 ai, .string sa])) (.iface 27 (.agg #[.int .i64 bk, .int .i64 bi, .string sb]))).run Tryz.prog w = .ok (.bool (eqD ak ai sa bk bi sb)) w := by
  simp only [Go.binOp]
  simp [Op.equal, Op.maxDepth, eqIn_res 9999, eqIn_dat]
theorem run_neq_res (ak ai : Int) (sa : ByteArray) (bk bi : Int) (sb : ByteArray) (w : World) :
    (Go.binOp .neq 45 (.iface 27 (.agg #[.int .i64 ak, .int .i64 ai, .string sa])) (.iface 27 (.agg #[.int .i64 bk, .int .i64 bi, .string sb]))).run Tryz.prog w = .ok (.bool (!eqD ak ai sa bk bi sb)) w := by
  simp only [Go.binOp]
  simp [Op.equal, Op.maxDepth, eqIn_res 9999, eqIn_dat]
theorem run_eql_err (v u : Value) (w : World) :
    (Go.binOp .eql 45 (.iface 33 v) (.iface 27 u)).run Tryz.prog w = .ok (.bool false) w := by
  have h : ∀ d : Nat, (Op.equalIn (d + 1) 45 (.iface 33 v) (.iface 27 u)).run Tryz.prog w = .ok false w := fun d => by simp [Op.equalIn, run_underlying Tryz.underlying45]
  simp only [Go.binOp]
  simp [Op.equal, Op.maxDepth, h 9999]
theorem run_neq_err (v u : Value) (w : World) :
    (Go.binOp .neq 45 (.iface 33 v) (.iface 27 u)).run Tryz.prog w = .ok (.bool true) w := by
  have h : ∀ d : Nat, (Op.equalIn (d + 1) 45 (.iface 33 v) (.iface 27 u)).run Tryz.prog w = .ok false w := fun d => by simp [Op.equalIn, run_underlying Tryz.underlying45]
  simp only [Go.binOp]
  simp [Op.equal, Op.maxDepth, h 9999]
attribute [go_sem ↓] run_eql_res run_neq_res run_eql_err run_neq_err

set_option maxRecDepth 100000 in
set_option maxHeartbeats 1000000 in
theorem evtruth_any (r : Dt × Int) (w : World) :
    Calls Tryz.prog 46 #[resV r] w fun e w' => e = .returned (.tuple #[.bool (decide (r.2 = 0) && r.1.i == 1), .bool (decide (r.2 = 0) && r.1.k == 1)]) ∧ Below w.heap.size w w' := by
  obtain ⟨⟨dk, di, ds⟩, er⟩ := r
  by_cases h : er = 0
  · subst h
    rw [show resV (⟨dk, di, ds⟩, 0) = .iface 27 (.agg #[.int .i64 dk, .int .i64 di, .string ds]) from rfl]
    simp only [decide_true, Bool.true_and]
    go_enter Tryz.func46, Tryz.ntmps46
    go_wp2_with fail
    go_quiet (fail)
    go_wp2_with fail
    go_ret2
    refine ⟨by simp [*], (((Below.refl w.heap.size w).alloc (Nat.le_refl _) _).trans ((below_drewN _).mono (by simp)))⟩
  · rw [show resV (⟨dk, di, ds⟩, er) = .iface 33 (.int .i64 er) from if_neg h]
    go_enter Tryz.func46, Tryz.ntmps46
    go_wp2_with fail
    go_quiet (fail)
    go_wp2_with fail
    go_ret2
    refine ⟨by simp [*], (((Below.refl w.heap.size w).alloc (Nat.le_refl _) _).trans ((below_drewN _).mono (by simp)))⟩
theorem resV_ok (k i : Int) (s : ByteArray) : resV (⟨k, i, s⟩, 0) = .iface 27 (.agg #[.int .i64 k, .int .i64 i, .string s]) := rfl
theorem resV_err {r : Dt × Int} (h : r.2 ≠ 0) : resV r = .iface 33 (.int .i64 r.2) := if_neg h
theorem evtruth_ok (k i : Int) (s : ByteArray) (w : World) :
    Calls Tryz.prog 46 #[.iface 27 (.agg #[.int .i64 k, .int .i64 i, .string s])] w fun e w' => e = .returned (.tuple #[.bool (i == 1), .bool (k == 1)]) ∧ Below w.heap.size w w' := by
  have h := evtruth_any (⟨k, i, s⟩, 0) w
  simp only [decide_true, Bool.true_and] at h
  exact h
theorem evtruth_err (er : Int) (h0 : er ≠ 0) (w : World) :
    Calls Tryz.prog 46 #[.iface 33 (.int .i64 er)] w fun e w' => e = .returned (.tuple #[.bool false, .bool false]) ∧ Below w.heap.size w w' := by
  have h := evtruth_any (Dt.zero, er) w
  rw [resV_err (r := (Dt.zero, er)) h0] at h
  simp only [decide_eq_false h0, Bool.false_and] at h
  exact h
end Go.Proofs.YtokbdleokihdaaaGreatDoor
namespace Go.Proofs.YtokbdleokihdaaaGreatDoor
open Go.RowKit

def dtCells (ds : List Dt) : List Value := ds.flatMap Dt.cells
theorem dtCells_snoc (ds : List Dt) (d : Dt) : dtCells (ds ++ [d]) = dtCells ds ++ d.cells := by simp [dtCells]
theorem dtCells_length (ds : List Dt) : (dtCells ds).length = ds.length * 3 := by
  induction ds with
  | nil => rfl
  | cons d ds ih => simp only [dtCells, List.flatMap_cons, List.length_append, List.length_cons] at ih ⊢; rw [ih]; simp [Dt.cells]; omega
theorem dtCells_get : ∀ (ds : List Dt) (i j : Nat) (u : Value), i < ds.length → (dnth ds i).cells[j]? = some u → (dtCells ds)[i * 3 + j]? = some u
  | d :: ds, 0, j, u, _, h => by
    have hj : j < d.cells.length := (List.getElem?_eq_some_iff.1 h).1
    simp only [dtCells, List.flatMap_cons]
    rw [Nat.zero_mul, Nat.zero_add, List.getElem?_append_left hj]
    exact h
  | d :: ds, i + 1, j, u, hi, h => by
    simp only [dtCells, List.flatMap_cons]
    rw [List.getElem?_append_right (by simp [Dt.cells]; omega)]
    rw [show (i + 1) * 3 + j - d.cells.length = i * 3 + j by simp [Dt.cells]; omega]
    exact dtCells_get ds i j u (by simpa using hi) (by simpa [dnth] using h)
theorem datS_of_row {w : World} {B : Nat} {e : TypeId} {v : Value} {ds : List Dt} (h : w.ownsRow B e 3 v ds.length (dtCells ds)) (hi : ∀ d ∈ ds, -9223372036854775808 ≤ d.i ∧ d.i ≤ 9223372036854775807) : DatS w v ds := by
  have h0 := h
  rcases h.2 with ⟨rfl, hn⟩ | ⟨g, cap, cur, rfl, hB, hg, hc, hm, hz, ht⟩
  · have : ds = [] := List.length_eq_zero_iff.1 hn
    subst this
    exact ⟨none, 0, rfl, Nat.le_refl _, by omega, .inl rfl, by simp⟩
  · refine ⟨_, cap, rfl, hc, by unfold maxLen at hm; omega, ?_, hi⟩
    by_cases hds : ds = []
    · exact .inl hds
    · refine .inr ⟨g, 0, rfl, ?_, ?_⟩
      · have := (Array.getElem?_eq_some_iff.1 hg).1; exact this
      · intro i hil
        have hat := fun j (hj : j < ds.length * 3) => h0.cellAt j hj
        have h1 := hat (i * 3) (by omega)
        have h2 := hat (i * 3 + 1) (by omega)
        have h3 := hat (i * 3 + 2) (by omega)
        rw [show i * 3 = i * 3 + 0 by omega, dtCells_get ds i 0 (.int .i64 (dnth ds i).k) hil rfl] at h1
        rw [dtCells_get ds i 1 (.int .i64 (dnth ds i).i) hil rfl] at h2
        rw [dtCells_get ds i 2 (.string (dnth ds i).s) hil rfl] at h3
        refine ⟨?_, ?_, ?_⟩
        · simpa using h1
        · simpa using h2
        · simpa using h3

/-- Cells that hold results. -/
def ResCells (w : World) (b o : Nat) (rs : List (Dt × Int)) : Prop := ∀ i r, rs[i]? = some r → w.cell? ⟨b, o + i, none⟩ = some (resV r)
/-- What apply answers. -/
def applyF (op : Int) : List Dt → List (Dt × Int) → Dt × Int
  | acc, [] => appF op acc
  | acc, r :: rest => if r.2 ≠ 0 then (Dt.zero, r.2) else applyF op (acc ++ [r.1]) rest
theorem applyF_step {op : Int} {rs : List (Dt × Int)} {acc : List Dt} {i : Nat} {r : Dt × Int} (h : rs[i]? = some r) (h0 : r.2 = 0) : applyF op acc (rs.drop i) = applyF op (acc ++ [r.1]) (rs.drop (i + 1)) := by
  have hi : i < rs.length := (List.getElem?_eq_some_iff.1 h).1
  have hr : rs[i] = r := (List.getElem?_eq_some_iff.1 h).2
  rw [List.drop_eq_getElem_cons hi, hr]
  rw [applyF, if_neg (by simp [h0])]
theorem applyF_bad {op : Int} {rs : List (Dt × Int)} {acc : List Dt} {i : Nat} {r : Dt × Int} (h : rs[i]? = some r) (h0 : r.2 ≠ 0) : applyF op acc (rs.drop i) = (Dt.zero, r.2) := by
  have hi : i < rs.length := (List.getElem?_eq_some_iff.1 h).1
  have hr : rs[i] = r := (List.getElem?_eq_some_iff.1 h).2
  rw [List.drop_eq_getElem_cons hi, hr]
  rw [applyF, if_pos h0]
theorem resV_bad {r : Dt × Int} (h : r.2 ≠ 0) (d : Dt) : resV (d, r.2) = resV r := by simp [resV, h]
theorem Dtinfo : (Tryz.prog.info? 27).map (fun i => (i.zero, i.size, i.bytes)) = some (some (.agg #[.int .i64 0, .int .i64 0, .string ⟨#[]⟩]), 3, 32) := by kernel_rfl
theorem cell3n (W : World) (x y z : Value) (t : TypeId) (j : Nat) (u : Value) (hj : [x, y, z][j]? = some u) : (W.alloc (.cells #[x, y, z] t)).cell? ((⟨W.heap.size, 0, none⟩ : Addr).add j) = some u := by
  have hadd : (⟨W.heap.size, 0, none⟩ : Addr).add j = ⟨W.heap.size, j, none⟩ := by unfold Addr.add; split <;> simp_all
  rw [hadd, World.cell?_alloc_new]
  match j, hj with
  | 0, hj => exact hj
  | 1, hj => exact hj
  | 2, hj => exact hj

theorem cell3n2 (W : World) (u : Obj) (x y z : Value) (t : TypeId) (j : Nat) (v : Value) (hj : [x, y, z][j]? = some v) : ((W.alloc u).alloc (.cells #[x, y, z] t)).cell? ((⟨W.heap.size + 1, 0, none⟩ : Addr).add j) = some v := by
  have := cell3n (W.alloc u) x y z t j v hj
  rwa [World.size_alloc] at this

set_option maxRecDepth 100000 in
set_option maxHeartbeats 4000000 in
theorem evapply_any (op : Int) (rs : List (Dt × Int)) (b o cap : Nat) (w : World) (hn : rs.length ≤ 5) (hbk : b < w.heap.size) (hc : ResCells w b o rs) (hT : Tabs w) (hi64 : ∀ r ∈ rs, -9223372036854775808 ≤ r.1.i ∧ r.1.i ≤ 9223372036854775807) :
    Calls Tryz.prog 47 #[.int .i64 op, .slice (some ⟨b, o, none⟩) rs.length cap] w fun e w' => e = .returned (resV (applyF op [] rs)) ∧ Below w.heap.size w w' := by
  obtain ⟨i0, hi, hz0, hz1, hz2⟩ := info_parts Dtinfo
  have HC := Lib.hid hc
  have HT := Lib.hid hT
  have HI := Lib.hid hi64
  clear hc hT hi64
  go_enter Tryz.func47, Tryz.ntmps47
  go_wp2_with fail
  go_loopw [5, 14] (fun lv iv wr => ∃ i : Nat, i ≤ rs.length ∧ iv = .int .i64 (i : Int) ∧ wr.ownsRow w.heap.size 27 3 lv i (dtCells ((rs.take i).map (·.1))) ∧ applyF op [] rs = applyF op ((rs.take i).map (·.1)) (rs.drop i) ∧ Below w.heap.size w wr)
    (fun _ iv _ => rs.length - (intOf iv).toNat)
  case atStart => exact ⟨0, Nat.zero_le _, rfl, World.ownsRow_nil _ _ _ _, rfl, Below.refl _ _⟩
  case round =>
    obtain ⟨i, hi', rfl, hrow, hF, hnx⟩ := hrel
    have HROW := Lib.hid hrow
    have HNX := Lib.hid hnx
    have HF := Lib.hid hF
    have hzr := hnx.size
    clear hrow hnx hF
    obtain ⟨lp, ln, lc, hlv⟩ := owns_slice HROW.out
    subst hlv
    by_cases hlt : i < rs.length
    · obtain ⟨r, hr⟩ : ∃ r, rs[i]? = some r := ⟨rs[i], List.getElem?_eq_getElem hlt⟩
      have hcell : wr.cell? ⟨b, o + i, none⟩ = some (resV r) := (HNX.out.cell (p := ⟨b, o + i, none⟩) hbk).trans (HC.out i r hr)
      by_cases h0 : r.2 = 0
      · have HST := Lib.hid (applyF_step (op := op) (acc := (rs.take i).map (·.1)) hr h0)
        have HTK := Lib.hid (show dtCells ((rs.take (i + 1)).map (·.1)) = dtCells ((rs.take i).map (·.1)) ++ r.1.cells by rw [List.take_add_one, hr, List.map_append]; exact dtCells_snoc _ _)
        have HMK := Lib.hid (show (rs.take (i + 1)).map (·.1) = (rs.take i).map (·.1) ++ [r.1] by rw [List.take_add_one, hr, List.map_append]; rfl)
        obtain ⟨⟨dk, di, ds⟩, er⟩ := r
        simp only at h0
        subst h0
        rw [show resV (⟨dk, di, ds⟩, 0) = .iface 27 (.agg #[.int .i64 dk, .int .i64 di, .string ds]) from rfl] at hcell
        clear hr
        go_wp2_with (at_builtin; refine wpList_append_own _ rfl _ _ 25 rfl w.heap.size 27 i0 (.agg #[.int .i64 0, .int .i64 0, .string ⟨#[]⟩]) 3 32 Tryz.underlying25 hi hz0 hz1 hz2 rfl (by decide) _ _ _ rfl ((HROW.out.alloc _).alloc _) ⟨wr.heap.size + 1, 0, none⟩ 1 1 [.int .i64 dk, .int .i64 di, .string ds] rfl rfl (cell3n2 _ _ _ _ _ _) (by simp [Value.oneCell']) (by unfold maxLen; omega) (by omega) (by simp; omega) ?_; intro v' w3 hown' hg3 _; have HO3 := Lib.hid hown'; have HG3 := Lib.hid hg3; clear hown' hg3; go_frame)
        go_roundw
        case rel =>
          refine ⟨i + 1, by omega, by go_num, by rw [HTK.out]; exact HO3.out, by rw [HF.out, HST.out, HMK.out], ?_⟩
          exact ((HNX.out.alloc (by omega) _).alloc (by simp; omega) _).grown HG3.out (by simp; omega) (fun j hj => (HROW.out.lt j hj).1)
        case measure => simp [intOf]; omega
      · have HBD := Lib.hid (applyF_bad (op := op) (acc := (rs.take i).map (·.1)) hr h0)
        have HRB := Lib.hid (resV_bad h0 Dt.zero)
        have hcell2 : wr.cell? ⟨b, o + i, none⟩ = some (.iface 33 (.int .i64 r.2)) := by rw [hcell, resV, if_neg h0]
        have HRV := Lib.hid (show resV r = .iface 33 (.int .i64 r.2) by rw [resV, if_neg h0])
        clear hcell hr
        go_wp2_with fail
        go_ret
        refine ⟨congrArg Ending.returned (show resV (applyF op [] rs) = .iface 33 (.int .i64 r.2) by rw [HF.out, HBD.out, HRB.out, HRV.out]).symm, ?_⟩
        exact HNX.out.alloc (by omega) _
    · obtain rfl : i = rs.length := by omega
      have HDS := Lib.hid (show DatS wr (.slice lp ln lc) (rs.map (·.1)) from datS_of_row (by have := HROW.out; rw [List.take_length] at this; rw [List.length_map]; exact this) (fun d hd => by
        obtain ⟨r, hr, rfl⟩ := List.mem_map.1 hd
        exact HI.out r hr))
      have HFF := Lib.hid (show applyF op [] rs = appF op (rs.map (·.1)) by rw [HF.out, List.take_length, List.drop_length, applyF])
      have HAP := Lib.hid ((both_any_args op _ _ wr HDS.out (by simpa using hn) (HT.out.below HNX.out)).1)
      clear HROW HDS HF
      generalize appF op (rs.map (·.1)) = R at *
      obtain ⟨⟨rk, ri, rs'⟩, er⟩ := R
      by_cases h0 : er = 0
      · subst h0
        have HV := Lib.hid (show resV (applyF op [] rs) = .iface 27 (.agg #[.int .i64 rk, .int .i64 ri, .string rs']) by rw [HFF.out]; rfl)
        go_wp2_with (first | (go_at_call 64; refine (HAP.out _ (Below.refl _ _)).mono ?_; rintro e w2 ⟨rfl, hb2⟩; have HB2 := Lib.hid (HNX.out.trans (hb2.mono hzr)); clear hb2) | fail)
        go_ret
        exact ⟨congrArg Ending.returned HV.out.symm, HB2.out.alloc HB2.out.size _⟩
      · have HV := Lib.hid (show resV (applyF op [] rs) = .iface 33 (.int .i64 er) by rw [HFF.out]; exact if_neg h0)
        go_wp2_with (first | (go_at_call 64; refine (HAP.out _ (Below.refl _ _)).mono ?_; rintro e w2 ⟨rfl, hb2⟩; have HB2 := Lib.hid (HNX.out.trans (hb2.mono hzr)); clear hb2) | fail)
        go_ret
        exact ⟨congrArg Ending.returned HV.out.symm, HB2.out.alloc HB2.out.size _⟩
/-- apply at two results in a new block. -/
theorem apply_new2 (op : Int) (r0 r1 : Dt × Int) (u0 u1 : Value) (h0 : u0 = resV r0) (h1 : u1 = resV r1) (w4 : World) (hT : Tabs w4) (b0 : -9223372036854775808 ≤ r0.1.i ∧ r0.1.i ≤ 9223372036854775807) (b1 : -9223372036854775808 ≤ r1.1.i ∧ r1.1.i ≤ 9223372036854775807) :
    Calls Tryz.prog 47 #[.int .i64 op, .slice (some ⟨w4.heap.size, 0, none⟩) 2 2] (w4.alloc (.cells #[u0, u1] 45)) fun e w' => e = .returned (resV (applyF op [] [r0, r1])) ∧ Below w4.heap.size w4 w' := by
  subst h0 h1
  have hb : Below w4.heap.size w4 (w4.alloc (.cells #[resV r0, resV r1] 45)) := (Below.refl _ _).alloc (Nat.le_refl _) _
  refine (evapply_any op [r0, r1] w4.heap.size 0 2 _ (by simp) (by simp) (fun i r hr => ?_) (hT.below hb) (fun r hr => ?_)).mono ?_
  · rw [World.cell?_alloc_new]
    match i, hr with
    | 0, hr => simp at hr; subst hr; rfl
    | 1, hr => simp at hr; subst hr; rfl
  · simp at hr
    rcases hr with rfl | rfl
    · exact b0
    · exact b1
  · rintro e w' ⟨rfl, h⟩
    exact ⟨rfl, hb.trans (h.mono (by simp))⟩
theorem resV_form (r : Dt × Int) : ∃ t v, resV r = .iface t v := by
  unfold resV
  split
  · exact ⟨_, _, rfl⟩
  · exact ⟨_, _, rfl⟩
theorem applyF_two (op : Int) (r0 r1 : Dt × Int) : applyF op [] [r0, r1] = if r0.2 ≠ 0 then (Dt.zero, r0.2) else if r1.2 ≠ 0 then (Dt.zero, r1.2) else appF op [r0.1, r1.1] := by
  unfold applyF
  split
  · rfl
  · unfold applyF
    split
    · rfl
    · unfold applyF; rfl
theorem strictF_two (op : Int) (r0 r1 : Dt × Int) : strictF op [] [r0, r1] = if r0.2 ≠ 0 then (Dt.zero, r0.2) else if shortF op r0.1 = true then r0 else if r1.2 ≠ 0 then (Dt.zero, r1.2) else appF op [r0.1, r1.1] := by
  rw [strictF]
  split
  · rfl
  · simp only [true_and]
    split
    · rfl
    · rw [strictF]
      split
      · rfl
      · rw [if_neg (by simp), strictF]; rfl
theorem strict_apply {op : Int} {r0 r1 : Dt × Int} (h0 : r0.2 = 0) (hs : shortF op r0.1 = false) : strictF op [] [r0, r1] = applyF op [] [r0, r1] := by
  rw [strictF_two, applyF_two, h0, hs]
  simp
end Go.Proofs.YtokbdleokihdaaaGreatDoor
namespace Go.Proofs.YtokbdleokihdaaaGreatDoor
open Go.RowKit

/-- Cells of a block, from an offset on, hold expressions. -/
def KCells (w : World) (b o : Nat) (ks : List Ex) : Prop := ∀ i x, ks[i]? = some x → ∀ j u, x.cells[j]? = some u → w.cell? ⟨b, o + i * 11 + j, none⟩ = some u
theorem KCells.below {w w' : World} {b o : Nat} {ks : List Ex} (h : KCells w b o ks) (hb : Below w.heap.size w w') (hbk : b < w.heap.size) : KCells w' b o ks := fun i x hx j u hu => by
  rw [hb.cell (p := ⟨b, o + i * 11 + j, none⟩) hbk]; exact h i x hx j u hu
/-- An expression lies in memory. -/
inductive ExAt (w : World) : Ex → Prop
  | mk {k t : Int} {nl : Bool} {l : Dt} {lev col op : Int} {kids : List Ex} (p : Option Addr) (cap : Nat) (ps : Option Addr) (ns cs : Nat) (h1 : kids.length ≤ cap) (h2 : cap ≤ 1048576)
      (hk : kids = [] ∨ ∃ b o, p = some ⟨b, o, none⟩ ∧ b < w.heap.size ∧ KCells w b o kids) (hl : -9223372036854775808 ≤ l.i ∧ l.i ≤ 9223372036854775807) (h : ∀ x ∈ kids, ExAt w x) :
      ExAt w (.node k t nl l lev col op (.slice p kids.length cap) (.slice ps ns cs) kids)
theorem ExAt.later {w w' : World} {x : Ex} (h : ExAt w x) (hb : Below w.heap.size w w') : ExAt w' x := by
  induction h with
  | mk p cap ps ns cs h1 h2 hk hl _ ih =>
    refine .mk p cap ps ns cs h1 h2 ?_ hl ih
    rcases hk with hk | ⟨b, o, hp, hbk, hc⟩
    · exact .inl hk
    · exact .inr ⟨b, o, hp, Nat.lt_of_lt_of_le hbk hb.size, hc.below hb hbk⟩
/-- The cells of one of the Kids, in a later world. -/
theorem KCells.at {w W : World} {b o : Nat} {ks : List Ex} (h : KCells w b o ks) (hb : Below w.heap.size w W) (hbk : b < w.heap.size) {i : Nat} {k t : Int} {nl : Bool} {l : Dt} {lev col op : Int} {kv sv : Value} {kids : List Ex} (hi : ks[i]? = some (.node k t nl l lev col op kv sv kids)) :
    (W.cell? ⟨b, o + i * 11, none⟩ = some (.int .i64 k) ∧ W.cell? ⟨b, o + i * 11 + 1, none⟩ = some (.int .i64 t) ∧ W.cell? ⟨b, o + i * 11 + 2, none⟩ = some (.bool nl) ∧ W.cell? ⟨b, o + i * 11 + 3, none⟩ = some (.int .i64 l.k)) ∧
    (W.cell? ⟨b, o + i * 11 + 4, none⟩ = some (.int .i64 l.i) ∧ W.cell? ⟨b, o + i * 11 + 5, none⟩ = some (.string l.s) ∧ W.cell? ⟨b, o + i * 11 + 6, none⟩ = some (.int .i64 lev) ∧ W.cell? ⟨b, o + i * 11 + 7, none⟩ = some (.int .i64 col)) ∧
    W.cell? ⟨b, o + i * 11 + 8, none⟩ = some (.int .i64 op) ∧ W.cell? ⟨b, o + i * 11 + 9, none⟩ = some kv ∧ W.cell? ⟨b, o + i * 11 + 10, none⟩ = some sv := by
  have hh := (h.below hb hbk) i _ hi
  exact ⟨⟨hh 0 _ rfl, hh 1 _ rfl, hh 2 _ rfl, hh 3 _ rfl⟩, ⟨hh 4 _ rfl, hh 5 _ rfl, hh 6 _ rfl, hh 7 _ rfl⟩, hh 8 _ rfl, hh 9 _ rfl, hh 10 _ rfl⟩
theorem ExAt.slices {w : World} {k t : Int} {nl : Bool} {l : Dt} {lev col op : Int} {kv sv : Value} {kids : List Ex} (h : ExAt w (.node k t nl l lev col op kv sv kids)) : ∃ p cap ps ns cs, kv = .slice p kids.length cap ∧ sv = .slice ps ns cs := by
  cases h with
  | mk p cap ps ns cs => exact ⟨p, cap, ps, ns, cs, rfl, rfl⟩
/-- A box of eleven cells, and all else as it was. -/
theorem box11 (w : World) (x : Array Value) (t : TypeId) : Below w.heap.size w (w.alloc (.cells x t)) ∧ (w.alloc (.cells x t)).heap.size = w.heap.size + 1 ∧ (∀ i, (w.alloc (.cells x t)).cell? ⟨w.heap.size, i, none⟩ = x[i]?) := boxes1 w x t
theorem cnt_kid {k t : Int} {nl : Bool} {l : Dt} {lev col op : Int} {kv sv : Value} {kids : List Ex} (h : k = 3) : (Ex.node k t nl l lev col op kv sv kids).cnt = cntL kids := by
  rw [Ex.cnt, if_pos h]
theorem cntL_take_le : ∀ (l : List Ex) (i : Nat), cntL (l.take i) ≤ cntL l
  | [], i => by simp [cntL]
  | x :: l, 0 => by simp [cntL]
  | x :: l, i + 1 => by simp only [List.take_succ_cons, cntL]; have := cntL_take_le l i; omega

set_option maxRecDepth 100000 in
set_option maxHeartbeats 2000000 in
theorem evmany_any {w : World} {x : Ex} (hx : ExAt w x) : x.cnt ≤ 1000000000 → ∀ W, Below w.heap.size w W →
    Calls Tryz.prog 15 #[x.v] W fun e w' => e = .returned (.int .i64 (x.cnt : Int)) ∧ Below W.heap.size W w' := by
  induction hx with
  | @mk k t nl l lev col op kids p cap ps ns cs h1 h2 hk hl hks ih =>
    intro hcnt W hW
    have hb0 := box11 W #[.int .i64 k, .int .i64 t, .bool nl, .int .i64 l.k, .int .i64 l.i, .string l.s, .int .i64 lev, .int .i64 col, .int .i64 op, .slice p kids.length cap, .slice ps ns cs] 30
    have HB := Lib.hid hb0.1
    by_cases h3 : k = 3
    · subst h3
      rw [cnt_kid rfl] at hcnt ⊢
      have HC := Lib.hid hcnt
      have HK := Lib.hid hk
      have HI := Lib.hid ih
      have HKS := Lib.hid hks
      have HW := Lib.hid hW
      have hL : kids.length ≤ 9223372036854775807 := by omega
      clear hb0 hk ih hks hW hcnt h1 h2 hl
      generalize hlen : kids.length = n at *
      have HL := Lib.hid hlen
      clear hlen
      simp only [Ex.v]
      go_enter Tryz.func15, Tryz.ntmps15
      go_wp2_with fail
      go_loopw [3, 5, 15] (fun v _ i wr => ∃ j : Nat, j ≤ n ∧ i = .int .i64 (j : Int) ∧ v = .int .i64 ((cntL (kids.take j) : Nat) : Int) ∧ Below W.heap.size W wr) (fun _ _ i _ => n - (intOf i).toNat)
      case atStart => exact ⟨0, Nat.zero_le _, rfl, by simp [cntL], HB.out⟩
      case round =>
        obtain ⟨j, hj, rfl, rfl, hbl⟩ := hrel
        have HBl := Lib.hid hbl
        have hWr := hbl.size
        have hww := HW.out.size
        clear hbl
        by_cases hlt : j < n
        · have hjl : j < kids.length := by rw [HL.out]; exact hlt
          have hne : kids ≠ [] := fun h => by rw [h] at hjl; simp at hjl
          obtain ⟨b, o, rfl, hbk, hc⟩ := HK.out.resolve_left hne
          obtain ⟨y, hy⟩ : ∃ y, kids[j] = y := ⟨_, rfl⟩
          have hyj : kids[j]? = some y := by rw [List.getElem?_eq_getElem hjl, hy]
          have hmem : y ∈ kids := List.mem_of_getElem? hyj
          have hex := HKS.out y hmem
          have hi := HI.out y hmem
          have hct := cntL_take kids j hjl
          rw [hy] at hct
          have hcl := cntL_take_le kids (j + 1)
          have hcc := HC.out
          have HCT := Lib.hid hct
          have hc1 : y.cnt ≤ 1000000000 := by omega
          have hs1 : cntL (kids.take j) + y.cnt ≤ 1000000000 := by omega
          have HY := Lib.hid (hi hc1)
          clear hi hct hcl hcc
          generalize cntL (kids.take j) = m at *
          generalize hcy : y.cnt = cy at *
          obtain ⟨k', t', nl', l', lev', col', op', kv', sv', kids'⟩ := y
          obtain ⟨p', cap', ps', ns', cs', rfl, rfl⟩ := hex.slices
          obtain ⟨⟨c0, c1, c2, c3⟩, ⟨c4, c5, c6, c7⟩, c8, c9, c10⟩ := hc.at (HW.out.trans (HBl.out.mono HW.out.size)) hbk hyj
          clear hc hex
          simp only [Ex.v] at HY
          go_wp2_with fail
          refine (HY.out _ (HW.out.trans ((HBl.out.alloc (by omega) _).mono (by omega)))).mono ?_
          rintro e w2 ⟨rfl, hb2⟩
          have HR := Lib.hid ((HBl.out.alloc (by omega) _).trans (hb2.mono (by simp; omega)))
          clear hb2
          go_wp2_with fail
          go_roundw
          case rel => exact ⟨j + 1, by omega, by go_num, by rw [HCT.out]; go_num, HR.out⟩
          case measure => simp [intOf]; omega
        · obtain rfl : j = n := by omega
          go_wp2_with fail
          have hE : cntL (kids.take j) = cntL kids := by rw [List.take_of_length_le (by rw [HL.out]; omega)]
          rw [hE]
          go_ret
          exact ⟨rfl, HBl.out⟩
    · simp only [Ex.v]
      unfold Ex.cnt
      rw [if_neg h3]
      go_enter Tryz.func15, Tryz.ntmps15
      clear hcnt
      by_cases h4 : 4 ≤ k
      · rw [if_pos h4]
        go_wp2_with fail
        go_ret
        exact ⟨rfl, HB.out⟩
      · rw [if_neg h4]
        go_wp2_with fail
        go_ret
        exact ⟨rfl, HB.out⟩
end Go.Proofs.YtokbdleokihdaaaGreatDoor
namespace Go.Proofs.YtokbdleokihdaaaGreatDoor
open Go.RowKit

/-- Rows in a block, from an offset on. -/
def RCells (w : World) (b o : Nat) (env : List (List Dt)) : Prop := ∀ i r, env[i]? = some r → ∃ v, w.cell? ⟨b, o + i, none⟩ = some v ∧ DatS w v r
theorem DatS.later {w w' : World} {v : Value} {ds : List Dt} (h : DatS w v ds) (hb : Below w.heap.size w w') : DatS w' v ds := by
  obtain ⟨p, cap, rfl, h1, h2, h3, h4⟩ := h
  refine ⟨p, cap, rfl, h1, h2, ?_, h4⟩
  rcases h3 with h3 | ⟨b, o, hp, hbk, hc⟩
  · exact .inl h3
  · exact .inr ⟨b, o, hp, Nat.lt_of_lt_of_le hbk hb.size, hc.below hb hbk⟩
/-- A slice of rows. -/
def EnvS (w : World) (v : Value) (env : List (List Dt)) : Prop :=
  ∃ p cap, v = .slice p env.length cap ∧ env.length ≤ cap ∧ cap ≤ 9223372036854775807 ∧ (env = [] ∨ ∃ b o, p = some ⟨b, o, none⟩ ∧ b < w.heap.size ∧ RCells w b o env)
theorem EnvS.later {w w' : World} {v : Value} {env : List (List Dt)} (h : EnvS w v env) (hb : Below w.heap.size w w') : EnvS w' v env := by
  obtain ⟨p, cap, rfl, h1, h2, h3⟩ := h
  refine ⟨p, cap, rfl, h1, h2, ?_⟩
  rcases h3 with h3 | ⟨b, o, hp, hbk, hc⟩
  · exact .inl h3
  · refine .inr ⟨b, o, hp, Nat.lt_of_lt_of_le hbk hb.size, fun i r hi => ?_⟩
    obtain ⟨v, hv, hd⟩ := hc i r hi
    exact ⟨v, by rw [hb.cell (p := ⟨b, o + i, none⟩) hbk]; exact hv, hd.later hb⟩

theorem kidsOk_small {op : Int} {n : Nat} (h16 : ¬ op = 16) (h17 : ¬ op = 17) {m : Int} (hm : manyF op = m) : kidsOk op n = (decide (0 < n) && decide ((n : Int) = m)) := by
  unfold kidsOk
  rw [if_neg h16, if_neg h17, hm]
theorem many_two {op : Int} (h : 3 ≤ op ∧ op ≤ 14) : manyF op = 2 := by unfold manyF; rw [if_pos h]
theorem many_one {op : Int} (h0 : ¬ (3 ≤ op ∧ op ≤ 14)) (h : op = 1 ∨ op = 2 ∨ op = 15 ∨ (18 ≤ op ∧ op ≤ 20)) : manyF op = 1 := by unfold manyF; rw [if_neg h0, if_pos h]
theorem many_none {op : Int} (h0 : ¬ (3 ≤ op ∧ op ≤ 14)) (h : ¬ (op = 1 ∨ op = 2 ∨ op = 15 ∨ (18 ≤ op ∧ op ≤ 20))) : manyF op = 0 := by unfold manyF; rw [if_neg h0, if_neg h]
theorem kids_two (n : Nat) : (decide (0 < n) && decide ((n : Int) = 2)) = ((n : Int) == 2) := by
  by_cases h : n = 2
  · subst h; rfl
  · have : ((n : Int) == 2) = false := by simp; omega
    rw [this]; simp; omega
theorem kids_one (n : Nat) : (decide (0 < n) && decide ((n : Int) = 1)) = ((n : Int) == 1) := by
  by_cases h : n = 1
  · subst h; rfl
  · have : ((n : Int) == 1) = false := by simp; omega
    rw [this]; simp; omega
theorem kids_none (n : Nat) : (decide (0 < n) && decide ((n : Int) = 0)) = false := by simp; omega

set_option maxHeartbeats 4000000 in
theorem kids_any (op : Int) (n : Nat) (w : World) :
    Calls Tryz.prog 29 #[.int .i64 op, .int .i64 (n : Int)] w fun e w' => e = .returned (.bool (kidsOk op n)) ∧ w = w' := by
  have fin : ∀ {a b : Bool}, a = b → Ending.returned (.bool a) = Ending.returned (.bool b) := fun h => by rw [h]
  by_cases h16 : op = 16
  · subst h16
    go_enter Tryz.func29, Tryz.ntmps29
    go_wp2
    go_ret
    refine ⟨fin ?_, rfl⟩
    simp [kidsOk]
    omega
  · by_cases h17 : op = 17
    · subst h17
      go_enter Tryz.func29, Tryz.ntmps29
      go_wp2
      go_ret
      refine ⟨fin ?_, rfl⟩
      simp [kidsOk]
      omega
    · have b16 : (op == 16) = false := by simpa using h16
      have b17 : (op == 17) = false := by simpa using h17
      have HE := fun m hm => Lib.hid (kidsOk_small (n := n) h16 h17 (m := m) hm)
      have hcase : op < 1 ∨ op = 1 ∨ op = 2 ∨ (3 ≤ op ∧ op ≤ 12) ∨ op = 13 ∨ op = 14 ∨ op = 15 ∨ (18 ≤ op ∧ op ≤ 20) ∨ 20 < op := by omega
      rcases hcase with h | rfl | rfl | ⟨h, h'⟩ | rfl | rfl | rfl | ⟨h, h'⟩ | h
      · have HK := (HE 0 (many_none (by omega) (by omega))).out
        rw [kids_none] at HK
        rw [HK]
        have b13 : (op == 13) = false := by simp; omega
        have b14 : (op == 14) = false := by simp; omega
        have b3 : ¬ 3 ≤ op := by omega
        have b1 : ¬ 1 ≤ op := by omega
        clear HE HK h16 h17 h
        go_enter Tryz.func29, Tryz.ntmps29
        go_wp2
        go_ret
        exact ⟨rfl, rfl⟩
      · have HK := (HE 1 (many_one (by omega) (by omega))).out
        rw [kids_one] at HK
        rw [HK]
        clear HE HK h16 h17 
        go_enter Tryz.func29, Tryz.ntmps29
        go_wp2
        go_ret
        exact ⟨rfl, rfl⟩
      · have HK := (HE 1 (many_one (by omega) (by omega))).out
        rw [kids_one] at HK
        rw [HK]
        clear HE HK h16 h17 
        go_enter Tryz.func29, Tryz.ntmps29
        go_wp2
        go_ret
        exact ⟨rfl, rfl⟩
      · have HK := (HE 2 (many_two (by omega))).out
        rw [kids_two] at HK
        rw [HK]
        have b13 : (op == 13) = false := by simp; omega
        have b14 : (op == 14) = false := by simp; omega
        have b1 : 1 ≤ op := by omega
        clear HE HK h16 h17 
        go_enter Tryz.func29, Tryz.ntmps29
        go_wp2
        go_ret
        exact ⟨rfl, rfl⟩
      · have HK := (HE 2 (many_two (by omega))).out
        rw [kids_two] at HK
        rw [HK]
        clear HE HK h16 h17 
        go_enter Tryz.func29, Tryz.ntmps29
        go_wp2
        go_ret
        exact ⟨rfl, rfl⟩
      · have HK := (HE 2 (many_two (by omega))).out
        rw [kids_two] at HK
        rw [HK]
        clear HE HK h16 h17 
        go_enter Tryz.func29, Tryz.ntmps29
        go_wp2
        go_ret
        exact ⟨rfl, rfl⟩
      · have HK := (HE 1 (many_one (by omega) (by omega))).out
        rw [kids_one] at HK
        rw [HK]
        clear HE HK h16 h17 
        go_enter Tryz.func29, Tryz.ntmps29
        go_wp2
        go_ret
        exact ⟨rfl, rfl⟩
      · have HK := (HE 1 (many_one (by omega) (by omega))).out
        rw [kids_one] at HK
        rw [HK]
        have b13 : (op == 13) = false := by simp; omega
        have b14 : (op == 14) = false := by simp; omega
        have b1 : 1 ≤ op := by omega
        have b12 : ¬ op ≤ 12 := by omega
        have b3 : 3 ≤ op := by omega
        clear HE HK h16 h17 
        go_enter Tryz.func29, Tryz.ntmps29
        go_wp2
        go_ret
        exact ⟨rfl, rfl⟩
      · have HK := (HE 0 (many_none (by omega) (by omega))).out
        rw [kids_none] at HK
        rw [HK]
        have b13 : (op == 13) = false := by simp; omega
        have b14 : (op == 14) = false := by simp; omega
        have b1 : 1 ≤ op := by omega
        have b12 : ¬ op ≤ 12 := by omega
        have b20 : ¬ op ≤ 20 := by omega
        have b3 : 3 ≤ op := by omega
        clear HE HK h16 h17 
        go_enter Tryz.func29, Tryz.ntmps29
        go_wp2
        go_ret
        exact ⟨rfl, rfl⟩
end Go.Proofs.YtokbdleokihdaaaGreatDoor
namespace Go.Proofs.YtokbdleokihdaaaGreatDoor
open Go.RowKit

/-- The row of a level. -/
theorem EnvS.row {w W : World} {v : Value} {env : List (List Dt)} (h : EnvS w v env) (hW : Below w.heap.size w W) {lev : Int} (h0 : 0 ≤ lev) (h1 : lev < env.length) :
    ∃ b o p cap rv, v = .slice (some ⟨b, o, none⟩) env.length cap ∧ b < W.heap.size ∧ W.cell? ⟨b, o + lev.toNat, none⟩ = some (.slice p (env.getD lev.toNat []).length rv) ∧ DatS W (.slice p (env.getD lev.toNat []).length rv) (env.getD lev.toNat []) := by
  obtain ⟨p, cap, rfl, h2, h3, h4⟩ := h.later hW
  have hl : lev.toNat < env.length := by omega
  rcases h4 with h4 | ⟨b, o, rfl, hbk, hc⟩
  · subst h4; simp at hl
  · have hr : env[lev.toNat]? = some (env.getD lev.toNat []) := by rw [List.getD_eq_getElem?_getD, List.getElem?_eq_getElem hl]; rfl
    obtain ⟨rv, hv, hd⟩ := hc _ _ hr
    have hd0 := hd
    obtain ⟨p', cap', rfl, _⟩ := hd0
    exact ⟨b, o, p', cap, cap', rfl, hbk, hv, hd⟩
theorem DatS.at {w : World} {v : Value} {ds : List Dt} (h : DatS w v ds) {col : Int} (h0 : 0 ≤ col) (h1 : col < ds.length) :
    ∃ b o cap, v = .slice (some ⟨b, o, none⟩) ds.length cap ∧ b < w.heap.size ∧ w.cell? ⟨b, o + col.toNat * 3, none⟩ = some (.int .i64 (dnth ds col.toNat).k) ∧ w.cell? ⟨b, o + col.toNat * 3 + 1, none⟩ = some (.int .i64 (dnth ds col.toNat).i) ∧ w.cell? ⟨b, o + col.toNat * 3 + 2, none⟩ = some (.string (dnth ds col.toNat).s) := by
  obtain ⟨p, cap, rfl, h2, h3, h4, _⟩ := h
  have hl : col.toNat < ds.length := by omega
  rcases h4 with h4 | ⟨b, o, rfl, hbk, hc⟩
  · subst h4; simp at hl
  · exact ⟨b, o, cap, rfl, hbk, hc _ hl⟩
theorem rightL_append (env : List (List Dt)) : ∀ l m : List Ex, rightL env (l ++ m) = (rightL env l && rightL env m)
  | [], m => by simp [rightL]
  | x :: l, m => by simp [rightL, rightL_append env l, Bool.and_assoc]
/-- The worlds behind one. -/
abbrev After (W0 : World) : World → Prop := fun w' => Below W0.heap.size W0 w'
theorem after_cell {W0 : World} {b o : Nat} {v : Value} (h : W0.cell? ⟨b, o, none⟩ = some v) (hb : b < W0.heap.size) (u : GW (After W0)) : u.w.cell? ⟨b, o, none⟩ = some v := (u.h.cell (p := ⟨b, o, none⟩) hb).trans h

set_option maxRecDepth 100000 in
set_option maxHeartbeats 4000000 in
theorem evright_any {w : World} {x : Ex} (hx : ExAt w x) (env : List (List Dt)) (ve : Value) (hE : EnvS w ve env) (hT : Tabs w) : ∀ W, Below w.heap.size w W →
    Calls Tryz.prog 14 #[x.v, ve] W fun e w' => e = .returned (.bool (x.right env)) ∧ Below W.heap.size W w' := by
  induction hx with
  | @mk k t nl l lev col op kids p cap ps ns cs h1 h2 hk hl hks ih =>
    intro W hW
    obtain ⟨hb0, hbz, hbc⟩ := box11 W #[.int .i64 k, .int .i64 t, .bool nl, .int .i64 l.k, .int .i64 l.i, .string l.s, .int .i64 lev, .int .i64 col, .int .i64 op, .slice p kids.length cap, .slice ps ns cs] 30
    have HB := Lib.hid hb0
    have HT := Lib.hid (hT.below hW)
    have hcap := h1
    by_cases hk1 : k = 1
    · subst hk1
      have hzW : W.heap.size < (W.alloc (.cells #[.int .i64 1, .int .i64 t, .bool nl, .int .i64 l.k, .int .i64 l.i, .string l.s, .int .i64 lev, .int .i64 col, .int .i64 op, .slice p kids.length cap, .slice ps ns cs] 30)).heap.size := by omega
      have HV := Lib.hid (show (Ex.node 1 t nl l lev col op (.slice p kids.length cap) (.slice ps ns cs) kids).right env = rightD l by rw [Ex.right, if_pos rfl])
      simp only [Ex.v]
      obtain ⟨lk, li, ls⟩ := l
      clear hk hks ih hW hb0 hbz hbc
      go_enter Tryz.func14, Tryz.ntmps14
      go_wp2_with (first | (go_at_call 16; refine (right_any _ _ _ _ (HT.out.below HB.out)).mono ?_; rintro e w2 ⟨rfl, hb2⟩; have HB2 := Lib.hid (HB.out.trans (hb2.mono (Nat.le_of_lt hzW))); clear hb2) | fail)
      go_ret
      exact ⟨congrArg (fun b => Ending.returned (.bool b)) HV.out.symm, HB2.out⟩
    · by_cases hk2 : k = 2
      · subst hk2
        have HV := Lib.hid (show (Ex.node 2 t nl l lev col op (.slice p kids.length cap) (.slice ps ns cs) kids).right env = colOk env lev col by rw [Ex.right, if_neg (by decide), if_pos rfl])
        simp only [Ex.v]
        obtain ⟨pe, ce, rfl, he1, he2, he3⟩ := id hE
        have c6 := hbc 6
        have c7 := hbc 7
        simp only [List.getElem?_toArray, List.getElem?_cons_succ, List.getElem?_cons_zero] at c6 c7
        clear hk hks ih
        by_cases c1 : 0 ≤ lev
        · by_cases c2 : lev < (env.length : Int)
          · obtain ⟨eb, eo, rp, ce', rc, hev, heb, hrow, hrd⟩ := hE.row hW c1 c2
            obtain ⟨rfl, rfl⟩ : pe = some ⟨eb, eo, none⟩ ∧ ce = ce' := by injection hev with a _ b; exact ⟨a, b⟩
            have hrow0 := (HB.out.cell (p := ⟨eb, eo + lev.toNat, none⟩) heb).trans hrow
            have heb0 : eb < W.heap.size + 1 := by omega
            have HRD := Lib.hid hrd
            clear hrow hrd he3
            obtain ⟨rw, hrw⟩ : ∃ r, r = env.getD lev.toNat [] := ⟨_, rfl⟩
            have HG := Lib.hid (show colOk env lev col = (decide (0 ≤ col) && decide (col < (rw.length : Int)) && rightD (dnth rw col.toNat)) by unfold colOk; rw [decide_eq_true c1, decide_eq_true c2, ← hrw]; rfl)
            rw [← hrw] at hrow0 HRD
            clear hrw
            by_cases c3 : 0 ≤ col
            · by_cases c4 : col < (rw.length : Int)
              · obtain ⟨db, dof, dc, hdv, hdb, d0, d1, d2⟩ := HRD.out.at c3 c4
                obtain ⟨rfl, rfl⟩ : rp = some ⟨db, dof, none⟩ ∧ rc = dc := by injection hdv with a _ b; exact ⟨a, b⟩
                have HF := Lib.hid (show colOk env lev col = rightD (dnth rw col.toNat) by rw [HG.out, decide_eq_true c3, decide_eq_true c4]; rfl)
                have e0 := (HB.out.cell (p := ⟨db, dof + col.toNat * 3, none⟩) hdb).trans d0
                have e1 := (HB.out.cell (p := ⟨db, dof + col.toNat * 3 + 1, none⟩) hdb).trans d1
                have e2 := (HB.out.cell (p := ⟨db, dof + col.toNat * 3 + 2, none⟩) hdb).trans d2
                have hdb0 : db < W.heap.size + 1 := by omega
                have HT0 := Lib.hid (HT.out.below HB.out)
                clear d0 d1 d2
                generalize dnth rw col.toNat = dd at *
                obtain ⟨dk, di, ds⟩ := dd
                go_enter Tryz.func14, Tryz.ntmps14
                go_wp2_with fail
                generalize (W.alloc (.cells #[.int .i64 2, .int .i64 t, .bool nl, .int .i64 l.k, .int .i64 l.i, .string l.s, .int .i64 lev, .int .i64 col, .int .i64 op, .slice p kids.length cap, .slice ps ns cs] 30)) = W0 at *
                have hzz : W.heap.size < W0.heap.size := by omega
                have g6 := after_cell (b := W.heap.size) c6 hzz
                have g7 := after_cell (b := W.heap.size) c7 hzz
                have g8 := after_cell (b := eb) hrow0 (by omega)
                have g9 := after_cell (b := db) e0 (by omega)
                have g10 := after_cell (b := db) e1 (by omega)
                have g11 := after_cell (b := db) e2 (by omega)
                have HR : Hid (∀ u : GW (After W0), Calls Tryz.prog 16 #[.agg #[.int .i64 dk, .int .i64 di, .string ds]] u.w fun e w' => e = .returned (.bool (rightD ⟨dk, di, ds⟩)) ∧ Below u.w.heap.size u.w w') := fun u => right_any _ _ _ _ (HT0.out.below u.h)
                clear hrow0 e0 e1 e2
                have hgn := GW.ne (Inv := After W0) (Below.refl _ _)
                clear c6 c7 hbc hbz hb0
                refine wp_region_grow (After W0) (by kernel_rfl) (by kernel_rfl) (Below.refl _ _).drew ?_
                repeat (go_big_quiet_step (first | (go_at_call 16; refine (HR.out _).mono ?_; rintro e w1 ⟨rfl, hb⟩; exact ⟨rfl, below_next _ hb⟩) | fail))
                refine wpQuiet_nil ?_
                intro _ hw'
                obtain ⟨⟨w4, h4⟩, hw''⟩ := hw'
                subst hw''
                have HB4 := Lib.hid (HB.out.trans (h4.mono (Nat.le_of_lt hzz)))
                clear h4 g6 g7 g8 g9 g10 g11 HR hgn
                go_wp2_with fail
                go_ret
                exact ⟨congrArg (fun b => Ending.returned (.bool b)) (HV.out.trans HF.out).symm, HB4.out⟩
              · have HF := Lib.hid (show colOk env lev col = false by rw [HG.out, decide_eq_false c4, Bool.and_false]; rfl)
                have n4 := decide_eq_false c4
                go_enter Tryz.func14, Tryz.ntmps14
                go_wp2_with fail
                generalize (W.alloc (.cells #[.int .i64 2, .int .i64 t, .bool nl, .int .i64 l.k, .int .i64 l.i, .string l.s, .int .i64 lev, .int .i64 col, .int .i64 op, .slice p kids.length cap, .slice ps ns cs] 30)) = W0 at *
                have hzz : W.heap.size < W0.heap.size := by omega
                have g6 := after_cell (b := W.heap.size) c6 hzz
                have g7 := after_cell (b := W.heap.size) c7 hzz
                have g8 := after_cell (b := eb) hrow0 (by omega)
                clear hrow0
                have hgn := GW.ne (Inv := After W0) (Below.refl _ _)
                clear c6 c7 hbc hbz hb0
                refine wp_region_grow (After W0) (by kernel_rfl) (by kernel_rfl) (Below.refl _ _).drew ?_
                repeat (go_big_quiet_step (fail))
                refine wpQuiet_nil ?_
                intro _ hw'
                obtain ⟨⟨w4, h4⟩, hw''⟩ := hw'
                subst hw''
                have HB4 := Lib.hid (HB.out.trans (h4.mono (Nat.le_of_lt hzz)))
                clear h4 g6 g7 g8 hgn
                go_wp2_with fail
                go_ret
                exact ⟨congrArg (fun b => Ending.returned (.bool b)) (HV.out.trans HF.out).symm, HB4.out⟩
            · have HF := Lib.hid (show colOk env lev col = false by rw [HG.out, decide_eq_false c3]; rfl)
              have n3 := decide_eq_false c3
              go_enter Tryz.func14, Tryz.ntmps14
              go_wp2_with fail
              generalize (W.alloc (.cells #[.int .i64 2, .int .i64 t, .bool nl, .int .i64 l.k, .int .i64 l.i, .string l.s, .int .i64 lev, .int .i64 col, .int .i64 op, .slice p kids.length cap, .slice ps ns cs] 30)) = W0 at *
              have hzz : W.heap.size < W0.heap.size := by omega
              have g6 := after_cell (b := W.heap.size) c6 hzz
              have g7 := after_cell (b := W.heap.size) c7 hzz
              have g8 := after_cell (b := eb) hrow0 (by omega)
              clear hrow0
              have hgn := GW.ne (Inv := After W0) (Below.refl _ _)
              clear c6 c7 hbc hbz hb0
              refine wp_region_grow (After W0) (by kernel_rfl) (by kernel_rfl) (Below.refl _ _).drew ?_
              repeat (go_big_quiet_step (fail))
              refine wpQuiet_nil ?_
              intro _ hw'
              obtain ⟨⟨w4, h4⟩, hw''⟩ := hw'
              subst hw''
              have HB4 := Lib.hid (HB.out.trans (h4.mono (Nat.le_of_lt hzz)))
              clear h4 g6 g7 g8 hgn
              go_wp2_with fail
              go_ret
              exact ⟨congrArg (fun b => Ending.returned (.bool b)) (HV.out.trans HF.out).symm, HB4.out⟩
          · have HF := Lib.hid (show colOk env lev col = false by unfold colOk; rw [decide_eq_false c2, Bool.and_false]; rfl)
            have n2 := decide_eq_false c2
            go_enter Tryz.func14, Tryz.ntmps14
            go_wp2_with fail
            generalize (W.alloc (.cells #[.int .i64 2, .int .i64 t, .bool nl, .int .i64 l.k, .int .i64 l.i, .string l.s, .int .i64 lev, .int .i64 col, .int .i64 op, .slice p kids.length cap, .slice ps ns cs] 30)) = W0 at *
            have hzz : W.heap.size < W0.heap.size := by omega
            have g6 := after_cell (b := W.heap.size) c6 hzz
            have g7 := after_cell (b := W.heap.size) c7 hzz
            have hgn := GW.ne (Inv := After W0) (Below.refl _ _)
            clear c6 c7 hbc hbz hb0
            refine wp_region_grow (After W0) (by kernel_rfl) (by kernel_rfl) (Below.refl _ _).drew ?_
            repeat (go_big_quiet_step (fail))
            refine wpQuiet_nil ?_
            intro _ hw'
            obtain ⟨⟨w4, h4⟩, hw''⟩ := hw'
            subst hw''
            have HB4 := Lib.hid (HB.out.trans (h4.mono (Nat.le_of_lt hzz)))
            clear h4 g6 g7 hgn
            go_wp2_with fail
            go_ret
            exact ⟨congrArg (fun b => Ending.returned (.bool b)) (HV.out.trans HF.out).symm, HB4.out⟩
        · have HF := Lib.hid (show colOk env lev col = false by unfold colOk; rw [decide_eq_false c1]; rfl)
          have n1 := decide_eq_false c1
          go_enter Tryz.func14, Tryz.ntmps14
          go_wp2_with fail
          generalize (W.alloc (.cells #[.int .i64 2, .int .i64 t, .bool nl, .int .i64 l.k, .int .i64 l.i, .string l.s, .int .i64 lev, .int .i64 col, .int .i64 op, .slice p kids.length cap, .slice ps ns cs] 30)) = W0 at *
          have hzz : W.heap.size < W0.heap.size := by omega
          have g6 := after_cell (b := W.heap.size) c6 hzz
          have g7 := after_cell (b := W.heap.size) c7 hzz
          have hgn := GW.ne (Inv := After W0) (Below.refl _ _)
          clear c6 c7 hbc hbz hb0
          refine wp_region_grow (After W0) (by kernel_rfl) (by kernel_rfl) (Below.refl _ _).drew ?_
          repeat (go_big_quiet_step (fail))
          refine wpQuiet_nil ?_
          intro _ hw'
          obtain ⟨⟨w4, h4⟩, hw''⟩ := hw'
          subst hw''
          have HB4 := Lib.hid (HB.out.trans (h4.mono (Nat.le_of_lt hzz)))
          clear h4 g6 g7 hgn
          go_wp2_with fail
          go_ret
          exact ⟨congrArg (fun b => Ending.returned (.bool b)) (HV.out.trans HF.out).symm, HB4.out⟩
      · by_cases hk3 : k = 3
        · subst hk3
          have HV := Lib.hid (show (Ex.node 3 t nl l lev col op (.slice p kids.length cap) (.slice ps ns cs) kids).right env = (rightL env kids && kidsOk op kids.length) by rw [Ex.right, if_neg (by decide), if_neg (by decide), if_pos rfl])
          have HK := Lib.hid hk
          have HI := Lib.hid ih
          have HKS := Lib.hid hks
          have HW := Lib.hid hW
          have hL : kids.length ≤ 9223372036854775807 := by omega
          have hbz' : W.heap.size < W.heap.size + 1 := by omega
          clear hk ih hks hW hcap h1 h2 hl hb0 hbz hbc
          generalize hlen : kids.length = n at *
          have HL := Lib.hid hlen
          clear hlen
          simp only [Ex.v]
          go_enter Tryz.func14, Tryz.ntmps14
          go_wp2_with fail
          go_loopw [59] (fun iv wr => ∃ j : Nat, j ≤ n ∧ iv = .int .i64 (j : Int) ∧ rightL env (kids.take j) = true ∧ Below W.heap.size W wr ∧ W.heap.size + 1 ≤ wr.heap.size ∧ wr.cell? ⟨W.heap.size, 8, none⟩ = some (.int .i64 op) ∧ wr.cell? ⟨W.heap.size, 9, none⟩ = some (.slice p n cap)) (fun iv _ => n - (intOf iv).toNat)
          case atStart => exact ⟨0, Nat.zero_le _, rfl, by simp [rightL], HB.out, by simp, by rw [World.cell?_alloc_new]; rfl, by rw [World.cell?_alloc_new]; rfl⟩
          case round =>
            obtain ⟨j, hj, rfl, hrl, hbl, hzr, k8, k9⟩ := hrel
            have HBl := Lib.hid hbl
            have HRL := Lib.hid hrl
            have hWr := hbl.size
            have hww := HW.out.size
            clear hbl hrl
            by_cases hlt : j < n
            · have hjl : j < kids.length := by rw [HL.out]; exact hlt
              have hne : kids ≠ [] := fun h => by rw [h] at hjl; simp at hjl
              obtain ⟨b, o, rfl, hbk, hc⟩ := HK.out.resolve_left hne
              obtain ⟨y, hy⟩ : ∃ y, kids[j] = y := ⟨_, rfl⟩
              have hyj : kids[j]? = some y := by rw [List.getElem?_eq_getElem hjl, hy]
              have hmem : y ∈ kids := List.mem_of_getElem? hyj
              have hex := HKS.out y hmem
              have HY := Lib.hid (HI.out y hmem)
              have HTK := Lib.hid (show rightL env (kids.take (j + 1)) = y.right env by
                rw [List.take_succ_eq_append_getElem hjl, hy, rightL_append, HRL.out, Bool.true_and]; simp [rightL])
              have HNO := Lib.hid (show y.right env = false → rightL env kids = false from fun h => Bool.eq_false_iff.2 fun h2 => by rw [(rightL_iff env kids).1 h2 y hmem] at h; exact absurd h (by decide))
              generalize hcy : y.right env = cy at *
              obtain ⟨k', t', nl', l', lev', col', op', kv', sv', kids'⟩ := y
              obtain ⟨p', cap', ps', ns', cs', rfl, rfl⟩ := hex.slices
              obtain ⟨⟨c0, c1, c2, c3⟩, ⟨c4, c5, c6, c7⟩, c8, c9, c10⟩ := hc.at (HW.out.trans (HBl.out.mono HW.out.size)) hbk hyj
              clear hc hex
              simp only [Ex.v] at HY
              cases hcc : cy
              · go_wp2_with (first | (go_at_call 14; refine (HY.out _ (HW.out.trans ((HBl.out.alloc (by omega) _).mono (by omega)))).mono ?_; rintro e w2 ⟨rfl, hb2⟩; have HR := Lib.hid ((HBl.out.alloc (by omega) _).trans (hb2.mono (by simp; omega))); clear hb2) | fail)
                go_ret
                exact ⟨congrArg (fun b => Ending.returned (.bool b)) (HV.out.trans (by rw [HNO.out hcc]; rfl)).symm, HR.out⟩
              · go_wp2_with (first | (go_at_call 14; refine (HY.out _ (HW.out.trans ((HBl.out.alloc (by omega) _).mono (by omega)))).mono ?_; rintro e w2 ⟨rfl, hb2⟩; have HR := Lib.hid ((HBl.out.alloc (by omega) _).trans (hb2.mono (by simp; omega))); have HS2 := Lib.hid hb2; clear hb2) | fail)
                go_roundw
                case rel =>
                  have hb2 := HS2.out
                  have hz2 := hb2.size
                  simp at hz2
                  refine ⟨j + 1, by omega, by go_num, by rw [HTK.out]; exact hcc, HR.out, by omega, ?_, ?_⟩
                  · rw [hb2.cell (p := ⟨W.heap.size, 8, none⟩) (by simp; omega), World.cell?_alloc_past _ _ _ (by show W.heap.size < _; omega)]; exact k8
                  · rw [hb2.cell (p := ⟨W.heap.size, 9, none⟩) (by simp; omega), World.cell?_alloc_past _ _ _ (by show W.heap.size < _; omega)]; exact k9
                case measure => simp [intOf]; omega
            · obtain rfl : j = n := by omega
              go_wp2_with (first | (go_at_call 29; refine (kids_any _ _ _).mono ?_; rintro e w2 ⟨rfl, rfl⟩) | fail)
              go_ret
              have hE : rightL env kids = true := by have := HRL.out; rwa [List.take_of_length_le (by rw [HL.out]; omega)] at this
              exact ⟨congrArg (fun b => Ending.returned (.bool b)) (HV.out.trans (by rw [hE, Bool.true_and])).symm, HBl.out⟩
        · have HV := Lib.hid (show (Ex.node k t nl l lev col op (.slice p kids.length cap) (.slice ps ns cs) kids).right env = (decide (4 ≤ k) && decide (k ≤ 6)) by rw [Ex.right, if_neg hk1, if_neg hk2, if_neg hk3])
          have hz : W.heap.size + 1 = (W.alloc (.cells #[.int .i64 k, .int .i64 t, .bool nl, .int .i64 l.k, .int .i64 l.i, .string l.s, .int .i64 lev, .int .i64 col, .int .i64 op, .slice p kids.length cap, .slice ps ns cs] 30)).heap.size := hbz.symm
          have b1 : (k == 1) = false := by simpa using hk1
          have b2 : (k == 2) = false := by simpa using hk2
          have b3 : (k == 3) = false := by simpa using hk3
          simp only [Ex.v]
          clear hk ih hks hW hcap h1 h2 hl hb0 hbz hbc hk1 hk2 hk3 hz
          go_enter Tryz.func14, Tryz.ntmps14
          by_cases h4 : 4 ≤ k
          · by_cases h6 : k ≤ 6
            · rw [decide_eq_true h4, decide_eq_true h6] at HV
              go_wp2_with fail
              go_ret
              exact ⟨congrArg (fun b => Ending.returned (.bool b)) HV.out.symm, HB.out⟩
            · rw [decide_eq_true h4, decide_eq_false h6] at HV
              have n6 := decide_eq_false h6
              go_wp2_with fail
              go_ret
              exact ⟨congrArg (fun b => Ending.returned (.bool b)) HV.out.symm, HB.out⟩
          · rw [decide_eq_false h4] at HV
            have n4 := decide_eq_false h4
            go_wp2_with fail
            go_ret
            exact ⟨congrArg (fun b => Ending.returned (.bool b)) HV.out.symm, HB.out⟩
end Go.Proofs.YtokbdleokihdaaaGreatDoor
namespace Go.Proofs.YtokbdleokihdaaaGreatDoor
open Go.RowKit

set_option maxHeartbeats 4000000 in
theorem rkids_any (op : Int) (n : Nat) (w : World) :
    Calls Tryz.prog 13 #[.int .i64 op, .int .i64 (n : Int)] w fun e w' => e = .returned (.bool (kidsOk op n)) ∧ Below w.heap.size w w' := by
  have fin : ∀ {a b : Bool}, a = b → Ending.returned (.bool a) = Ending.returned (.bool b) := fun h => by rw [h]
  by_cases h16 : op = 16
  · subst h16
    go_enter Tryz.func13, Tryz.ntmps13
    go_wp2
    go_ret
    exact ⟨fin (by simp [kidsOk]; omega), Below.refl _ _⟩
  · by_cases h17 : op = 17
    · subst h17
      go_enter Tryz.func13, Tryz.ntmps13
      go_wp2
      go_ret
      exact ⟨fin (by simp [kidsOk]; omega), Below.refl _ _⟩
    · have b16 : (op == 16) = false := by simpa using h16
      have b17 : (op == 17) = false := by simpa using h17
      by_cases hn : 0 < n
      · have HE := Lib.hid (show kidsOk op n = ((n : Int) == manyF op) by unfold kidsOk; rw [if_neg h16, if_neg h17, decide_eq_true hn, Bool.true_and]; rfl)
        clear h16 h17
        go_enter Tryz.func13, Tryz.ntmps13
        go_wp2_with (first | (go_at_call 18; refine (refmany_any _ _).mono ?_; rintro e w' ⟨rfl, rfl⟩) | fail)
        go_ret
        exact ⟨fin HE.out.symm, Below.refl _ _⟩
      · have HE := Lib.hid (show kidsOk op n = false by unfold kidsOk; rw [if_neg h16, if_neg h17, decide_eq_false hn]; rfl)
        obtain rfl : n = 0 := by omega
        clear h16 h17
        go_enter Tryz.func13, Tryz.ntmps13
        go_wp2_with fail
        go_ret
        exact ⟨fin HE.out.symm, Below.refl _ _⟩
end Go.Proofs.YtokbdleokihdaaaGreatDoor
