/- Results of an evaluation: type assertions, '!=' between two; the contract of eval.truth. Plain laws of expressions' values: what every value of one is like. The contract of eval.cases. The contract of eval.apply. Every value of an expression that may be is of a known kind. -/
import Derived.Test.YtokbdleokihdaaaDoorG18
import Derived.Test.YtokbdleokihdaaaDoorG01
import Derived.LaidEql
import Derived.BigQuiet
import Derived.Deep.QuietTactic
import Derived.Outline
namespace Go.Proofs.YtokbdleokihdaaaDoor
open Go.RowKit

/-- A result as the program holds it: a value, or an error. -/
def resV (r : Dt × Int) : Value := if r.2 = 0 then .iface 23 r.1.v else .iface 30 (.int .i64 r.2)

theorem ta_d (v : Value) (x : TypeId) (w : World) : (Instr.typeAssert (.iface 23 v) x 23 true).run Tryd.prog w = .ok (.tuple #[v, .bool true]) w := by
  simp [Instr.typeAssert, run_underlying Tryd.underlying23, go_sem]
theorem ta_dm (v : Value) (x : TypeId) (w : World) : (Instr.typeAssert (.iface 30 v) x 23 true).run Tryd.prog w = .ok (.tuple #[.agg #[.int .i64 0, .int .i64 0, .string ⟨#[]⟩], .bool false]) w := by
  obtain ⟨j, hj, hz⟩ := Option.map_eq_some_iff.1 (show (Tryd.prog.info? 23).map (·.zero) = some (some (.agg #[.int .i64 0, .int .i64 0, .string ⟨#[]⟩])) by kernel_rfl)
  simp [Instr.typeAssert, run_underlying Tryd.underlying23, zeroValue, typeInfo, hj, hz, go_sem]
theorem ta_e (v : Value) (x : TypeId) (w : World) : (Instr.typeAssert (.iface 30 v) x 30 true).run Tryd.prog w = .ok (.tuple #[v, .bool true]) w := by
  simp [Instr.typeAssert, run_underlying Tryd.underlying30, go_sem]
theorem ta_em (v : Value) (x : TypeId) (w : World) : (Instr.typeAssert (.iface 23 v) x 30 true).run Tryd.prog w = .ok (.tuple #[.int .i64 0, .bool false]) w := by
  obtain ⟨j, hj, hz⟩ := Option.map_eq_some_iff.1 (show (Tryd.prog.info? 30).map (·.zero) = some (some (.int .i64 0)) by kernel_rfl)
  simp [Instr.typeAssert, run_underlying Tryd.underlying30, zeroValue, typeInfo, hj, hz, go_sem]
attribute [go_sem ↓] ta_d ta_dm ta_e ta_em

/-- '==', '!=' between two results, one of them a value. -/
theorem eqIn_res (d : Nat) (ak ai : Int) (sa : ByteArray) (bk bi : Int) (sb : ByteArray) (w : World) :
    (Op.equalIn (d + 1) 48 (.iface 23 (.agg #[.int .i64 ak, .int .i64 ai, .string sa])) (.iface 23 (.agg #[.int .i64 bk, .int .i64 bi, .string sb]))).run Tryd.prog w
      = (Op.equalIn d 23 (.agg #[.int .i64 ak, .int .i64 ai, .string sa]) (.agg #[.int .i64 bk, .int .i64 bi, .string sb])).run Tryd.prog w := by
  obtain ⟨j, hj, hc⟩ := Option.map_eq_some_iff.1 (show (Tryd.prog.info? 23).map (·.comparable) = some true by kernel_rfl)
  simp [Op.equalIn, run_underlying Tryd.underlying48, typeInfo, hj, hc]
theorem eqIn_dat (ak ai : Int) (sa : ByteArray) (bk bi : Int) (sb : ByteArray) (w : World) :
    (Op.equalIn 9999 23 (.agg #[.int .i64 ak, .int .i64 ai, .string sa]) (.agg #[.int .i64 bk, .int .i64 bi, .string sb])).run Tryd.prog w = .ok (eqD ak ai sa bk bi sb) w := by
  unfold eqD
  go_simp
  by_cases h1 : ak = bk <;> by_cases h2 : ai = bi <;> by_cases h3 : sa.toList = sb.toList <;> simp [h1, h2, h3]
theorem run_eql_res (ak ai : Int) (sa : ByteArray) (bk bi : Int) (sb : ByteArray) (w : World) :
    (Go.binOp .eql 48 (.iface 23 (.agg #[.int .i64 ak, .int .i64 ai, .string sa])) (.iface 23 (.agg #[.int .i64 bk, .int .i64 bi, .string sb]))).run Tryd.prog w = .ok (.bool (eqD ak ai sa bk bi sb)) w := by
  simp only [Go.binOp]
  simp [Op.equal, Op.maxDepth, eqIn_res 9999, eqIn_dat]
theorem run_neq_res (ak ai : Int) (sa : ByteArray) (bk bi : Int) (sb : ByteArray) (w : World) :
    (Go.binOp .neq 48 (.iface 23 (.agg #[.int .i64 ak, .int .i64 ai, .string sa])) (.iface 23 (.agg #[.int .i64 bk, .int .i64 bi, .string sb]))).run Tryd.prog w = .ok (.bool (!eqD ak ai sa bk bi sb)) w := by
  simp only [Go.binOp]
  simp [Op.equal, Op.maxDepth, eqIn_res 9999, eqIn_dat]
theorem run_eql_err (v u : Value) (w : World) :
    (Go.binOp .eql 48 (.iface 30 v) (.iface 23 u)).run Tryd.prog w = .ok (.bool false) w := by
  have h : ∀ d : Nat, (Op.equalIn (d + 1) 48 (.iface 30 v) (.iface 23 u)).run Tryd.prog w = .ok false w := fun d => by simp [Op.equalIn, run_underlying Tryd.underlying48]
  simp only [Go.binOp]
  simp [Op.equal, Op.maxDepth, h 9999]
theorem run_neq_err (v u : Value) (w : World) :
    (Go.binOp .neq 48 (.iface 30 v) (.iface 23 u)).run Tryd.prog w = .ok (.bool true) w := by
  have h : ∀ d : Nat, (Op.equalIn (d + 1) 48 (.iface 30 v) (.iface 23 u)).run Tryd.prog w = .ok false w := fun d => by simp [Op.equalIn, run_underlying Tryd.underlying48]
  simp only [Go.binOp]
  simp [Op.equal, Op.maxDepth, h 9999]
attribute [go_sem ↓] run_eql_res run_neq_res run_eql_err run_neq_err

set_option maxRecDepth 100000 in
set_option maxHeartbeats 1000000 in
theorem evtruth_any (r : Dt × Int) (w : World) :
    Calls Tryd.prog 37 #[resV r] w fun e w' => e = .returned (.tuple #[.bool (decide (r.2 = 0) && r.1.i == 1), .bool (decide (r.2 = 0) && r.1.k == 1)]) ∧ Below w.heap.size w w' := by
  obtain ⟨⟨dk, di, ds⟩, er⟩ := r
  by_cases h : er = 0
  · subst h
    rw [show resV (⟨dk, di, ds⟩, 0) = .iface 23 (.agg #[.int .i64 dk, .int .i64 di, .string ds]) from rfl]
    simp only [decide_true, Bool.true_and]
    go_enter Tryd.func37, Tryd.ntmps37
    go_wp2_with fail
    go_quiet (fail)
    go_wp2_with fail
    go_ret2
    refine ⟨by simp [*], (((Below.refl w.heap.size w).alloc (Nat.le_refl _) _).trans ((below_drewN _).mono (by simp)))⟩
  · rw [show resV (⟨dk, di, ds⟩, er) = .iface 30 (.int .i64 er) from if_neg h]
    go_enter Tryd.func37, Tryd.ntmps37
    go_wp2_with fail
    go_quiet (fail)
    go_wp2_with fail
    go_ret2
    refine ⟨by simp [*], (((Below.refl w.heap.size w).alloc (Nat.le_refl _) _).trans ((below_drewN _).mono (by simp)))⟩
theorem resV_ok (k i : Int) (s : ByteArray) : resV (⟨k, i, s⟩, 0) = .iface 23 (.agg #[.int .i64 k, .int .i64 i, .string s]) := rfl
theorem resV_err {r : Dt × Int} (h : r.2 ≠ 0) : resV r = .iface 30 (.int .i64 r.2) := if_neg h
theorem evtruth_ok (k i : Int) (s : ByteArray) (w : World) :
    Calls Tryd.prog 37 #[.iface 23 (.agg #[.int .i64 k, .int .i64 i, .string s])] w fun e w' => e = .returned (.tuple #[.bool (i == 1), .bool (k == 1)]) ∧ Below w.heap.size w w' := by
  have h := evtruth_any (⟨k, i, s⟩, 0) w
  simp only [decide_true, Bool.true_and] at h
  exact h
theorem evtruth_err (er : Int) (h0 : er ≠ 0) (w : World) :
    Calls Tryd.prog 37 #[.iface 30 (.int .i64 er)] w fun e w' => e = .returned (.tuple #[.bool false, .bool false]) ∧ Below w.heap.size w w' := by
  have h := evtruth_any (Dt.zero, er) w
  rw [resV_err (r := (Dt.zero, er)) h0] at h
  simp only [decide_eq_false h0, Bool.false_and] at h
  exact h
end Go.Proofs.YtokbdleokihdaaaDoor
namespace Go.Proofs.YtokbdleokihdaaaDoor
open Go.RowKit

/-- What any value of an expression is like. -/
structure Vok (d : Dt) : Prop where
  k : 0 ≤ d.k
  null : d.k = 0 → d = Dt.zero
  truth : d.k = 1 → (d.i = 0 ∨ d.i = 1) ∧ d.s = ⟨#[]⟩
  i : -9223372036854775808 ≤ d.i ∧ d.i ≤ 9223372036854775807
theorem Vok.zero : Vok Dt.zero := ⟨by decide, fun _ => rfl, fun h => absurd h (by decide), by decide⟩
theorem vok_truth (b : Bool) : Vok (truthD b) := by
  cases b
  · exact ⟨by decide, fun h => absurd h (by decide), fun _ => ⟨.inl rfl, rfl⟩, by decide⟩
  · exact ⟨by decide, fun h => absurd h (by decide), fun _ => ⟨.inr rfl, rfl⟩, by decide⟩
theorem vok_num {k i : Int} {s : ByteArray} (hk : k = 2 ∨ k = 3) (h : -9223372036854775808 ≤ i ∧ i ≤ 9223372036854775807) : Vok ⟨k, i, s⟩ := by
  refine ⟨?_, fun h0 => ?_, fun h0 => ?_, h⟩
  · show 0 ≤ k; omega
  · have : k = 0 := h0
    omega
  · have : k = 1 := h0
    omega
theorem right_kinds' {d : Dt} (h : rightD d = true) : d.k = 0 ∨ d.k = 1 ∨ d.k = 2 ∨ d.k = 3 ∨ d.k = 4 ∨ d.k = 5 := by
  unfold rightD at h
  by_cases h4 : d.k = 4
  · omega
  · rw [if_neg h4] at h
    unfold rightN at h
    by_cases h0 : d.k = 0
    · omega
    · rw [if_neg h0] at h
      by_cases h1 : d.k = 1
      · omega
      · rw [if_neg h1] at h
        by_cases h2 : d.k = 2 ∨ d.k = 3
        · omega
        · rw [if_neg h2] at h
          by_cases h5 : d.k = 5
          · omega
          · rw [if_neg h5] at h; cases h
theorem vok_right {d : Dt} (h : rightD d = true) (hi : -9223372036854775808 ≤ d.i ∧ d.i ≤ 9223372036854775807) : Vok d := by
  have hk := right_kinds' h
  refine ⟨by omega, fun h0 => ?_, fun h1 => ?_, hi⟩
  · obtain ⟨k, i, s⟩ := d
    simp only at h0
    subst h0
    simp [rightD, rightN] at h
    obtain ⟨rfl, h2⟩ := h
    rw [empty_of (s := s) (by simpa using h2)]
    rfl
  · obtain ⟨k, i, s⟩ := d
    simp only at h1
    subst h1
    simp [rightD, rightN] at h
    obtain ⟨h1, h2⟩ := h
    rw [empty_of (s := s) (by simpa using h2)]
    exact ⟨h1, rfl⟩
theorem wrap_in2 (z : Int) : -9223372036854775808 ≤ wrap64 z ∧ wrap64 z ≤ 9223372036854775807 := by
  have := wrap64_wf z
  exact bounds_i64 this
theorem vok_numA (ds : List Dt) (r : Dt × Bool) (h : ds.all (isOf [2, 3]) = true → ds.any (fun d => d.k == 0) = false → r.2 = true → Vok r.1) : Vok (numA ds r).1 := by
  unfold numA
  cases h1 : ds.all (isOf [2, 3])
  · simp only [Bool.false_eq_true, if_false]; exact Vok.zero
  · cases h2 : ds.any (fun d => d.k == 0)
    · cases h3 : r.2
      · simp only [if_true, Bool.false_eq_true, if_false]; exact Vok.zero
      · simp only [if_true, Bool.false_eq_true, if_false]; exact h h1 h2 h3
    · simp only [if_true]; exact Vok.zero
theorem isNum {d : Dt} (h : isOf [2, 3] d = true) (h0 : (d.k == 0) = false) : d.k = 2 ∨ d.k = 3 := by
  unfold isOf at h
  simp at h h0
  omega
theorem room_in {z : Int} (h : room z = true) : -9223372036854775808 ≤ z ∧ z ≤ 9223372036854775807 := by
  unfold room at h
  simp at h
  omega
theorem vok_app1 (op : Int) {d : Dt} (hr : rightD d = true) (hi : -9223372036854775808 ≤ d.i ∧ d.i ≤ 9223372036854775807) : Vok (app1 op d).1 := by
  have hv := vok_right hr hi
  have one : ∀ {p : Dt → Bool}, ([d] : List Dt).all p = true → p d = true := fun h => by simpa using h
  have non : ([d] : List Dt).any (fun d => d.k == 0) = false → (d.k == 0) = false := fun h => by simpa using h
  have hneg : d.k = 2 ∨ d.k = 3 → Vok (negR d).1 := fun h => vok_num h (wrap_in2 _)
  unfold app1
  split
  · exact vok_numA _ _ fun h1 h2 _ => hneg (isNum (one h1) (non h2))
  · split
    · unfold notR
      split
      · unfold notF
        split
        · exact Vok.zero
        · exact vok_truth _
      · exact Vok.zero
    · split
      · exact vok_truth _
      · split
        · unfold lenR
          split
          · unfold lengthF
            have hs : d.k = 4 ∨ d.k = 5 → d.s.size ≤ 1000 := fun hk => by
              unfold rightD at hr
              rcases hk with hk | hk
              · rw [if_pos hk] at hr; simp at hr; omega
              · rw [if_neg (by omega)] at hr; unfold rightN at hr; rw [if_neg (by omega), if_neg (by omega), if_neg (by omega), if_pos hk] at hr; simp at hr; omega
            rename_i hall
            have ho := one hall
            unfold isOf at ho
            simp at ho
            split
            · exact hv
            · split
              · refine vok_num (.inl rfl) ?_
                have := rcnt_le d.s d.s.size 0
                have := hs (by omega)
                omega
              · refine vok_num (.inl rfl) ?_
                have := hs (by omega)
                omega
          · exact Vok.zero
        · split
          · refine vok_numA _ _ fun h1 h2 _ => ?_
            unfold absR
            split
            · exact hv
            · exact hneg (isNum (one h1) (non h2))
          · refine vok_numA _ _ fun h1 h2 h3 => ?_
            unfold asDecR at h3 ⊢
            split
            · exact hv
            · refine vok_num (.inr rfl) ?_
              unfold decI
              split
              · exact room_in (by assumption)
              · exact ⟨by decide, by decide⟩
theorem vok_arith (k op a b one : Int) (hk : k = 2 ∨ k = 3) : Vok (arith k op a b one).1 := by
  refine vok_num hk ?_
  have hq : ∀ z n : Int, -9223372036854775808 ≤ (quo z n).1 ∧ (quo z n).1 ≤ 9223372036854775807 := fun z n => by
    unfold quo
    split
    · rename_i h; exact room_in h.2
    · exact ⟨by decide, by decide⟩
  unfold arI
  split
  · exact wrap_in2 _
  · split
    · exact wrap_in2 _
    · split
      · exact hq _ _
      · exact hq _ _
theorem vok_numR (op : Int) (d d' : Dt) : Vok (numR op d d').1 := by
  unfold numR
  split
  · split
    · exact vok_arith 3 _ _ _ _ (.inr rfl)
    · exact Vok.zero
  · exact vok_arith 2 _ _ _ _ (.inl rfl)
theorem vok_app2 (op : Int) (d d' : Dt) : Vok (app2 op d d').1 := by
  unfold app2
  split
  · exact vok_numA _ _ fun _ _ _ => vok_numR _ _ _
  · split
    · unfold cmpR
      split
      · exact Vok.zero
      · unfold comparedF
        split
        · exact Vok.zero
        · exact vok_truth _
    · split
      · unfold andorR
        split
        · unfold andor
          repeat' split
          all_goals (first | exact Vok.zero | exact vok_truth _ | exact vok_truth true | exact vok_truth false)
        · exact Vok.zero
      · unfold andorR
        split
        · unfold andor
          repeat' split
          all_goals (first | exact Vok.zero | exact vok_truth _ | exact vok_truth true | exact vok_truth false)
        · exact Vok.zero
theorem vok_appF (op : Int) (ds : List Dt) (hi : ∀ d ∈ ds, Vok d) : Vok (appF op ds).1 := by
  unfold appF
  split
  · exact Vok.zero
  · split
    · rename_i hr
      match ds with
      | [] => exact Vok.zero
      | [d] => exact vok_app1 op (hr 0 (by simp)) (hi d (by simp)).i
      | [d, d'] => exact vok_app2 op d d'
      | _ :: _ :: _ :: _ => exact Vok.zero
    · exact Vok.zero
theorem vok_caseF : ∀ (rs : List (Dt × Int)), (∀ r ∈ rs, Vok r.1) → Vok (caseF rs).1
  | [], _ => Vok.zero
  | [r], h => h r (by simp)
  | c :: v :: rest, h => by
    unfold caseF
    split
    · exact Vok.zero
    · split
      · exact Vok.zero
      · split
        · exact h v (by simp)
        · exact vok_caseF rest (fun r hr => h r (by simp [hr]))
theorem vok_coalF : ∀ (rs : List (Dt × Int)), (∀ r ∈ rs, Vok r.1) → Vok (coalF rs).1
  | [], _ => Vok.zero
  | r :: rest, h => by
    unfold coalF
    split
    · exact Vok.zero
    · split
      · exact h r (by simp)
      · exact vok_coalF rest (fun r hr => h r (by simp [hr]))
theorem vok_strictF (op : Int) : ∀ (acc : List Dt) (rs : List (Dt × Int)), (∀ d ∈ acc, Vok d) → (∀ r ∈ rs, Vok r.1) → Vok (strictF op acc rs).1
  | acc, [], h1, _ => by unfold strictF; exact vok_appF op acc h1
  | acc, r :: rest, h1, h2 => by
    unfold strictF
    split
    · exact Vok.zero
    · split
      · exact h2 r (by simp)
      · refine vok_strictF op (acc ++ [r.1]) rest (fun d hd => ?_) (fun r hr => h2 r (by simp [hr]))
        rcases List.mem_append.1 hd with hd | hd
        · exact h1 d hd
        · simp at hd; subst hd; exact h2 r (by simp)
theorem vok_callF (op : Int) (rs : List (Dt × Int)) (h : ∀ r ∈ rs, Vok r.1) : Vok (callF op rs).1 := by
  unfold callF
  split
  · exact vok_caseF rs h
  · split
    · exact vok_coalF rs h
    · exact vok_strictF op [] rs (by simp) h
end Go.Proofs.YtokbdleokihdaaaDoor
namespace Go.Proofs.YtokbdleokihdaaaDoor
open Go.RowKit

/-- A function value that answers the i-th of some results, in every world from here on. -/
def Kid (w : World) (f : Nat) (caps : Array Value) (rs : List (Dt × Int)) : Prop :=
  ∀ (i : Nat) (r : Dt × Int), rs[i]? = some r → ∀ W, Below w.heap.size w W → Calls Tryd.prog f (#[.int .i64 (i : Int)] ++ caps) W fun e w' => e = .returned (resV r) ∧ Below W.heap.size W w'

theorem caseF_drop {rs : List (Dt × Int)} {i : Nat} {c v : Dt × Int} (hc : rs[i]? = some c) (hv : rs[i + 1]? = some v) :
    caseF (rs.drop i) = if c.2 ≠ 0 then (Dt.zero, c.2) else if 1 < c.1.k then (Dt.zero, 5) else if c.1.k = 1 ∧ c.1.i = 1 then v else caseF (rs.drop (i + 2)) := by
  have hi : i + 1 < rs.length := (List.getElem?_eq_some_iff.1 hv).1
  have h1 : rs[i] = c := (List.getElem?_eq_some_iff.1 hc).2
  have h2 : rs[i + 1] = v := (List.getElem?_eq_some_iff.1 hv).2
  rw [List.drop_eq_getElem_cons (by omega), List.drop_eq_getElem_cons hi, h1, h2]
  rw [caseF]

set_option maxRecDepth 100000 in
set_option maxHeartbeats 4000000 in
theorem evcases_any (caps : Array Value) (rs : List (Dt × Int)) (w : World) (hV : ∀ r ∈ rs, Vok r.1) (hn : rs.length ≤ 1152921504606846976) (hK : Kid w 36 caps rs) :
    Calls Tryd.prog 39 #[.int .i64 (rs.length : Int), .func (.func 36) #[] caps] w fun e w' => e = .returned (resV (caseF rs)) ∧ Below w.heap.size w w' := by
  have HV := Lib.hid hV
  have HK := Lib.hid hK
  clear hV hK
  generalize hlen : rs.length = n at *
  have HL := Lib.hid hlen
  clear hlen
  go_enter Tryd.func39, Tryd.ntmps39
  go_wp2_with fail
  go_loopw [5] (fun iv wr => ∃ i : Nat, i ≤ n + 1 ∧ iv = .int .i64 (i : Int) ∧ caseF rs = caseF (rs.drop i) ∧ Below w.heap.size w wr) (fun iv _ => n + 2 - (intOf iv).toNat)
  case atStart => exact ⟨0, Nat.zero_le _, rfl, rfl, Below.refl _ _⟩
  case round =>
    obtain ⟨i, hi, rfl, hF, hbl⟩ := hrel
    have HF := Lib.hid hF
    have HB := Lib.hid hbl
    have hzr := hbl.size
    clear hF hbl
    by_cases hlt : i + 1 < n
    · obtain ⟨c, hc⟩ : ∃ c, rs[i]? = some c := ⟨rs[i]'(by rw [HL.out]; omega), List.getElem?_eq_getElem _⟩
      obtain ⟨v, hv⟩ : ∃ v, rs[i + 1]? = some v := ⟨rs[i + 1]'(by rw [HL.out]; omega), List.getElem?_eq_getElem _⟩
      have HD := Lib.hid (HF.out.trans (caseF_drop hc hv))
      have HK1 := Lib.hid (HK.out i c hc)
      have HK2 := Lib.hid (HK.out (i + 1) v hv)
      have hcv := HV.out c (List.mem_of_getElem? hc)
      clear hc hv
      obtain ⟨⟨ck, ci, cs⟩, er⟩ := c
      by_cases he : er = 0
      · subst he
        rw [resV_ok] at HK1
        have h0 : 0 ≤ ck := hcv.k
        by_cases hk1 : ck = 1
        · subst hk1
          have hi01 := (hcv.truth rfl).1
          simp only at hi01
          rcases hi01 with rfl | rfl
          · have HE := Lib.hid (show caseF rs = caseF (rs.drop (i + 2)) by rw [HD.out]; rfl)
            clear HD
            go_wp2_with (first
              | (go_at_call 36; refine (HK1.out _ HB.out).mono ?_; rintro e w2 ⟨rfl, hb2⟩; have HB2 := Lib.hid (HB.out.trans (hb2.mono hzr)); clear hb2)
              | (go_at_call 37; refine (evtruth_ok 1 0 cs _).mono ?_; rintro e w3 ⟨rfl, hb3⟩; have HB3 := Lib.hid (HB2.out.trans (hb3.mono HB2.out.size)); clear hb3)
              | fail)
            go_roundw
            case rel => exact ⟨i + 2, by omega, by go_num, HE.out, HB3.out⟩
            case measure => simp [intOf]; omega
          · have HE := Lib.hid (show caseF rs = v by rw [HD.out]; rfl)
            clear HD
            have hq : (1 : Int) = 1 := rfl
            go_wp2_with (first
              | (go_at_call 36; first | (refine (HK1.out _ HB.out).mono ?_; rintro e w2 ⟨rfl, hb2⟩; have HB2 := Lib.hid (HB.out.trans (hb2.mono hzr)); clear hb2) | (refine (HK2.out _ HB3.out).mono ?_; rintro e w4 ⟨rfl, hb4⟩; have HB4 := Lib.hid (HB3.out.trans (hb4.mono HB3.out.size)); clear hb4))
              | (go_at_call 37; refine (evtruth_ok 1 1 cs _).mono ?_; rintro e w3 ⟨rfl, hb3⟩; have HB3 := Lib.hid (HB2.out.trans (hb3.mono HB2.out.size)); clear hb3)
              | fail)
            go_ret
            exact ⟨congrArg Ending.returned (congrArg resV HE.out).symm, HB4.out⟩
        · have b1 : (ck == 1) = false := by simpa using hk1
          by_cases hk0 : ck = 0
          · obtain ⟨rfl, rfl⟩ : ci = 0 ∧ cs = ⟨#[]⟩ := by have := hcv.null hk0; injection this with _ a b; exact ⟨a, b⟩
            subst hk0
            have HE := Lib.hid (show caseF rs = caseF (rs.drop (i + 2)) by rw [HD.out]; rfl)
            clear HD
            have hz : eqD 0 0 ⟨#[]⟩ 0 0 ⟨#[]⟩ = true := eqD_iff.2 ⟨rfl, rfl, rfl⟩
            go_wp2_with (first
              | (go_at_call 36; refine (HK1.out _ HB.out).mono ?_; rintro e w2 ⟨rfl, hb2⟩; have HB2 := Lib.hid (HB.out.trans (hb2.mono hzr)); clear hb2)
              | (go_at_call 37; refine (evtruth_ok 0 0 ⟨#[]⟩ _).mono ?_; rintro e w3 ⟨rfl, hb3⟩; have HB3 := Lib.hid (HB2.out.trans (hb3.mono HB2.out.size)); clear hb3)
              | fail)
            go_roundw
            case rel => exact ⟨i + 2, by omega, by go_num, HE.out, HB3.out⟩
            case measure => simp [intOf]; omega
          · have HE := Lib.hid (show caseF rs = (Dt.zero, 5) by rw [HD.out, if_neg (fun h => h rfl), if_pos (show 1 < ck by omega)])
            have HE2 := Lib.hid (show resV (caseF rs) = .iface 30 (.int .i64 5) by rw [HE.out]; rfl)
            clear HD
            have hz : eqD ck ci cs 0 0 ⟨#[]⟩ = false := Bool.eq_false_iff.2 fun h => hk0 (eqD_iff.1 h).1
            go_wp2_with (first
              | (go_at_call 36; refine (HK1.out _ HB.out).mono ?_; rintro e w2 ⟨rfl, hb2⟩; have HB2 := Lib.hid (HB.out.trans (hb2.mono hzr)); clear hb2)
              | (go_at_call 37; refine (evtruth_ok ck ci cs _).mono ?_; rintro e w3 ⟨rfl, hb3⟩; have HB3 := Lib.hid (HB2.out.trans (hb3.mono HB2.out.size)); clear hb3)
              | fail)
            go_ret
            exact ⟨congrArg Ending.returned HE2.out.symm, HB3.out⟩
      · have HE := Lib.hid (show resV (caseF rs) = .iface 30 (.int .i64 er) by rw [HD.out, if_pos he]; exact if_neg he)
        rw [resV_err (r := (⟨ck, ci, cs⟩, er)) he] at HK1
        have hdz : decide (er = 0) = false := decide_eq_false he
        clear HD
        go_wp2_with (first
          | (go_at_call 36; refine (HK1.out _ HB.out).mono ?_; rintro e w2 ⟨rfl, hb2⟩; have HB2 := Lib.hid (HB.out.trans (hb2.mono hzr)); clear hb2)
          | (go_at_call 37; refine (evtruth_err er he _).mono ?_; rintro e w3 ⟨rfl, hb3⟩; have HB3 := Lib.hid (HB2.out.trans (hb3.mono HB2.out.size)); clear hb3)
          | fail)
        go_ret
        exact ⟨congrArg Ending.returned HE.out.symm, HB3.out⟩
    · by_cases h1 : i < n
      · obtain ⟨c, hc⟩ : ∃ c, rs[i]? = some c := ⟨rs[i]'(by rw [HL.out]; omega), List.getElem?_eq_getElem _⟩
        have hn1 : i + 1 = n := by omega
        have HE := Lib.hid (show caseF rs = c by
          rw [HF.out, List.drop_eq_getElem_cons (by rw [HL.out]; omega), List.drop_eq_nil_of_le (by rw [HL.out]; omega), (List.getElem?_eq_some_iff.1 hc).2, caseF])
        have HK1 := Lib.hid (HK.out i c hc)
        clear hc
        go_wp2_with (first
          | (go_at_call 36; refine (HK1.out _ HB.out).mono ?_; rintro e w2 ⟨rfl, hb2⟩; have HB2 := Lib.hid (HB.out.trans (hb2.mono hzr)); clear hb2)
          | fail)
        go_ret
        exact ⟨congrArg Ending.returned (congrArg resV HE.out).symm, HB2.out⟩
      · have HE := Lib.hid (show resV (caseF rs) = .iface 23 (.agg #[.int .i64 0, .int .i64 0, .string ⟨#[]⟩]) by
          rw [HF.out, List.drop_eq_nil_of_le (by rw [HL.out]; omega), caseF]; rfl)
        go_wp2_with fail
        go_ret
        exact ⟨congrArg Ending.returned HE.out.symm, HB.out⟩
end Go.Proofs.YtokbdleokihdaaaDoor
namespace Go.Proofs.YtokbdleokihdaaaDoor
open Go.RowKit

def dtCells (ds : List Dt) : List Value := ds.flatMap Dt.cells
theorem dtCells_snoc (ds : List Dt) (d : Dt) : dtCells (ds ++ [d]) = dtCells ds ++ d.cells := by simp [dtCells]
theorem dtCells_length (ds : List Dt) : (dtCells ds).length = ds.length * 3 := by
  induction ds with
  | nil => rfl
  | cons d ds ih => simp only [dtCells, List.flatMap_cons, List.length_append, List.length_cons] at ih ⊢; rw [ih]; simp [Dt.cells]; omega
theorem dtCells_get : ∀ (ds : List Dt) (i j : Nat) (u : Value), i < ds.length → (dnth ds i).cells[j]? = some u → (dtCells ds)[i * 3 + j]? = some u
  | d :: ds, 0, j, u, _, h => by
    have hj : j < d.cells.length := (List.getElem?_eq_some_iff.1 h).1
    simp only [dtCells, List.flatMap_cons]
    rw [Nat.zero_mul, Nat.zero_add, List.getElem?_append_left hj]
    exact h
  | d :: ds, i + 1, j, u, hi, h => by
    simp only [dtCells, List.flatMap_cons]
    rw [List.getElem?_append_right (by simp [Dt.cells]; omega)]
    rw [show (i + 1) * 3 + j - d.cells.length = i * 3 + j by simp [Dt.cells]; omega]
    exact dtCells_get ds i j u (by simpa using hi) (by simpa [dnth] using h)
theorem datS_of_row {w : World} {B : Nat} {e : TypeId} {v : Value} {ds : List Dt} (h : w.ownsRow B e 3 v ds.length (dtCells ds)) (hi : ∀ d ∈ ds, -9223372036854775808 ≤ d.i ∧ d.i ≤ 9223372036854775807) : DatS w v ds := by
  have h0 := h
  rcases h.2 with ⟨rfl, hn⟩ | ⟨g, cap, cur, rfl, hB, hg, hc, hm, hz, ht⟩
  · have : ds = [] := List.length_eq_zero_iff.1 hn
    subst this
    exact ⟨none, 0, rfl, Nat.le_refl _, by omega, .inl rfl, by simp⟩
  · refine ⟨_, cap, rfl, hc, by unfold maxLen at hm; omega, ?_, hi⟩
    by_cases hds : ds = []
    · exact .inl hds
    · refine .inr ⟨g, 0, rfl, ?_, ?_⟩
      · have := (Array.getElem?_eq_some_iff.1 hg).1; exact this
      · intro i hil
        have hat := fun j (hj : j < ds.length * 3) => h0.cellAt j hj
        have h1 := hat (i * 3) (by omega)
        have h2 := hat (i * 3 + 1) (by omega)
        have h3 := hat (i * 3 + 2) (by omega)
        rw [show i * 3 = i * 3 + 0 by omega, dtCells_get ds i 0 (.int .i64 (dnth ds i).k) hil rfl] at h1
        rw [dtCells_get ds i 1 (.int .i64 (dnth ds i).i) hil rfl] at h2
        rw [dtCells_get ds i 2 (.string (dnth ds i).s) hil rfl] at h3
        refine ⟨?_, ?_, ?_⟩
        · simpa using h1
        · simpa using h2
        · simpa using h3

/-- Cells that hold results. -/
def ResCells (w : World) (b o : Nat) (rs : List (Dt × Int)) : Prop := ∀ i r, rs[i]? = some r → w.cell? ⟨b, o + i, none⟩ = some (resV r)
/-- What apply answers. -/
def applyF (op : Int) : List Dt → List (Dt × Int) → Dt × Int
  | acc, [] => appF op acc
  | acc, r :: rest => if r.2 ≠ 0 then (Dt.zero, r.2) else applyF op (acc ++ [r.1]) rest
theorem applyF_step {op : Int} {rs : List (Dt × Int)} {acc : List Dt} {i : Nat} {r : Dt × Int} (h : rs[i]? = some r) (h0 : r.2 = 0) : applyF op acc (rs.drop i) = applyF op (acc ++ [r.1]) (rs.drop (i + 1)) := by
  have hi : i < rs.length := (List.getElem?_eq_some_iff.1 h).1
  have hr : rs[i] = r := (List.getElem?_eq_some_iff.1 h).2
  rw [List.drop_eq_getElem_cons hi, hr]
  rw [applyF, if_neg (by simp [h0])]
theorem applyF_bad {op : Int} {rs : List (Dt × Int)} {acc : List Dt} {i : Nat} {r : Dt × Int} (h : rs[i]? = some r) (h0 : r.2 ≠ 0) : applyF op acc (rs.drop i) = (Dt.zero, r.2) := by
  have hi : i < rs.length := (List.getElem?_eq_some_iff.1 h).1
  have hr : rs[i] = r := (List.getElem?_eq_some_iff.1 h).2
  rw [List.drop_eq_getElem_cons hi, hr]
  rw [applyF, if_pos h0]
theorem resV_bad {r : Dt × Int} (h : r.2 ≠ 0) (d : Dt) : resV (d, r.2) = resV r := by simp [resV, h]
theorem Dtinfo : (Tryd.prog.info? 23).map (fun i => (i.zero, i.size, i.bytes)) = some (some (.agg #[.int .i64 0, .int .i64 0, .string ⟨#[]⟩]), 3, 32) := by kernel_rfl
theorem cell3n (W : World) (x y z : Value) (t : TypeId) (j : Nat) (u : Value) (hj : [x, y, z][j]? = some u) : (W.alloc (.cells #[x, y, z] t)).cell? ((⟨W.heap.size, 0, none⟩ : Addr).add j) = some u := by
  have hadd : (⟨W.heap.size, 0, none⟩ : Addr).add j = ⟨W.heap.size, j, none⟩ := by unfold Addr.add; split <;> simp_all
  rw [hadd, World.cell?_alloc_new]
  match j, hj with
  | 0, hj => exact hj
  | 1, hj => exact hj
  | 2, hj => exact hj

theorem cell3n2 (W : World) (u : Obj) (x y z : Value) (t : TypeId) (j : Nat) (v : Value) (hj : [x, y, z][j]? = some v) : ((W.alloc u).alloc (.cells #[x, y, z] t)).cell? ((⟨W.heap.size + 1, 0, none⟩ : Addr).add j) = some v := by
  have := cell3n (W.alloc u) x y z t j v hj
  rwa [World.size_alloc] at this

set_option maxRecDepth 100000 in
set_option maxHeartbeats 4000000 in
theorem evapply_any (op : Int) (rs : List (Dt × Int)) (b o cap : Nat) (w : World) (hn : rs.length ≤ 5) (hbk : b < w.heap.size) (hc : ResCells w b o rs) (hT : Tabs w) (hi64 : ∀ r ∈ rs, -9223372036854775808 ≤ r.1.i ∧ r.1.i ≤ 9223372036854775807) :
    Calls Tryd.prog 38 #[.int .i64 op, .slice (some ⟨b, o, none⟩) rs.length cap] w fun e w' => e = .returned (resV (applyF op [] rs)) ∧ Below w.heap.size w w' := by
  obtain ⟨i0, hi, hz0, hz1, hz2⟩ := info_parts Dtinfo
  have HC := Lib.hid hc
  have HT := Lib.hid hT
  have HI := Lib.hid hi64
  clear hc hT hi64
  go_enter Tryd.func38, Tryd.ntmps38
  go_wp2_with fail
  go_loopw [5, 14] (fun lv iv wr => ∃ i : Nat, i ≤ rs.length ∧ iv = .int .i64 (i : Int) ∧ wr.ownsRow w.heap.size 23 3 lv i (dtCells ((rs.take i).map (·.1))) ∧ applyF op [] rs = applyF op ((rs.take i).map (·.1)) (rs.drop i) ∧ Below w.heap.size w wr)
    (fun _ iv _ => rs.length - (intOf iv).toNat)
  case atStart => exact ⟨0, Nat.zero_le _, rfl, World.ownsRow_nil _ _ _ _, rfl, Below.refl _ _⟩
  case round =>
    obtain ⟨i, hi', rfl, hrow, hF, hnx⟩ := hrel
    have HROW := Lib.hid hrow
    have HNX := Lib.hid hnx
    have HF := Lib.hid hF
    have hzr := hnx.size
    clear hrow hnx hF
    obtain ⟨lp, ln, lc, hlv⟩ := owns_slice HROW.out
    subst hlv
    by_cases hlt : i < rs.length
    · obtain ⟨r, hr⟩ : ∃ r, rs[i]? = some r := ⟨rs[i], List.getElem?_eq_getElem hlt⟩
      have hcell : wr.cell? ⟨b, o + i, none⟩ = some (resV r) := (HNX.out.cell (p := ⟨b, o + i, none⟩) hbk).trans (HC.out i r hr)
      by_cases h0 : r.2 = 0
      · have HST := Lib.hid (applyF_step (op := op) (acc := (rs.take i).map (·.1)) hr h0)
        have HTK := Lib.hid (show dtCells ((rs.take (i + 1)).map (·.1)) = dtCells ((rs.take i).map (·.1)) ++ r.1.cells by rw [List.take_add_one, hr, List.map_append]; exact dtCells_snoc _ _)
        have HMK := Lib.hid (show (rs.take (i + 1)).map (·.1) = (rs.take i).map (·.1) ++ [r.1] by rw [List.take_add_one, hr, List.map_append]; rfl)
        obtain ⟨⟨dk, di, ds⟩, er⟩ := r
        simp only at h0
        subst h0
        rw [show resV (⟨dk, di, ds⟩, 0) = .iface 23 (.agg #[.int .i64 dk, .int .i64 di, .string ds]) from rfl] at hcell
        clear hr
        go_wp2_with (at_builtin; refine wpList_append_own _ rfl _ _ 29 rfl w.heap.size 23 i0 (.agg #[.int .i64 0, .int .i64 0, .string ⟨#[]⟩]) 3 32 Tryd.underlying29 hi hz0 hz1 hz2 rfl (by decide) _ _ _ rfl ((HROW.out.alloc _).alloc _) ⟨wr.heap.size + 1, 0, none⟩ 1 1 [.int .i64 dk, .int .i64 di, .string ds] rfl rfl (cell3n2 _ _ _ _ _ _) (by simp [Value.oneCell']) (by unfold maxLen; omega) (by omega) (by simp; omega) ?_; intro v' w3 hown' hg3 _; have HO3 := Lib.hid hown'; have HG3 := Lib.hid hg3; clear hown' hg3; go_frame)
        go_roundw
        case rel =>
          refine ⟨i + 1, by omega, by go_num, by rw [HTK.out]; exact HO3.out, by rw [HF.out, HST.out, HMK.out], ?_⟩
          exact ((HNX.out.alloc (by omega) _).alloc (by simp; omega) _).grown HG3.out (by simp; omega) (fun j hj => (HROW.out.lt j hj).1)
        case measure => simp [intOf]; omega
      · have HBD := Lib.hid (applyF_bad (op := op) (acc := (rs.take i).map (·.1)) hr h0)
        have HRB := Lib.hid (resV_bad h0 Dt.zero)
        have hcell2 : wr.cell? ⟨b, o + i, none⟩ = some (.iface 30 (.int .i64 r.2)) := by rw [hcell, resV, if_neg h0]
        have HRV := Lib.hid (show resV r = .iface 30 (.int .i64 r.2) by rw [resV, if_neg h0])
        clear hcell hr
        go_wp2_with fail
        go_ret
        refine ⟨congrArg Ending.returned (show resV (applyF op [] rs) = .iface 30 (.int .i64 r.2) by rw [HF.out, HBD.out, HRB.out, HRV.out]).symm, ?_⟩
        exact HNX.out.alloc (by omega) _
    · obtain rfl : i = rs.length := by omega
      have HDS := Lib.hid (show DatS wr (.slice lp ln lc) (rs.map (·.1)) from datS_of_row (by have := HROW.out; rw [List.take_length] at this; rw [List.length_map]; exact this) (fun d hd => by
        obtain ⟨r, hr, rfl⟩ := List.mem_map.1 hd
        exact HI.out r hr))
      have HFF := Lib.hid (show applyF op [] rs = appF op (rs.map (·.1)) by rw [HF.out, List.take_length, List.drop_length, applyF])
      have HAP := Lib.hid ((both_any_args op _ _ wr HDS.out (by simpa using hn) (HT.out.below HNX.out)).1)
      clear HROW HDS HF
      generalize appF op (rs.map (·.1)) = R at *
      obtain ⟨⟨rk, ri, rs'⟩, er⟩ := R
      by_cases h0 : er = 0
      · subst h0
        have HV := Lib.hid (show resV (applyF op [] rs) = .iface 23 (.agg #[.int .i64 rk, .int .i64 ri, .string rs']) by rw [HFF.out]; rfl)
        go_wp2_with (first | (go_at_call 48; refine (HAP.out _ (Below.refl _ _)).mono ?_; rintro e w2 ⟨rfl, hb2⟩; have HB2 := Lib.hid (HNX.out.trans (hb2.mono hzr)); clear hb2) | fail)
        go_ret
        exact ⟨congrArg Ending.returned HV.out.symm, HB2.out.alloc HB2.out.size _⟩
      · have HV := Lib.hid (show resV (applyF op [] rs) = .iface 30 (.int .i64 er) by rw [HFF.out]; exact if_neg h0)
        go_wp2_with (first | (go_at_call 48; refine (HAP.out _ (Below.refl _ _)).mono ?_; rintro e w2 ⟨rfl, hb2⟩; have HB2 := Lib.hid (HNX.out.trans (hb2.mono hzr)); clear hb2) | fail)
        go_ret
        exact ⟨congrArg Ending.returned HV.out.symm, HB2.out.alloc HB2.out.size _⟩
/-- apply at two results in a new block. -/
theorem apply_new2 (op : Int) (r0 r1 : Dt × Int) (u0 u1 : Value) (h0 : u0 = resV r0) (h1 : u1 = resV r1) (w4 : World) (hT : Tabs w4) (b0 : -9223372036854775808 ≤ r0.1.i ∧ r0.1.i ≤ 9223372036854775807) (b1 : -9223372036854775808 ≤ r1.1.i ∧ r1.1.i ≤ 9223372036854775807) :
    Calls Tryd.prog 38 #[.int .i64 op, .slice (some ⟨w4.heap.size, 0, none⟩) 2 2] (w4.alloc (.cells #[u0, u1] 48)) fun e w' => e = .returned (resV (applyF op [] [r0, r1])) ∧ Below w4.heap.size w4 w' := by
  subst h0 h1
  have hb : Below w4.heap.size w4 (w4.alloc (.cells #[resV r0, resV r1] 48)) := (Below.refl _ _).alloc (Nat.le_refl _) _
  refine (evapply_any op [r0, r1] w4.heap.size 0 2 _ (by simp) (by simp) (fun i r hr => ?_) (hT.below hb) (fun r hr => ?_)).mono ?_
  · rw [World.cell?_alloc_new]
    match i, hr with
    | 0, hr => simp at hr; subst hr; rfl
    | 1, hr => simp at hr; subst hr; rfl
  · simp at hr
    rcases hr with rfl | rfl
    · exact b0
    · exact b1
  · rintro e w' ⟨rfl, h⟩
    exact ⟨rfl, hb.trans (h.mono (by simp))⟩
theorem resV_form (r : Dt × Int) : ∃ t v, resV r = .iface t v := by
  unfold resV
  split
  · exact ⟨_, _, rfl⟩
  · exact ⟨_, _, rfl⟩
theorem applyF_two (op : Int) (r0 r1 : Dt × Int) : applyF op [] [r0, r1] = if r0.2 ≠ 0 then (Dt.zero, r0.2) else if r1.2 ≠ 0 then (Dt.zero, r1.2) else appF op [r0.1, r1.1] := by
  unfold applyF
  split
  · rfl
  · unfold applyF
    split
    · rfl
    · unfold applyF; rfl
theorem strictF_two (op : Int) (r0 r1 : Dt × Int) : strictF op [] [r0, r1] = if r0.2 ≠ 0 then (Dt.zero, r0.2) else if shortF op r0.1 = true then r0 else if r1.2 ≠ 0 then (Dt.zero, r1.2) else appF op [r0.1, r1.1] := by
  rw [strictF]
  split
  · rfl
  · simp only [true_and]
    split
    · rfl
    · rw [strictF]
      split
      · rfl
      · rw [if_neg (by simp), strictF]; rfl
theorem strict_apply {op : Int} {r0 r1 : Dt × Int} (h0 : r0.2 = 0) (hs : shortF op r0.1 = false) : strictF op [] [r0, r1] = applyF op [] [r0, r1] := by
  rw [strictF_two, applyF_two, h0, hs]
  simp
end Go.Proofs.YtokbdleokihdaaaDoor
namespace Go.Proofs.YtokbdleokihdaaaDoor
open Go.RowKit

def In64d (d : Dt) : Prop := -9223372036854775808 ≤ d.i ∧ d.i ≤ 9223372036854775807
theorem valL_mem (env : List (List Dt)) {P : Dt × Int → Prop} : ∀ (l : List Ex) (s : List Dt), (∀ x ∈ l, ∀ n, P (x.val env (s.drop n))) → ∀ r ∈ valL env l s, P r
  | [], _, _, r, hr => by simp [valL] at hr
  | x :: l, s, h, r, hr => by
    unfold valL at hr
    rcases List.mem_cons.1 hr with rfl | hr
    · have := h x (by simp) 0
      simpa using this
    · refine valL_mem env l (s.drop x.cnt) (fun y hy n => ?_) r hr
      rw [List.drop_drop]
      exact h y (by simp [hy]) _
theorem vok_val {w : World} {x : Ex} (hx : ExAt w x) (env : List (List Dt)) (henv : ∀ r ∈ env, ∀ d ∈ r, In64d d) : x.right env = true → ∀ subs : List Dt, (∀ d ∈ subs, Vok d) → Vok (x.val env subs).1 := by
  induction hx with
  | @mk k t nl l lev col op kids p cap ps ns cs h1 h2 hk hl hks ih =>
    intro hr subs hs
    unfold Ex.right at hr
    unfold Ex.val
    by_cases k1 : k = 1
    · rw [if_pos k1] at hr ⊢
      exact vok_right hr hl
    · rw [if_neg k1] at hr ⊢
      by_cases k2 : k = 2
      · rw [if_pos k2] at hr ⊢
        unfold colOk at hr
        simp only [Bool.and_eq_true, decide_eq_true_eq] at hr
        obtain ⟨⟨⟨⟨a1, a2⟩, a3⟩, a4⟩, a5⟩ := hr
        refine vok_right a5 ?_
        have hl1 : lev.toNat < env.length := by omega
        have hl2 : col.toNat < (env.getD lev.toNat []).length := by omega
        refine henv (env.getD lev.toNat []) ?_ _ ?_
        · rw [List.getD_eq_getElem?_getD, List.getElem?_eq_getElem hl1]
          exact List.getElem_mem hl1
        · unfold dnth
          rw [List.getD_eq_getElem?_getD (l := env.getD lev.toNat []), List.getElem?_eq_getElem hl2]
          exact List.getElem_mem hl2
      · rw [if_neg k2] at hr ⊢
        by_cases k3 : k = 3
        · rw [if_pos k3] at hr ⊢
          simp only [Bool.and_eq_true] at hr
          refine vok_callF op _ (valL_mem env (P := fun r => Vok r.1) kids subs fun y hy n => ?_)
          exact ih y hy ((rightL_iff env kids).1 hr.1 y hy) _ (fun d hd => hs d (List.mem_of_mem_drop hd))
        · rw [if_neg k3]
          split
          · show Vok (dnth subs 0)
            cases subs with
            | nil => exact Vok.zero
            | cons d s => exact hs d (by simp)
          · exact Vok.zero
end Go.Proofs.YtokbdleokihdaaaDoor
