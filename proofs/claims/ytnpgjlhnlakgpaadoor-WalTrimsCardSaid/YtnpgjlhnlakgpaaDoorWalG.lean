/- The log's Scan: a loop over the iterator. -/
import Derived.Test.YtnpgjlhnlakgpaaDoorWalF
namespace Go.Proofs.YtnpgjlhnlakgpaaDoor
open Go.RowKit Go.Shelf Go.Maps

attribute [local go_sem] Oper.semAt_some

theorem frames_any (s : ByteArray) (w : World) : Calls Tryd.prog 61 #[.string s] w fun e w' => e = .returned (.func (.func 92) #[] #[.pointer (some ⟨w.heap.size, 0, none⟩)]) ∧ w' = w.alloc (.cells #[.string s] 9) := by
  go_enter Tryd.func61, Tryd.ntmps61
  go_wp2_with fail
  go_ret
  exact ⟨rfl, rfl⟩
theorem frames_stops (Bs n₀ n : Nat) (hn : 1 ≤ n) (s : ByteArray) (hs : s.size ≤ 8000000000000) (w : World) (hb : Bs < w.heap.size) (hBs : w.cell? ⟨Bs, 0, none⟩ = some (.string s)) :
    SeqStopsK Fence.wide n Tryd.prog 92 #[.pointer (some ⟨Bs, 0, none⟩)] (fun x : Nat × List UInt8 => #[Value.int .i64 (x.1 : Int), Value.string (bs x.2)]) (Kf n₀ Bs) (fun ys => ys = scanQ 0 s.data.toList) (fun _ => True) s.size w := fun l J Jx W hW hJ _ hY h0 =>
  frames_in l Bs n₀ n hn s hs J Jx (fun p A B h hB => hJ p A B none h (below_grown hB) (fun r e => by cases e)) hY W (Nat.lt_of_lt_of_le hb hW.size) ((hW.cell (p := ⟨Bs, 0, none⟩) (by show Bs < _; omega)).trans hBs) h0
theorem kf_t {n₀ Bs : Nat} {A B C : World} (h : Kf n₀ Bs A B) (k : Kf n₀ Bs B C) : Kf n₀ Bs A C := ⟨h.1.trans k.1, fun v e => k.2 v (h.2 v e)⟩
theorem kf_b {n₀ Bs : Nat} {w : World} (hn : n₀ ≤ w.heap.size) (hb : Bs < w.heap.size) (W : World) (l : Nat) (o o' : Obj) (hl : w.heap.size ≤ l) (h : W.heap[l]? = some o) (h1 : o.isCells = false) (h2 : o.isWalk = false) : Kf n₀ Bs W (W.putObj l o') :=
  ⟨belowK_b hn W l o o' hl h h1 h2, fun v e => by rw [← e]; exact (belowK_b (Nat.le_refl _) W l o o' hl h h1 h2).cell (p := ⟨Bs, 0, none⟩) hb⟩
theorem row_mono {W : World} {b b' : Nat} {e : TypeId} {size : Nat} {v : Value} {k : Nat} {xs : List Value} (h : W.ownsRow b e size v k xs) (hle : b' ≤ b) : W.ownsRow b' e size v k xs :=
  ⟨h.1, h.2.imp id (fun ⟨g, cap, cur, e1, hb, r⟩ => ⟨g, cap, cur, e1, Nat.le_trans hle hb, r⟩)⟩
/-- Where the last frame of these ends. -/
def lastE (l : List (Nat × List UInt8)) : Nat := l.foldl (fun _ x => x.1) 0
theorem lastE_snoc (l : List (Nat × List UInt8)) (x : Nat × List UInt8) : lastE (l ++ [x]) = x.1 := by simp [lastE]
theorem scanQ_F (s : List UInt8) : (scanQ 0 s).map (·.2) = (scanF s).1 ∧ lastE (scanQ 0 s) = (scanF s).2 := by
  have := scanQ_scan (s.length + 1) 0 s
  rw [Nat.zero_add] at this
  exact this
theorem boxc {W W' : World} {B : Nat} {t : TypeId} {v : Value} (h : Boxed W B t v) (hB : Below W.heap.size W W') : W'.cell? ⟨B, 0, none⟩ = some v := (hB.cell (p := ⟨B, 0, none⟩) h.lt).trans h.cell

set_option maxRecDepth 100000 in
set_option maxHeartbeats 4000000 in
theorem scan_any (s : ByteArray) (w : World) (hs : s.size ≤ 8000000000000) : Calls Tryd.prog 29 #[.string s] w fun e w' => ∃ v, e = .returned (.tuple #[v, .int .i64 ((scanF s.data.toList).2 : Int)]) ∧ SL w w' v (scanF s.data.toList).1 := by
  obtain ⟨hZ1, hZ2⟩ := scanQ_F s.data.toList
  rw [← hZ1, ← hZ2]
  clear hZ1 hZ2
  obtain ⟨i0, hi0, hz0, hz1, hz2⟩ := info_parts strcell
  refine (callsIn_wide (n := 5)).1 ?_
  refine callsIn_of_wp_marks Tryd.func29 rfl trivial ?_ rfl
  simp only [Tryd.ntmps29, List.size_toArray, List.length_cons, List.length_nil, Nat.reduceAdd, Nat.reduceSub, Array.replicate_succ, Array.replicate_zero, List.push_toArray, List.append_toArray, List.nil_append, List.cons_append]
  gi_wp2_with (first
    | (refine ⟨trivial, ?_⟩; gi_at_call 61; refine (callsIn_wide.2 (frames_any s _)).mono ?_; rintro e w' ⟨rfl, rfl⟩)
    | fail)
  have bO := Boxed.new w 43 (.slice none 0 0)
  have bE := Boxed.new (w.alloc (.cells #[.slice none 0 0] 43)) 3 (.int .i64 0)
  have bN := Boxed.new ((w.alloc (.cells #[.slice none 0 0] 43)).alloc (.cells #[.int .i64 0] 3)) 9 (.string s)
  simp only [World.size_alloc] at bE bN
  have hB0 : Below w.heap.size w (((w.alloc (.cells #[.slice none 0 0] 43)).alloc (.cells #[.int .i64 0] 3)).alloc (.cells #[.string s] 9)) := (((Below.refl _ w).alloc (Nat.le_refl _) _).alloc (by simp) _).alloc (by simp; omega) _
  refine wpIn_rangeFunc_ownG rfl (by decide) (gf := 92) (lb := #[.pointer (some ⟨w.heap.size + 1 + 1, 0, none⟩)]) rfl trivial (enters_of Tryd.func92 (by kernel_rfl) rfl)
    (frames_stops (w.heap.size + 1 + 1) w.heap.size (5 - 1) (by decide) s hs _ (by simp) bN.cell) kf_t (kf_b (by simp; omega) (by simp)) (Below.refl _ _) (fun _ => rfl)
    (fun pre W => (∃ v, Boxed W w.heap.size 43 v ∧ W.ownsRow (w.heap.size + 3) 9 1 v pre.length (recVals (pre.map (·.2))) ∧ True) ∧ (Boxed W (w.heap.size + 1) 3 (.int .i64 (lastE pre : Int)) ∧ (Boxed W (w.heap.size + 1 + 1) 9 (.string s) ∧ Below w.heap.size w W)))
    (fun _ _ _ => False)
    (OwnFrom.and (Own.from (holdsRow_own (w.heap.size + 3) w.heap.size 43 9 1 (fun pre : List (Nat × List UInt8) => pre.length) (fun pre => recVals (pre.map (·.2))) (fun _ _ => True)) _) (OwnFrom.and (Own.from (boxed_own (w.heap.size + 1) 3 (fun pre => .int .i64 (lastE pre : Int))) _) (OwnFrom.and (Own.from (boxed_own (w.heap.size + 1 + 1) 9 (fun _ => .string s)) _) (ownFrom_below (Nat.le_refl _) (by simp; omega)))))
    (fun _ _ _ _ _ hs _ _ => hs)
    ⟨⟨_, (bO.alloc _).alloc _, World.ownsRow_nil _ _ _ _, trivial⟩, bE.alloc _, bN, hB0⟩
    (fun x => { tmps := #[.string s, undef, .slice none 0 0, .int .i64 0, .pointer (some ⟨w.heap.size, 0, none⟩), .pointer (some ⟨w.heap.size + 1, 0, none⟩), .int .i64 (x.1 : Int), .string (bs x.2), .string s, .func (.func 92) #[] #[.pointer (some ⟨w.heap.size + 1 + 1, 0, none⟩)], .int .i64 (x.1 : Int), .string (bs x.2), undef, undef, undef, undef, undef, undef, undef], defers := [] }) ?assign ?body ?done ?stop
  case assign =>
    intro l x W K hK
    gi_wp2
    exact hK
  case body =>
    rintro l pre x W ⟨⟨v, hv, hrow, -⟩, hE, hS, hB⟩ hlt
    have hSl := hS.lt
    have hc := hv.cell
    gi_wp2_with (gi_at_builtin; refine wpListIn_append_own _ rfl _ _ 43 rfl (w.heap.size + 3) 9 i0 (.string ⟨#[]⟩) 1 16 Tryd.underlying43 hi0 hz0 hz1 hz2 rfl (by decide) _ _ _ rfl (hrow.alloc _) ⟨W.heap.size, 0, none⟩ 1 1 [.string (bs x.2)] rfl rfl (cell_one_new _ _ _) (by simp [Value.oneCell']) (by unfold maxLen; omega) (by omega) (by simp; omega) ?_; intro v' w1 hown' hgrow _; obtain ⟨g', cap', rfl⟩ := ownsRow_succ hown'; obtain ⟨hv1, hv2, -, hk2, hb2⟩ := hv.appended (by decide) (row_mono hrow (Nat.le_add_right _ 3)) hB.size (Nat.le_refl _) (row_mono hown' (Nat.le_add_right _ 3)) hgrow; have hc1 := hv1.cell; have hf1 := hv1.frozen; have hE1 := (hE.alloc (.cells #[.string (bs x.2)] 9)).kept hgrow (hE.not_row (by decide) hrow); have he1 := hE1.cell; have he2 := hE1.frozen; have hS1 := (hS.alloc (.cells #[.string (bs x.2)] 9)).kept hgrow (fun e => by have := (hrow.lt _ e.symm).1; omega))
    refine ⟨(hk2.trans (KeepsOthers.setCell _ _ _)).from _, ⟨hb2.setCell (p := ⟨w.heap.size + 1, 0, none⟩) (by simp) _, ?_⟩, ⟨_, hv2.other (by omega) _, ?_, trivial⟩, by rw [lastE_snoc]; exact (hE1.other (by omega) _).set _, (hS1.other (by omega) _).other (by omega) _, (hB.trans hb2).setCell (p := ⟨w.heap.size + 1, 0, none⟩) (by simp) _⟩
    · intro u hu
      rw [hS.cell] at hu
      rw [← hu]
      exact ((hS1.other (by omega) _).other (by omega) _).cell
    · have h1 := hown'.kept (grownBy_setCell' w1 w.heap.size (.slice (some ⟨g', 0, none⟩) (pre.length + 1) cap')) (.inr (hv1.not_row (by decide) hown').symm)
      have h2 := h1.kept (grownBy_setCell' _ (w.heap.size + 1) (.int .i64 (x.1 : Int))) (.inr (fun e => by have := (h1.lt _ e).1; omega))
      simpa [recVals] using h2
  case done =>
    rintro D ys W hD rfl ⟨⟨v, hv, hrow, -⟩, hE, hS, hB⟩ hK
    have hgn := GW.ne (Inv := fun A => Below W.heap.size W A) (Below.refl _ W)
    have g1 : ∀ u : GW (fun A => Below W.heap.size W A), u.w.cell? ⟨w.heap.size, 0, none⟩ = some v := fun u => boxc hv u.h
    have g2 : ∀ u : GW (fun A => Below W.heap.size W A), u.w.cell? ⟨w.heap.size + 1, 0, none⟩ = some (.int .i64 (lastE (scanQ 0 s.data.toList) : Int)) := fun u => boxc hE u.h
    have HL := Lib.hid (show (List.map (fun x => x.2) (scanQ 0 s.data.toList)).length = (scanQ 0 s.data.toList).length from List.length_map ..)
    obtain ⟨E, hEe⟩ : ∃ E, lastE (scanQ 0 s.data.toList) = E := ⟨_, rfl⟩
    rw [hEe] at g2
    have HEe := Lib.hid hEe
    clear hEe
    gi_upto_region 8 with fail
    refine wpIn_wide.2 ?_
    refine wp_region_grow (fun A => Below W.heap.size W A) (by kernel_rfl) (by kernel_rfl) (Below.refl _ _).drew ?_
    repeat (go_big_quiet_step (fail))
    refine wpQuiet_nil ?_
    intro w4 hw'
    obtain ⟨⟨wx, h4⟩, hw''⟩ := hw'
    subst hw''
    have hK4 : w4.heap[D]? = some (.deferred (some [])) := (h4.block D (Array.getElem?_eq_some_iff.1 hK).1).trans hK
    gi_wp2
    refine ⟨by simp, .inl ⟨_, _, rfl, run_takeDeferred hK4, ?_⟩⟩
    have hr4 := hrow.kept (below_grown h4) (by
      cases hv : v.ownBlock with
      | none => exact .inl rfl
      | some k => exact .inr (by simp : some k ≠ none))
    refine ⟨.tuple #[v, .int .i64 (E : Int)], by simp [results, Tryd.results29, go_sem], v, by rw [HEe.out], ?_, ?_⟩
    · exact (hB.trans (h4.mono hB.size)).trans (belowK_b (w := w) (Nat.le_refl _) w4 D _ _ (by simp at hD; omega) hK4 rfl rfl)
    · have h5 := ownsRow_putObj hr4 (.deferred none) hK4 rfl
      rw [HL.out]
      exact row_mono h5 (Nat.le_add_right _ 3)
  case stop =>
    rintro D c pre W _ _ h _
    exact h.elim
end Go.Proofs.YtnpgjlhnlakgpaaDoor
