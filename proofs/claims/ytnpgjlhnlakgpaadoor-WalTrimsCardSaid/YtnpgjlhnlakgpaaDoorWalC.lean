/- The document's Scan. -/
import Derived.Test.YtnpgjlhnlakgpaaDoorWalO
import Derived.Maps.AppendAt
namespace Go.Proofs.YtnpgjlhnlakgpaaDoor
open Go.RowKit Go.Maps

theorem strcell : (Tryd.prog.info? 9).map (fun i => (i.zero, i.size, i.bytes)) = some (some (.string ⟨#[]⟩), 1, 16) := by kernel_rfl
/-- Texts as cells. -/
def recVals (l : List (List UInt8)) : List Value := l.map fun r => .string (bs r)
/-- A row of texts of one's own, and all that was is as it was. -/
structure SL (w W : World) (v : Value) (l : List (List UInt8)) : Prop where
  B : Below w.heap.size w W
  o : W.ownsRow w.heap.size 9 1 v l.length (recVals l)
theorem SL.below {w W W' : World} {v : Value} {l : List (List UInt8)} (h : SL w W v l) (hB : Below W.heap.size W W') : SL w W' v l :=
  ⟨h.B.trans (hB.mono h.B.size), h.o.kept ⟨hB.os, hB.tape, hB.output, hB.size, fun k hk _ => hB.block k hk⟩ (by
    cases hv : v.ownBlock with
    | none => exact .inl rfl
    | some k => exact .inr (by simp : some k ≠ none))⟩
theorem SL.alloc {w W : World} {v : Value} {l : List (List UInt8)} (h : SL w W v l) (x : Obj) : SL w (W.alloc x) v l := h.below ((Below.refl _ _).alloc (Nat.le_refl _) x)
theorem SL.grow {w W W' : World} {v v' : Value} {l l' : List (List UInt8)} (h : SL w W v l) (hg : W.grownBy W' v.ownBlock) (ho : W'.ownsRow w.heap.size 9 1 v' l'.length (recVals l')) : SL w W' v' l' :=
  ⟨h.B.grown hg h.B.size (fun k hk => (h.o.lt k hk).1), ho⟩
theorem SL.new (w : World) : SL w w (.slice none 0 0) [] := ⟨Below.refl _ _, World.ownsRow_nil _ _ _ _⟩
theorem bs_data (s : ByteArray) : bs s.data.toList = s := rfl

set_option maxRecDepth 100000 in
set_option maxHeartbeats 8000000 in
theorem rscan_any (s : ByteArray) (w : World) (hs : s.size ≤ 8000000000000) : Calls Tryd.prog 30 #[.string s] w fun e w' => ∃ v, e = .returned (.tuple #[v, .int .i64 ((scanF s.data.toList).2 : Int)]) ∧ SL w w' v (scanF s.data.toList).1 := by
  obtain ⟨i0, hi0, hz0, hz1, hz2⟩ := info_parts strcell
  have hls : s.data.toList.length = s.size := by simp
  obtain ⟨Z, hZ⟩ : ∃ Z, scanF s.data.toList = Z := ⟨_, rfl⟩
  rw [hZ]
  go_enter Tryd.func30, Tryd.ntmps30
  go_wp2_with fail
  go_loopw [4, 5] (fun v iv wr => ∃ (k : Nat) (l : List (List UInt8)), k ≤ s.size ∧ l.length ≤ k ∧ iv = .int .i64 (k : Int) ∧ SL w wr v l ∧ Hid (Z = (l ++ (scanF (s.data.toList.drop k)).1, k + (scanF (s.data.toList.drop k)).2))) (fun _ iv _ => s.size - (intOf iv).toNat)
  case atStart => exact ⟨0, [], Nat.zero_le _, Nat.le_refl _, rfl, SL.new w, by show _ = _; rw [← hZ]; simp⟩
  case round =>
    obtain ⟨k, l, hk, hlk, rfl, hS, HQ⟩ := hrel
    clear hZ
    have HS := Lib.hid hS
    obtain ⟨sp, sc, hsl⟩ := owns_sl2 hS.o
    subst hsl
    clear hS
    have hki : (k : Int) ≤ (s.size : Int) := by omega
    obtain ⟨A, hA⟩ : ∃ A, s.extract k s.size = A := ⟨_, rfl⟩
    have hAl : A.data.toList = s.data.toList.drop k := by
      rw [← hA, ByteArray.data_extract]; simp [List.take_of_length_le]
    have hAz : A.size = s.size - k := by
      have := congrArg List.length hAl
      rw [List.length_drop, hls] at this
      have h2 : A.data.toList.length = A.size := by simp
      omega
    have P1 := Lib.hid (fun W => rone_any A W (by omega))
    rw [hAl] at P1
    cases ho : oneN (s.data.toList.drop k) with
    | none =>
      rw [ho, show oneE none = .returned (.tuple #[.string ⟨#[]⟩, .int .i64 0, .bool false]) from rfl] at P1
      have HE : Hid (Z = (l, k)) := by show _ = _; rw [HQ.out, scanF_none ho]; simp
      clear HQ hAl ho
      go_wp2_with (first
        | (go_at_call 62; refine (P1.out _).mono ?_; rintro e w5 ⟨rfl, hB5⟩; have HS5 := Lib.hid (HS.out.below hB5); clear hB5)
        | fail)
      refine bodyPost_ret (v := .tuple #[.slice sp l.length sc, .int .i64 (k : Int)]) (by simp [results, Tryd.results30, go_sem]) rfl ⟨_, by rw [HE.out], by rw [HE.out]; exact HS5.out⟩
    | some r =>
      rw [ho] at P1
      have hlen := oneN_len ho
      rw [List.length_drop, hls] at hlen
      obtain ⟨m, hm⟩ : ∃ m, 12 + r.length = m := ⟨_, rfl⟩
      have HE : Hid (Z = ((l ++ [r]) ++ (scanF (s.data.toList.drop (k + m))).1, (k + m) + (scanF (s.data.toList.drop (k + m))).2)) := by
        show _ = _
        rw [HQ.out, scanF_some ho, hm, List.drop_drop]
        simp [Nat.add_assoc]
      obtain ⟨C, hC⟩ : ∃ C, bs r = C := ⟨_, rfl⟩
      have HLen : Hid (recVals (l ++ [r]) = recVals l ++ [.string C] ∧ (l ++ [r]).length = l.length + 1) := ⟨by rw [← hC]; simp [recVals], by simp⟩
      have HP : Hid (oneE (some r) = .returned (.tuple #[.string C, .int .i64 (m : Int), .bool true])) := by show _ = _; rw [← hm, ← hC]; rfl
      rw [HP.out] at P1
      have hkm : k + m ≤ s.size := by omega
      have h12 : 12 ≤ m := by omega
      have hww : IntKind.i64.wrap ((k : Int) + (m : Int)) = (k : Int) + (m : Int) := by rw [IntKind.wrap_i64]; omega
      clear HQ hAl ho hC hlen HP hm
      go_wp2_with (first
        | (go_at_call 62; refine (P1.out _).mono ?_; rintro e w5 ⟨rfl, hB5⟩; have HS5 := Lib.hid (HS.out.below hB5); clear hB5)
        | (at_builtin; go_loud (refine wpList_append_own _ rfl _ _ 43 rfl w.heap.size 9 i0 (.string ⟨#[]⟩) 1 16 Tryd.underlying43 hi0 hz0 hz1 hz2 rfl (by decide) _ _ _ rfl (HS5.out.alloc _).o ⟨w5.heap.size, 0, none⟩ 1 1 [.string C] rfl rfl (cell_one_new _ _ _) (by simp [Value.oneCell']) (by unfold maxLen; omega) (by omega) (by have := HS5.out.B.size; simp; omega) ?_; intro v' w6 hown' hgrow _; have HS6 := Lib.hid ((HS5.out.alloc _).grow (l' := l ++ [r]) hgrow (by rw [HLen.out.1, HLen.out.2]; exact hown')); clear hown' hgrow; go_frame))
        | fail)
      go_roundw
      case rel => exact ⟨k + m, l ++ [r], hkm, by rw [HLen.out.2]; omega, by go_num, HS6.out, HE⟩
      case measure => simp [intOf]; omega
end Go.Proofs.YtnpgjlhnlakgpaaDoor
