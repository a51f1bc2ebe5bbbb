/- Contracts of the lexer's grown and number. -/
import Derived.Test.YtnpgjlhnlakgpaaDoorLexF5
import Derived.Test.YtnpgjlhnlakgpaaDoorLexTB
import Derived.Test.YtnpgjlhnlakgpaaDoorLexF3
namespace Go.Proofs.YtnpgjlhnlakgpaaDoor
open Go.RowKit

theorem grown_any (n : Nat) (hn : n ≤ 9223372036854775808) (c : UInt8) (hc : isDig c = true) (w : World) :
    Calls Tryd.prog 112 #[.int .u64 (n : Int), .int .u8 (c.toNat : Int)] w fun e w' =>
      e = .returned (.tuple (if 10 * n + (c.toNat - 48) ≤ 9223372036854775808 then #[.int .u64 ((10 * n + (c.toNat - 48) : Nat) : Int), .bool true] else #[.int .u64 0, .bool false])) ∧ w' = w := by
  obtain ⟨d, hd⟩ : ∃ d : Nat, c.toNat = 48 + d := by
    unfold isDig at hc
    simp at hc
    exact ⟨c.toNat - 48, by omega⟩
  have hd9 : d ≤ 9 := by
    unfold isDig at hc
    simp at hc
    omega
  rw [hd]
  have e1 : 48 + (d : Int) - 48 = (d : Int) := by omega
  have e0 : 10 * n + (48 + d - 48) = 10 * n + d := by omega
  rw [e0]
  clear hd hc e0
  by_cases hle : 10 * n + d ≤ 9223372036854775808
  · rw [if_pos hle]
    have q : ¬ (9223372036854775808 - (d : Int)) / 10 < (n : Int) := by omega
    have e3 : ((10 * n + d : Nat) : Int) = 10 * (n : Int) + (d : Int) := by omega
    rw [e3]
    go_enter Tryd.func112, Tryd.ntmps112
    go_wp2_with fail
    go_ret2
    exact ⟨rfl, rfl⟩
  · rw [if_neg hle]
    have q : (9223372036854775808 - (d : Int)) / 10 < (n : Int) := by omega
    go_enter Tryd.func112, Tryd.ntmps112
    go_wp2_with fail
    go_ret2
    exact ⟨rfl, rfl⟩
/-- Where a number's walk stands: the lexer, the result's block, the token's block. -/
structure NS (w W : World) (b m : Nat) (s : ByteArray) (j : Nat) (x0 x1 x2 x3 x4 x5 : Value) : Prop where
  l : LX W b m s j
  k : K1 b w W
  hb : b < w.heap.size
  r : TB6 W w.heap.size (.int .i64 0) (.string ⟨#[]⟩) (.int .i64 0) (.int .i64 0) (.string ⟨#[]⟩) (.int .i64 0)
  t : TB6 W (w.heap.size + 1) x0 x1 x2 x3 x4 x5
section
variable {w W W' : World} {b m j j' : Nat} {s : ByteArray} {x0 x1 x2 x3 x4 x5 : Value}
theorem NS.call (h : NS w W b m s j x0 x1 x2 x3 x4 x5) (hl : LX W' b m s j') (hk : K1 b W W') : NS w W' b m s j' x0 x1 x2 x3 x4 x5 :=
  ⟨hl, h.k.trans hk, h.hb, h.r.kept hk (by have := h.hb; omega), h.t.kept hk (by have := h.hb; omega)⟩
theorem NS.below (h : NS w W b m s j x0 x1 x2 x3 x4 x5) (hB : Below W.heap.size W W') : NS w W' b m s j x0 x1 x2 x3 x4 x5 := h.call (h.l.below hB) (K1.of_below hB)
theorem NS.start (h : LX w b m s j) (y0 y1 y2 y3 y4 y5 : Value) (t t' : TypeId) :
    NS w ((w.alloc (.cells #[.int .i64 0, .string ⟨#[]⟩, .int .i64 0, .int .i64 0, .string ⟨#[]⟩, .int .i64 0] t)).alloc (.cells #[y0, y1, y2, y3, y4, y5] t')) b m s j y0 y1 y2 y3 y4 y5 := by
  have n1 := TB6.new w (.int .i64 0) (.string ⟨#[]⟩) (.int .i64 0) (.int .i64 0) (.string ⟨#[]⟩) (.int .i64 0) t
  have n2 := TB6.new (w.alloc (.cells #[.int .i64 0, .string ⟨#[]⟩, .int .i64 0, .int .i64 0, .string ⟨#[]⟩, .int .i64 0] t)) y0 y1 y2 y3 y4 y5 t'
  rw [World.size_alloc] at n2
  exact ⟨(h.alloc _).alloc _, ((K1.refl b w).alloc _).alloc _, h.lt, n1.alloc _, n2⟩
theorem NS.set2 (h : NS w W b m s j x0 x1 x2 x3 x4 x5) (y : Value) : NS w (W.setCell ⟨w.heap.size + 1, 2, none⟩ y) b m s j x0 x1 y x3 x4 x5 :=
  ⟨h.l.far (by have := h.hb; omega) _ _, h.k.setNew (by omega) _ _, h.hb, h.r.far (by omega) _ _, h.t.set2 y⟩
theorem NS.place (h : NS w W b m s j x0 x1 x2 x3 x4 x5) (k : Nat) : NS w (W.setCell ⟨b, 1, none⟩ (.int .i64 (k : Int))) b m s k x0 x1 x2 x3 x4 x5 :=
  ⟨h.l.put k, h.k.setCell _ _, h.hb, h.r.far (by have := h.hb; omega) _ _, h.t.far (by have := h.hb; omega) _ _⟩
theorem NS.place1 (h : NS w W b m s j x0 x1 x2 x3 x4 x5) : NS w (W.setCell ⟨b, 1, none⟩ (.int .i64 ((j : Int) + 1))) b m s (j + 1) x0 x1 x2 x3 x4 x5 := h.place (j + 1)
theorem amtF_app : ∀ (r a : List UInt8), amtF a ≤ amtF (a ++ r)
  | [], a => by simp
  | c :: r, a => by
    have h1 := amtF_app r (a ++ [c])
    rw [amtF_snoc, List.append_assoc] at h1
    have h2 : a ++ ([c] ++ r) = a ++ c :: r := rfl
    rw [h2] at h1
    omega
end

theorem wrap_amt {a : Nat} (h : a ≤ 9223372036854775808) : wrap64 (a : Int) = amtV a := by
  unfold amtV wrap64
  split <;> omega
theorem frac_no {l : List UInt8} (h : ¬ (l.headD 0 = 46 ∧ isDig (l.tail.headD 0) = true)) : fracF l = none := by
  unfold fracF
  split
  · rename_i c r
    split
    · rename_i hc
      exact absurd ⟨rfl, hc⟩ h
    · rfl
  · rfl
theorem frac_yes {l : List UInt8} (h : l.headD 0 = 46) (h2 : isDig (l.tail.headD 0) = true) : fracF l = some (l.tail.takeWhile isDig) := by
  cases l with
  | nil => exact absurd h (by decide)
  | cons a r =>
    cases r with
    | nil =>
      have h3 : isDig 0 = true := h2
      exact absurd h3 (by decide)
    | cons c r =>
      simp at h h2
      subst h
      show (if isDig c = true then some (List.takeWhile isDig (c :: r)) else none) = _
      rw [if_pos h2]; rfl
set_option maxRecDepth 100000 in
set_option maxHeartbeats 8000000 in
theorem number_any {w : World} {b m i : Nat} {s : ByteArray} (h : LX w b m s i) (hs : s.size ≤ 4000) (hi : i < s.size) :
    Calls Tryd.prog 83 #[.pointer (some ⟨b, 0, none⟩)] w (TokPost b m s i (numF (fromS s i)) w) := by
  have H := Lib.hid h
  have hb := h.lt
  have lc0 := h.c0
  have lc1 := h.c1
  obtain ⟨A, hA⟩ : ∃ A, (fromS s i).takeWhile isDig = A := ⟨_, rfl⟩
  obtain ⟨j, hj⟩ : ∃ j, i + A.length = j := ⟨_, rfl⟩
  obtain ⟨SA, hSA⟩ : ∃ SA, bs A = SA := ⟨_, rfl⟩
  have hAall : ∀ c ∈ A, isDig c = true := by rw [← hA]; exact takeWhile_all isDig _
  have hAl : j ≤ s.size := by
    have := takeWhile_le isDig (fromS s i)
    rw [hA, from_len] at this; omega
  have HWa : Hid (∀ W, LX W b m s i → Calls Tryd.prog 107 #[.pointer (some ⟨b, 0, none⟩), .func (.func 82) #[] #[]] W fun e w' => e = .returned (.string SA) ∧ LX w' b m s j ∧ K1 b W w') := by
    intro W hW
    have := while_dig hW hs (Nat.le_of_lt hi)
    rw [hA, hSA, hj] at this
    exact this
  have HN : Hid (numF (fromS s i) = match fracF (fromS s j) with
      | none => numEnd 2 A A.length (fromS s i)
      | some f => if 4 < f.length then .bad 42 0 else numEnd 3 (A ++ f ++ List.replicate (4 - f.length) 48) (A.length + 1 + f.length) (fromS s i)) := by
    show _ = _
    simp only [numF, hA]
    rw [from_from, hj]
    rfl
  have HSA : Hid (SA.data.toList = A ∧ SA.size = A.length) := by show _ ∧ _; rw [← hSA]; exact ⟨rfl, bs_size A⟩
  have h0 : fromS s j = fromS s j := rfl
  have HX0 : Hid (nxB s j 0 = (fromS s j).headD 0) := by show nxB s j 0 = _; unfold nxB; rfl
  have HX1 : Hid (nxB s j 1 = (fromS s j).tail.headD 0) := by
    show nxB s j 1 = _
    unfold nxB
    have : (fromS s j).tail = fromS s (j + 1) := by rw [← List.drop_one]; exact from_from s j 1
    rw [this]; rfl
  have hSl : SA.size ≤ 4000 := by have := HSA.out.2; omega
  clear h hA hSA h0
  have HAL := Lib.hid hAall
  clear hAall
  by_cases g0 : nxB s j 0 = 46
  · have q0 : (((nxB s j 0).toNat : Int) == 46) = true := by rw [g0]; rfl
    by_cases g1 : isDig (nxB s j 1) = true
    · obtain ⟨F, hF⟩ : ∃ F, (fromS s (j + 1)).takeWhile isDig = F := ⟨_, rfl⟩
      obtain ⟨J, hJ⟩ : ∃ J, j + 1 + F.length = J := ⟨_, rfl⟩
      obtain ⟨SF, hSF⟩ : ∃ SF, bs F = SF := ⟨_, rfl⟩
      have hj1 : j + 1 ≤ s.size := by
        rcases Nat.lt_or_ge j s.size with h | h
        · exact h
        · rw [HX0.out, from_ge h] at g0
          exact absurd g0 (by decide)
      have htl : (fromS s j).tail = fromS s (j + 1) := by rw [← List.drop_one]; exact from_from s j 1
      have hFl : J ≤ s.size := by
        have := takeWhile_le isDig (fromS s (j + 1))
        rw [hF, from_len] at this; omega
      have hFall : ∀ c ∈ F, isDig c = true := by rw [← hF]; exact takeWhile_all isDig _
      have HWb : Hid (∀ W, LX W b m s (j + 1) → Calls Tryd.prog 107 #[.pointer (some ⟨b, 0, none⟩), .func (.func 82) #[] #[]] W fun e w' => e = .returned (.string SF) ∧ LX w' b m s J ∧ K1 b W w') := by
        intro W hW
        have := while_dig hW hs hj1
        rw [hF, hSF, hJ] at this
        exact this
      have HR : Hid (numF (fromS s i) = if 4 < F.length then .bad 42 0 else numEnd 3 (A ++ F ++ List.replicate (4 - F.length) 48) (A.length + 1 + F.length) (fromS s i)) := by
        show _ = _
        rw [HN.out, frac_yes (by rw [← HX0.out]; exact g0) (by rw [← HX1.out]; exact g1), htl, hF]
      have HSF : Hid (SF.data.toList = F ∧ SF.size = F.length) := by show _ ∧ _; rw [← hSF]; exact ⟨rfl, bs_size F⟩
      have hSFs : SF.size = F.length := HSF.out.2
      have hSFl : F.length ≤ 4000 := by omega
      clear hF hSF HN HX0 HX1 htl g0
      by_cases h4 : 4 < F.length
      · have HE : Hid (numF (fromS s i) = .bad 42 0) := by show _ = _; rw [HR.out, if_pos h4]
        rw [HE.out]
        clear HR hFall
        have h4i : (4 : Int) < (SF.size : Int) := by omega
        go_enter Tryd.func83, Tryd.ntmps83
        go_wp2_with (first
          | (go_at_call 107; refine (HWa.out _ ((H.out.alloc _).alloc _)).mono ?_; rintro e w1 ⟨rfl, hl1, hk1⟩; have HS1 := Lib.hid ((NS.start H.out (.int .i64 3) (.string ⟨#[]⟩) (.int .i64 2) (.int .i64 0) (.string ⟨#[]⟩) (.int .i64 (i : Int)) _ _).call hl1 hk1); clear hl1 hk1 HWa)
          | (go_at_call 77; refine (next_any HS1.out.l hs hAl 0 (by decide) (by decide)).mono ?_; rintro e w2 ⟨rfl, hB2⟩; have HS2 := Lib.hid (HS1.out.below hB2); clear hB2 HS1)
          | (go_at_call 77; refine (next_any HS2.out.l hs hAl 1 (by decide) (by decide)).mono ?_; rintro e w3 ⟨rfl, hB3⟩; have HS3 := Lib.hid (HS2.out.below hB3); have mc0 := HS3.out.l.c0; have mc1 := HS3.out.l.c1; have mf1 := HS3.out.l.f1; have ml := HS3.out.l.lt; clear hB3 HS2)
          | (go_at_call 82; refine (digit_any _ _).mono ?_; rintro e w9 ⟨rfl, hw9⟩; rw [hw9, g1]; clear hw9)
          | (go_at_call 107; refine (HWb.out _ HS3.out.place1.l).mono ?_; rintro e w4 ⟨rfl, hl4, hk4⟩; have HS4 := Lib.hid (HS3.out.place1.call hl4 hk4); obtain ⟨⟨rc0, rc1, rc2, rc3, rc4, rc5⟩, rf0, rf1, rf2, rf3, rf4, rf5⟩ := HS4.out.r; obtain ⟨⟨tc0, tc1, tc2, tc3, tc4, tc5⟩, tf0, tf1, tf2, tf3, tf4, tf5⟩ := HS4.out.t; have rlt := World.block_lt_of_cell? _ _ rc0; have tlt := World.block_lt_of_cell? _ _ tc0; clear hl4 hk4 HWb mc0 mc1 mf1 ml)
          | fail)
        refine bodyPost_ret (v := .tuple #[.agg #[.int .i64 3, .string ⟨#[]⟩, .int .i64 2, .int .i64 0, .string ⟨#[]⟩, .int .i64 (i : Int)], .int .i64 42, .int .i64 (i : Int)]) (by simp [results, Tryd.results83, go_sem, rc0, rc1, rc2, rc3, rc4, rc5]) rfl ⟨HS4.out.k.put6 (j := w.heap.size) (Nat.le_refl _) _ _ _ _ _ _, _, _, _, _, _, _, rfl⟩
      · obtain ⟨D, hD⟩ : ∃ D, A ++ F ++ List.replicate (4 - F.length) 48 = D := ⟨_, rfl⟩
        rw [if_neg h4, hD] at HR
        rw [HR.out]
        clear HR
        have h4i : ¬ (4 : Int) < (SF.size : Int) := by omega
        obtain ⟨Z, hZ⟩ : ∃ Z, (⟨#[48, 48, 48, 48]⟩ : ByteArray).extract F.length 4 = Z := ⟨_, rfl⟩
        have hZl : Z.data.toList = List.replicate (4 - F.length) 48 := by
          rw [← hZ]
          have : ∀ n : Fin 5, ((⟨#[48, 48, 48, 48]⟩ : ByteArray).extract n.val 4).data.toList = List.replicate (4 - n.val) 48 := by decide
          exact this ⟨F.length, by omega⟩
        have hZs : Z.size ≤ 4 := by
          show Z.data.size ≤ 4
          rw [← Array.length_toList, hZl, List.length_replicate]; omega
        obtain ⟨S2, hS2⟩ : ∃ S2, SA ++ (SF ++ Z) = S2 := ⟨_, rfl⟩
        have HSD : Hid (S2.data.toList = D ∧ S2.size = D.length) := by
          have h1 : S2.data.toList = D := by
            rw [← hS2, ← hD, ByteArray.data_append, ByteArray.data_append, Array.toList_append, Array.toList_append, HSA.out.1, HSF.out.1, hZl]
            simp
          exact ⟨h1, by rw [← h1]; rfl⟩
        have HDL : Hid (∀ c ∈ D, isDig c = true) := by
          intro c hc
          rw [← hD] at hc
          rcases List.mem_append.1 hc with hc | hc
          · rcases List.mem_append.1 hc with hc | hc
            · exact HAL.out c hc
            · exact hFall c hc
          · rw [List.eq_of_mem_replicate hc]; decide
        have hS2l : S2.size ≤ 9000 := by rw [← hS2, ByteArray.size_append, ByteArray.size_append]; omega
        clear hD hZl hFall
        go_enter Tryd.func83, Tryd.ntmps83
        go_wp2_with (first
          | (go_at_call 107; refine (HWa.out _ ((H.out.alloc _).alloc _)).mono ?_; rintro e w1 ⟨rfl, hl1, hk1⟩; have HS1 := Lib.hid ((NS.start H.out (.int .i64 3) (.string ⟨#[]⟩) (.int .i64 2) (.int .i64 0) (.string ⟨#[]⟩) (.int .i64 (i : Int)) _ _).call hl1 hk1); clear hl1 hk1 HWa)
          | (go_at_call 77; refine (next_any HS1.out.l hs hAl 0 (by decide) (by decide)).mono ?_; rintro e w2 ⟨rfl, hB2⟩; have HS2 := Lib.hid (HS1.out.below hB2); clear hB2 HS1)
          | (go_at_call 77; refine (next_any HS2.out.l hs hAl 1 (by decide) (by decide)).mono ?_; rintro e w3 ⟨rfl, hB3⟩; have HS3 := Lib.hid (HS2.out.below hB3); have mc0 := HS3.out.l.c0; have mc1 := HS3.out.l.c1; have mf1 := HS3.out.l.f1; have ml := HS3.out.l.lt; clear hB3 HS2)
          | (go_at_call 82; refine (digit_any _ _).mono ?_; rintro e w9 ⟨rfl, hw9⟩; rw [hw9, g1]; clear hw9)
          | (go_at_call 107; refine (HWb.out _ HS3.out.place1.l).mono ?_; rintro e w4 ⟨rfl, hl4, hk4⟩; have HS4 := Lib.hid (HS3.out.place1.call hl4 hk4); obtain ⟨⟨rc0, rc1, rc2, rc3, rc4, rc5⟩, rf0, rf1, rf2, rf3, rf4, rf5⟩ := HS4.out.r; obtain ⟨⟨tc0, tc1, tc2, tc3, tc4, tc5⟩, tf0, tf1, tf2, tf3, tf4, tf5⟩ := HS4.out.t; have rlt := World.block_lt_of_cell? _ _ rc0; have tlt := World.block_lt_of_cell? _ _ tc0; clear hl4 hk4 HWb mc0 mc1 mf1 ml)
          | fail)
        have HS5 := Lib.hid (HS4.out.set2 (.int .i64 3))
        clear rc0 rc1 rc2 rc3 rc4 rc5 rf0 rf1 rf2 rf3 rf4 rf5 tc0 tc1 tc2 tc3 tc4 tc5 tf0 tf1 tf2 tf3 tf4 tf5 rlt tlt
        generalize w4.setCell ⟨w.heap.size + 1, 2, none⟩ (.int .i64 3) = w5 at *
        clear hZ hS2 hZs hSFs hSFl h4 h4i g1 q0 hj1 HSF HSA HAL lc0 lc1 hSl
        go_loopw [9, 10, 11] (fun nv ov iv wr => ∃ (p a : Nat) (okb : Bool), p ≤ S2.size ∧ nv = .int .u64 (a : Int) ∧ ov = .bool okb ∧ iv = .int .i64 (p : Int) ∧ wr = w5 ∧ (okb = true → a = amtF (D.take p) ∧ a ≤ 9223372036854775808) ∧ (okb = false → 9223372036854775808 < amtF D)) (fun _ _ iv _ => S2.size - (intOf iv).toNat)
        case atStart => exact ⟨0, 0, true, Nat.zero_le _, rfl, rfl, rfl, rfl, fun _ => ⟨rfl, by omega⟩, fun h => by cases h⟩
        case round =>
          obtain ⟨p, a, okb, hp, rfl, rfl, rfl, rfl, h1, h2⟩ := hrel
          cases okb
          · have HE : Hid (numEnd 3 D (A.length + 1 + F.length) (fromS s i) = .bad 42 0) := by show _ = _; unfold numEnd; rw [if_pos (.inl (h2 rfl))]
            clear h1 h2
            obtain ⟨⟨rc0, rc1, rc2, rc3, rc4, rc5⟩, rf0, rf1, rf2, rf3, rf4, rf5⟩ := HS5.out.r; obtain ⟨⟨tc0, tc1, tc2, tc3, tc4, tc5⟩, tf0, tf1, tf2, tf3, tf4, tf5⟩ := HS5.out.t; have rlt := World.block_lt_of_cell? _ _ rc0; have tlt := World.block_lt_of_cell? _ _ tc0
            go_wp2_with fail
            refine bodyPost_ret (v := .tuple #[.agg #[.int .i64 3, .string ⟨#[]⟩, .int .i64 3, .int .i64 0, .string ⟨#[]⟩, .int .i64 (i : Int)], .int .i64 42, .int .i64 (i : Int)]) (by simp [results, Tryd.results83, go_sem, rc0, rc1, rc2, rc3, rc4, rc5]) rfl ⟨HS5.out.k.put6 (j := w.heap.size) (Nat.le_refl _) _ _ _ _ _ _, by rw [HE.out]; exact ⟨_, _, _, _, _, _, rfl⟩⟩
          · obtain ⟨ha, ha2⟩ := h1 rfl
            clear h1 h2
            by_cases hlt : p < S2.size
            · have hlti : (p : Int) < (S2.size : Int) := by omega
              have hcl : D[p]? = some (S2[p]'hlt) := by
                rw [← HSD.out.1, List.getElem?_eq_getElem (by exact hlt)]; rfl
              have hcd : isDig (S2[p]'hlt) = true := HDL.out _ (List.mem_of_getElem? hcl)
              obtain ⟨c, hc⟩ : ∃ c, S2[p]'hlt = c := ⟨_, rfl⟩
              rw [hc] at hcl hcd
              have HCD := Lib.hid hcd
              have htk : D.take (p + 1) = D.take p ++ [c] := by rw [List.take_add_one, hcl]; rfl
              have HAm : Hid (amtF (D.take (p + 1)) = 10 * a + (c.toNat - 48)) := by show _ = _; rw [htk, amtF_snoc, ha]
              clear hcl htk
              have hG0 := grown_any a ha2 c HCD.out
              obtain ⟨z, hz⟩ : ∃ z : Nat, 10 * a + (c.toNat - 48) = z := ⟨_, rfl⟩
              rw [hz] at hG0 HAm
              clear hz ha HCD hcd
              by_cases hle : z ≤ 9223372036854775808
              · have HG : Hid (∀ W, Calls Tryd.prog 112 #[.int .u64 (a : Int), .int .u8 (c.toNat : Int)] W fun e w' => e = .returned (.tuple #[.int .u64 (z : Int), .bool true]) ∧ w' = W) := by
                  intro W
                  have := hG0 W
                  rw [if_pos hle] at this
                  exact this
                clear hG0
                go_wp2_with (first | (go_at_call 112; refine (HG.out _).mono ?_; rintro e w9 ⟨rfl, rfl⟩) | fail)
                go_roundw
                case rel => exact ⟨p + 1, z, true, by omega, by first | rfl | trivial, by first | rfl | trivial, by go_num, by first | rfl | trivial, fun _ => ⟨HAm.out.symm, hle⟩, fun h => by cases h⟩
                case measure => simp [intOf]; omega
              · have HG : Hid (∀ W, Calls Tryd.prog 112 #[.int .u64 (a : Int), .int .u8 (c.toNat : Int)] W fun e w' => e = .returned (.tuple #[.int .u64 0, .bool false]) ∧ w' = W) := by
                  intro W
                  have := hG0 W
                  rw [if_neg hle] at this
                  exact this
                clear hG0
                go_wp2_with (first | (go_at_call 112; refine (HG.out _).mono ?_; rintro e w9 ⟨rfl, rfl⟩) | fail)
                go_roundw
                case rel =>
                  refine ⟨p + 1, 0, false, by omega, by first | rfl | trivial, by first | rfl | trivial, by go_num, by first | rfl | trivial, fun h => (by cases h), fun _ => ?_⟩
                  have h3 := amtF_app (D.drop (p + 1)) (D.take (p + 1))
                  rw [List.take_append_drop, HAm.out] at h3
                  omega
                case measure => simp [intOf]; omega
            · have hpe : D.take p = D := List.take_of_length_le (by have := HSD.out.2; omega)
              rw [hpe] at ha
              have hdrop : ((fromS s i).drop (A.length + 1 + F.length)).head? = (fromS s J).head? := by rw [from_from, show i + (A.length + 1 + F.length) = J by omega]
              have HX : Hid (nxB s J 0 = (fromS s J).headD 0) := by show nxB s J 0 = _; unfold nxB; rfl
              have HW : Hid (wrap64 (a : Int) = amtV a) := wrap_amt ha2
              by_cases hl : isLet (nxB s J 0) = true
              · have HE : Hid (numEnd 3 D (A.length + 1 + F.length) (fromS s i) = .bad 42 0) := by
                  show _ = _
                  have hbad : ∃ c, ((fromS s i).drop (A.length + 1 + F.length)).head? = some c ∧ isLet c = true := by
                    rw [hdrop]
                    rw [HX.out] at hl
                    cases hf : fromS s J with
                    | nil => rw [hf] at hl; exact absurd hl (by decide)
                    | cons x r => rw [hf] at hl; exact ⟨x, rfl, hl⟩
                  unfold numEnd
                  rw [if_pos (.inr hbad)]
                clear hdrop HX ha
                go_wp2_with (first
                  | (go_at_call 77; refine (next_any HS5.out.l hs (by omega) 0 (by decide) (by decide)).mono ?_; rintro e w8 ⟨rfl, hB8⟩; have HS8 := Lib.hid (HS5.out.below hB8); obtain ⟨⟨rc0, rc1, rc2, rc3, rc4, rc5⟩, rf0, rf1, rf2, rf3, rf4, rf5⟩ := HS8.out.r; obtain ⟨⟨tc0, tc1, tc2, tc3, tc4, tc5⟩, tf0, tf1, tf2, tf3, tf4, tf5⟩ := HS8.out.t; have rlt := World.block_lt_of_cell? _ _ rc0; have tlt := World.block_lt_of_cell? _ _ tc0; clear hB8)
                  | (go_at_call 80; refine (letter_any _ _).mono ?_; rintro e w9 ⟨rfl, rfl⟩; rw [hl])
                  | fail)
                refine bodyPost_ret (v := .tuple #[.agg #[.int .i64 3, .string ⟨#[]⟩, .int .i64 3, .int .i64 0, .string ⟨#[]⟩, .int .i64 (i : Int)], .int .i64 42, .int .i64 (i : Int)]) (by simp [results, Tryd.results83, go_sem, rc0, rc1, rc2, rc3, rc4, rc5]) rfl ⟨HS8.out.k.put6 (j := w.heap.size) (Nat.le_refl _) _ _ _ _ _ _, by rw [HE.out]; exact ⟨_, _, _, _, _, _, rfl⟩⟩
              · have hl' : isLet (nxB s J 0) = false := by simpa using hl
                have HE : Hid (numEnd 3 D (A.length + 1 + F.length) (fromS s i) = .ok 3 ⟨#[]⟩ ⟨3, amtV a, ⟨#[]⟩⟩ (A.length + 1 + F.length)) := by
                  show _ = _
                  unfold numEnd
                  rw [if_neg]
                  · rw [← ha]; rfl
                  · intro h
                    rcases h with h | ⟨x, h3, h4⟩
                    · omega
                    · rw [hdrop] at h3
                      apply hl
                      rw [HX.out, List.headD_eq_head?_getD, h3]; exact h4
                obtain ⟨v, hv⟩ : ∃ v, amtV a = v := ⟨_, rfl⟩
                rw [hv] at HW HE
                have hw64 := HW.out
                clear hdrop HX hv ha
                go_wp2_with (first
                  | (go_at_call 77; refine (next_any HS5.out.l hs (by omega) 0 (by decide) (by decide)).mono ?_; rintro e w8 ⟨rfl, hB8⟩; have HS8 := Lib.hid (HS5.out.below hB8); obtain ⟨⟨rc0, rc1, rc2, rc3, rc4, rc5⟩, rf0, rf1, rf2, rf3, rf4, rf5⟩ := HS8.out.r; obtain ⟨⟨tc0, tc1, tc2, tc3, tc4, tc5⟩, tf0, tf1, tf2, tf3, tf4, tf5⟩ := HS8.out.t; have rlt := World.block_lt_of_cell? _ _ rc0; have tlt := World.block_lt_of_cell? _ _ tc0; clear hB8)
                  | (go_at_call 80; refine (letter_any _ _).mono ?_; rintro e w9 ⟨rfl, rfl⟩; rw [hl'])
                  | fail)
                refine bodyPost_ret (v := .tuple #[(⟨3, ⟨#[]⟩, ⟨3, v, ⟨#[]⟩⟩, i⟩ : Tk).v, .int .i64 0, .int .i64 0]) (by simp [results, Tryd.results83, go_sem, rc0, rc1, rc2, rc3, rc4, rc5]) rfl ⟨(HS8.out.k.setNew (by omega) 3 _).put6 (j := w.heap.size) (Nat.le_refl _) _ _ _ _ _ _, by rw [HE.out]; exact ⟨rfl, by rw [show i + (A.length + 1 + F.length) = J by omega]; exact (HS8.out.l.far (by omega) 3 _).put6 (by omega) _ _ _ _ _ _⟩⟩
    · have g1' : isDig (nxB s j 1) = false := by simpa using g1
      have HR : Hid (numF (fromS s i) = numEnd 2 A A.length (fromS s i)) := by
        show _ = _
        rw [HN.out, frac_no (by rw [← HX0.out, ← HX1.out]; exact fun h => g1 h.2)]
      rw [HR.out]
      clear HN HR HX0 HX1 g0
      go_enter Tryd.func83, Tryd.ntmps83
      go_wp2_with (first
        | (go_at_call 107; refine (HWa.out _ ((H.out.alloc _).alloc _)).mono ?_; rintro e w1 ⟨rfl, hl1, hk1⟩; have HS1 := Lib.hid ((NS.start H.out (.int .i64 3) (.string ⟨#[]⟩) (.int .i64 2) (.int .i64 0) (.string ⟨#[]⟩) (.int .i64 (i : Int)) _ _).call hl1 hk1); clear hl1 hk1 HWa)
        | (go_at_call 77; refine (next_any HS1.out.l hs hAl 0 (by decide) (by decide)).mono ?_; rintro e w2 ⟨rfl, hB2⟩; have HS2 := Lib.hid (HS1.out.below hB2); clear hB2 HS1)
        | (go_at_call 77; refine (next_any HS2.out.l hs hAl 1 (by decide) (by decide)).mono ?_; rintro e w3 ⟨rfl, hB3⟩; have HS3 := Lib.hid (HS2.out.below hB3); have mc0 := HS3.out.l.c0; have mc1 := HS3.out.l.c1; have mf1 := HS3.out.l.f1; have ml := HS3.out.l.lt; clear hB3 HS2)
        | (go_at_call 82; refine (digit_any _ _).mono ?_; rintro e w9 ⟨rfl, hw9⟩; rw [hw9, g1']; clear hw9)
        | fail)
      clear mc0 mc1 mf1 ml
      go_loopw [9, 10, 11] (fun nv ov iv wr => ∃ (p a : Nat) (okb : Bool), p ≤ SA.size ∧ nv = .int .u64 (a : Int) ∧ ov = .bool okb ∧ iv = .int .i64 (p : Int) ∧ wr = w3 ∧ (okb = true → a = amtF (A.take p) ∧ a ≤ 9223372036854775808) ∧ (okb = false → 9223372036854775808 < amtF A)) (fun _ _ iv _ => SA.size - (intOf iv).toNat)
      case atStart => exact ⟨0, 0, true, Nat.zero_le _, rfl, rfl, rfl, rfl, fun _ => ⟨rfl, by omega⟩, fun h => by cases h⟩
      case round =>
        obtain ⟨p, a, okb, hp, rfl, rfl, rfl, rfl, h1, h2⟩ := hrel
        cases okb
        · have HE : Hid (numEnd 2 A A.length (fromS s i) = .bad 42 0) := by show _ = _; unfold numEnd; rw [if_pos (.inl (h2 rfl))]
          clear h1 h2
          obtain ⟨⟨rc0, rc1, rc2, rc3, rc4, rc5⟩, rf0, rf1, rf2, rf3, rf4, rf5⟩ := HS3.out.r; obtain ⟨⟨tc0, tc1, tc2, tc3, tc4, tc5⟩, tf0, tf1, tf2, tf3, tf4, tf5⟩ := HS3.out.t; have rlt := World.block_lt_of_cell? _ _ rc0; have tlt := World.block_lt_of_cell? _ _ tc0
          go_wp2_with fail
          refine bodyPost_ret (v := .tuple #[.agg #[.int .i64 3, .string ⟨#[]⟩, .int .i64 2, .int .i64 0, .string ⟨#[]⟩, .int .i64 (i : Int)], .int .i64 42, .int .i64 (i : Int)]) (by simp [results, Tryd.results83, go_sem, rc0, rc1, rc2, rc3, rc4, rc5]) rfl ⟨HS3.out.k.put6 (j := w.heap.size) (Nat.le_refl _) _ _ _ _ _ _, by rw [HE.out]; exact ⟨_, _, _, _, _, _, rfl⟩⟩
        · obtain ⟨ha, ha2⟩ := h1 rfl
          clear h1 h2
          by_cases hlt : p < SA.size
          · have hlti : (p : Int) < (SA.size : Int) := by omega
            have hcl : A[p]? = some (SA[p]'hlt) := by
              rw [← HSA.out.1, List.getElem?_eq_getElem (by exact hlt)]; rfl
            have hcd : isDig (SA[p]'hlt) = true := HAL.out _ (List.mem_of_getElem? hcl)
            obtain ⟨c, hc⟩ : ∃ c, SA[p]'hlt = c := ⟨_, rfl⟩
            rw [hc] at hcl hcd
            have HCD := Lib.hid hcd
            have htk : A.take (p + 1) = A.take p ++ [c] := by rw [List.take_add_one, hcl]; rfl
            have HAm : Hid (amtF (A.take (p + 1)) = 10 * a + (c.toNat - 48)) := by show _ = _; rw [htk, amtF_snoc, ha]
            clear hcl htk
            have hG0 := grown_any a ha2 c HCD.out
            obtain ⟨z, hz⟩ : ∃ z : Nat, 10 * a + (c.toNat - 48) = z := ⟨_, rfl⟩
            rw [hz] at hG0 HAm
            clear hz ha HCD hcd
            by_cases hle : z ≤ 9223372036854775808
            · have HG : Hid (∀ W, Calls Tryd.prog 112 #[.int .u64 (a : Int), .int .u8 (c.toNat : Int)] W fun e w' => e = .returned (.tuple #[.int .u64 (z : Int), .bool true]) ∧ w' = W) := by
                intro W
                have := hG0 W
                rw [if_pos hle] at this
                exact this
              clear hG0
              go_wp2_with (first | (go_at_call 112; refine (HG.out _).mono ?_; rintro e w9 ⟨rfl, rfl⟩) | fail)
              go_roundw
              case rel => exact ⟨p + 1, z, true, by omega, by first | rfl | trivial, by first | rfl | trivial, by go_num, by first | rfl | trivial, fun _ => ⟨HAm.out.symm, hle⟩, fun h => by cases h⟩
              case measure => simp [intOf]; omega
            · have HG : Hid (∀ W, Calls Tryd.prog 112 #[.int .u64 (a : Int), .int .u8 (c.toNat : Int)] W fun e w' => e = .returned (.tuple #[.int .u64 0, .bool false]) ∧ w' = W) := by
                intro W
                have := hG0 W
                rw [if_neg hle] at this
                exact this
              clear hG0
              go_wp2_with (first | (go_at_call 112; refine (HG.out _).mono ?_; rintro e w9 ⟨rfl, rfl⟩) | fail)
              go_roundw
              case rel =>
                refine ⟨p + 1, 0, false, by omega, by first | rfl | trivial, by first | rfl | trivial, by go_num, by first | rfl | trivial, fun h => (by cases h), fun _ => ?_⟩
                have h3 := amtF_app (A.drop (p + 1)) (A.take (p + 1))
                rw [List.take_append_drop, HAm.out] at h3
                omega
              case measure => simp [intOf]; omega
          · have hpe : A.take p = A := List.take_of_length_le (by have := HSA.out.2; omega)
            rw [hpe] at ha
            have hdrop : ((fromS s i).drop A.length).head? = (fromS s j).head? := by rw [from_from, hj]
            have HX : Hid (nxB s j 0 = (fromS s j).headD 0) := by show nxB s j 0 = _; unfold nxB; rfl
            have HW : Hid (wrap64 (a : Int) = amtV a) := wrap_amt ha2
            by_cases hl : isLet (nxB s j 0) = true
            · have HE : Hid (numEnd 2 A A.length (fromS s i) = .bad 42 0) := by
                show _ = _
                have hbad : ∃ c, ((fromS s i).drop A.length).head? = some c ∧ isLet c = true := by
                  rw [hdrop]
                  rw [HX.out] at hl
                  cases hf : fromS s j with
                  | nil => rw [hf] at hl; exact absurd hl (by decide)
                  | cons x r => rw [hf] at hl; exact ⟨x, rfl, hl⟩
                unfold numEnd
                rw [if_pos (.inr hbad)]
              clear hdrop HX ha
              go_wp2_with (first
                | (go_at_call 77; refine (next_any HS3.out.l hs (by omega) 0 (by decide) (by decide)).mono ?_; rintro e w8 ⟨rfl, hB8⟩; have HS8 := Lib.hid (HS3.out.below hB8); obtain ⟨⟨rc0, rc1, rc2, rc3, rc4, rc5⟩, rf0, rf1, rf2, rf3, rf4, rf5⟩ := HS8.out.r; obtain ⟨⟨tc0, tc1, tc2, tc3, tc4, tc5⟩, tf0, tf1, tf2, tf3, tf4, tf5⟩ := HS8.out.t; have rlt := World.block_lt_of_cell? _ _ rc0; have tlt := World.block_lt_of_cell? _ _ tc0; clear hB8)
                | (go_at_call 80; refine (letter_any _ _).mono ?_; rintro e w9 ⟨rfl, rfl⟩; rw [hl])
                | fail)
              refine bodyPost_ret (v := .tuple #[.agg #[.int .i64 3, .string ⟨#[]⟩, .int .i64 2, .int .i64 0, .string ⟨#[]⟩, .int .i64 (i : Int)], .int .i64 42, .int .i64 (i : Int)]) (by simp [results, Tryd.results83, go_sem, rc0, rc1, rc2, rc3, rc4, rc5]) rfl ⟨HS8.out.k.put6 (j := w.heap.size) (Nat.le_refl _) _ _ _ _ _ _, by rw [HE.out]; exact ⟨_, _, _, _, _, _, rfl⟩⟩
            · have hl' : isLet (nxB s j 0) = false := by simpa using hl
              have HE : Hid (numEnd 2 A A.length (fromS s i) = .ok 3 ⟨#[]⟩ ⟨2, amtV a, ⟨#[]⟩⟩ A.length) := by
                show _ = _
                unfold numEnd
                rw [if_neg]
                · rw [← ha]; rfl
                · intro h
                  rcases h with h | ⟨x, h3, h4⟩
                  · omega
                  · rw [hdrop] at h3
                    apply hl
                    rw [HX.out, List.headD_eq_head?_getD, h3]; exact h4
              obtain ⟨v, hv⟩ : ∃ v, amtV a = v := ⟨_, rfl⟩
              rw [hv] at HW HE
              have hw64 := HW.out
              clear hdrop HX hv ha
              go_wp2_with (first
                | (go_at_call 77; refine (next_any HS3.out.l hs (by omega) 0 (by decide) (by decide)).mono ?_; rintro e w8 ⟨rfl, hB8⟩; have HS8 := Lib.hid (HS3.out.below hB8); obtain ⟨⟨rc0, rc1, rc2, rc3, rc4, rc5⟩, rf0, rf1, rf2, rf3, rf4, rf5⟩ := HS8.out.r; obtain ⟨⟨tc0, tc1, tc2, tc3, tc4, tc5⟩, tf0, tf1, tf2, tf3, tf4, tf5⟩ := HS8.out.t; have rlt := World.block_lt_of_cell? _ _ rc0; have tlt := World.block_lt_of_cell? _ _ tc0; clear hB8)
                | (go_at_call 80; refine (letter_any _ _).mono ?_; rintro e w9 ⟨rfl, rfl⟩; rw [hl'])
                | fail)
              refine bodyPost_ret (v := .tuple #[(⟨3, ⟨#[]⟩, ⟨2, v, ⟨#[]⟩⟩, i⟩ : Tk).v, .int .i64 0, .int .i64 0]) (by simp [results, Tryd.results83, go_sem, rc0, rc1, rc2, rc3, rc4, rc5]) rfl ⟨(HS8.out.k.setNew (by omega) 3 _).put6 (j := w.heap.size) (Nat.le_refl _) _ _ _ _ _ _, by rw [HE.out]; exact ⟨rfl, by rw [show i + A.length = j by omega]; exact (HS8.out.l.far (by omega) 3 _).put6 (by omega) _ _ _ _ _ _⟩⟩
  · have q0 : (((nxB s j 0).toNat : Int) == 46) = false := by
      have : (nxB s j 0).toNat ≠ 46 := fun h => g0 (UInt8.toNat_inj.1 h)
      simp; omega
    have HR : Hid (numF (fromS s i) = numEnd 2 A A.length (fromS s i)) := by
      show _ = _
      rw [HN.out, frac_no (by rw [← HX0.out]; exact fun h => g0 h.1)]
    rw [HR.out]
    clear HN HR HX0 HX1 g0
    go_enter Tryd.func83, Tryd.ntmps83
    go_wp2_with (first
      | (go_at_call 107; refine (HWa.out _ ((H.out.alloc _).alloc _)).mono ?_; rintro e w1 ⟨rfl, hl1, hk1⟩; have HS1 := Lib.hid ((NS.start H.out (.int .i64 3) (.string ⟨#[]⟩) (.int .i64 2) (.int .i64 0) (.string ⟨#[]⟩) (.int .i64 (i : Int)) _ _).call hl1 hk1); clear hl1 hk1 HWa)
      | (go_at_call 77; refine (next_any HS1.out.l hs hAl 0 (by decide) (by decide)).mono ?_; rintro e w2 ⟨rfl, hB2⟩; have HS2 := Lib.hid (HS1.out.below hB2); clear hB2 HS1)
      | fail)
    go_loopw [9, 10, 11] (fun nv ov iv wr => ∃ (p a : Nat) (okb : Bool), p ≤ SA.size ∧ nv = .int .u64 (a : Int) ∧ ov = .bool okb ∧ iv = .int .i64 (p : Int) ∧ wr = w2 ∧ (okb = true → a = amtF (A.take p) ∧ a ≤ 9223372036854775808) ∧ (okb = false → 9223372036854775808 < amtF A)) (fun _ _ iv _ => SA.size - (intOf iv).toNat)
    case atStart => exact ⟨0, 0, true, Nat.zero_le _, rfl, rfl, rfl, rfl, fun _ => ⟨rfl, by omega⟩, fun h => by cases h⟩
    case round =>
      obtain ⟨p, a, okb, hp, rfl, rfl, rfl, rfl, h1, h2⟩ := hrel
      cases okb
      · have HE : Hid (numEnd 2 A A.length (fromS s i) = .bad 42 0) := by show _ = _; unfold numEnd; rw [if_pos (.inl (h2 rfl))]
        clear h1 h2
        obtain ⟨⟨rc0, rc1, rc2, rc3, rc4, rc5⟩, rf0, rf1, rf2, rf3, rf4, rf5⟩ := HS2.out.r; obtain ⟨⟨tc0, tc1, tc2, tc3, tc4, tc5⟩, tf0, tf1, tf2, tf3, tf4, tf5⟩ := HS2.out.t; have rlt := World.block_lt_of_cell? _ _ rc0; have tlt := World.block_lt_of_cell? _ _ tc0
        go_wp2_with fail
        refine bodyPost_ret (v := .tuple #[.agg #[.int .i64 3, .string ⟨#[]⟩, .int .i64 2, .int .i64 0, .string ⟨#[]⟩, .int .i64 (i : Int)], .int .i64 42, .int .i64 (i : Int)]) (by simp [results, Tryd.results83, go_sem, rc0, rc1, rc2, rc3, rc4, rc5]) rfl ⟨HS2.out.k.put6 (j := w.heap.size) (Nat.le_refl _) _ _ _ _ _ _, by rw [HE.out]; exact ⟨_, _, _, _, _, _, rfl⟩⟩
      · obtain ⟨ha, ha2⟩ := h1 rfl
        clear h1 h2
        by_cases hlt : p < SA.size
        · have hlti : (p : Int) < (SA.size : Int) := by omega
          have hcl : A[p]? = some (SA[p]'hlt) := by
            rw [← HSA.out.1, List.getElem?_eq_getElem (by exact hlt)]; rfl
          have hcd : isDig (SA[p]'hlt) = true := HAL.out _ (List.mem_of_getElem? hcl)
          obtain ⟨c, hc⟩ : ∃ c, SA[p]'hlt = c := ⟨_, rfl⟩
          rw [hc] at hcl hcd
          have HCD := Lib.hid hcd
          have htk : A.take (p + 1) = A.take p ++ [c] := by rw [List.take_add_one, hcl]; rfl
          have HAm : Hid (amtF (A.take (p + 1)) = 10 * a + (c.toNat - 48)) := by show _ = _; rw [htk, amtF_snoc, ha]
          clear hcl htk
          have hG0 := grown_any a ha2 c HCD.out
          obtain ⟨z, hz⟩ : ∃ z : Nat, 10 * a + (c.toNat - 48) = z := ⟨_, rfl⟩
          rw [hz] at hG0 HAm
          clear hz ha HCD hcd
          by_cases hle : z ≤ 9223372036854775808
          · have HG : Hid (∀ W, Calls Tryd.prog 112 #[.int .u64 (a : Int), .int .u8 (c.toNat : Int)] W fun e w' => e = .returned (.tuple #[.int .u64 (z : Int), .bool true]) ∧ w' = W) := by
              intro W
              have := hG0 W
              rw [if_pos hle] at this
              exact this
            clear hG0
            go_wp2_with (first | (go_at_call 112; refine (HG.out _).mono ?_; rintro e w9 ⟨rfl, rfl⟩) | fail)
            go_roundw
            case rel => exact ⟨p + 1, z, true, by omega, by first | rfl | trivial, by first | rfl | trivial, by go_num, by first | rfl | trivial, fun _ => ⟨HAm.out.symm, hle⟩, fun h => by cases h⟩
            case measure => simp [intOf]; omega
          · have HG : Hid (∀ W, Calls Tryd.prog 112 #[.int .u64 (a : Int), .int .u8 (c.toNat : Int)] W fun e w' => e = .returned (.tuple #[.int .u64 0, .bool false]) ∧ w' = W) := by
              intro W
              have := hG0 W
              rw [if_neg hle] at this
              exact this
            clear hG0
            go_wp2_with (first | (go_at_call 112; refine (HG.out _).mono ?_; rintro e w9 ⟨rfl, rfl⟩) | fail)
            go_roundw
            case rel =>
              refine ⟨p + 1, 0, false, by omega, by first | rfl | trivial, by first | rfl | trivial, by go_num, by first | rfl | trivial, fun h => (by cases h), fun _ => ?_⟩
              have h3 := amtF_app (A.drop (p + 1)) (A.take (p + 1))
              rw [List.take_append_drop, HAm.out] at h3
              omega
            case measure => simp [intOf]; omega
        · have hpe : A.take p = A := List.take_of_length_le (by have := HSA.out.2; omega)
          rw [hpe] at ha
          have hdrop : ((fromS s i).drop A.length).head? = (fromS s j).head? := by rw [from_from, hj]
          have HX : Hid (nxB s j 0 = (fromS s j).headD 0) := by show nxB s j 0 = _; unfold nxB; rfl
          have HW : Hid (wrap64 (a : Int) = amtV a) := wrap_amt ha2
          by_cases hl : isLet (nxB s j 0) = true
          · have HE : Hid (numEnd 2 A A.length (fromS s i) = .bad 42 0) := by
              show _ = _
              have hbad : ∃ c, ((fromS s i).drop A.length).head? = some c ∧ isLet c = true := by
                rw [hdrop]
                rw [HX.out] at hl
                cases hf : fromS s j with
                | nil => rw [hf] at hl; exact absurd hl (by decide)
                | cons x r => rw [hf] at hl; exact ⟨x, rfl, hl⟩
              unfold numEnd
              rw [if_pos (.inr hbad)]
            clear hdrop HX ha
            go_wp2_with (first
              | (go_at_call 77; refine (next_any HS2.out.l hs (by omega) 0 (by decide) (by decide)).mono ?_; rintro e w8 ⟨rfl, hB8⟩; have HS8 := Lib.hid (HS2.out.below hB8); obtain ⟨⟨rc0, rc1, rc2, rc3, rc4, rc5⟩, rf0, rf1, rf2, rf3, rf4, rf5⟩ := HS8.out.r; obtain ⟨⟨tc0, tc1, tc2, tc3, tc4, tc5⟩, tf0, tf1, tf2, tf3, tf4, tf5⟩ := HS8.out.t; have rlt := World.block_lt_of_cell? _ _ rc0; have tlt := World.block_lt_of_cell? _ _ tc0; clear hB8)
              | (go_at_call 80; refine (letter_any _ _).mono ?_; rintro e w9 ⟨rfl, rfl⟩; rw [hl])
              | fail)
            refine bodyPost_ret (v := .tuple #[.agg #[.int .i64 3, .string ⟨#[]⟩, .int .i64 2, .int .i64 0, .string ⟨#[]⟩, .int .i64 (i : Int)], .int .i64 42, .int .i64 (i : Int)]) (by simp [results, Tryd.results83, go_sem, rc0, rc1, rc2, rc3, rc4, rc5]) rfl ⟨HS8.out.k.put6 (j := w.heap.size) (Nat.le_refl _) _ _ _ _ _ _, by rw [HE.out]; exact ⟨_, _, _, _, _, _, rfl⟩⟩
          · have hl' : isLet (nxB s j 0) = false := by simpa using hl
            have HE : Hid (numEnd 2 A A.length (fromS s i) = .ok 3 ⟨#[]⟩ ⟨2, amtV a, ⟨#[]⟩⟩ A.length) := by
              show _ = _
              unfold numEnd
              rw [if_neg]
              · rw [← ha]; rfl
              · intro h
                rcases h with h | ⟨x, h3, h4⟩
                · omega
                · rw [hdrop] at h3
                  apply hl
                  rw [HX.out, List.headD_eq_head?_getD, h3]; exact h4
            obtain ⟨v, hv⟩ : ∃ v, amtV a = v := ⟨_, rfl⟩
            rw [hv] at HW HE
            have hw64 := HW.out
            clear hdrop HX hv ha
            go_wp2_with (first
              | (go_at_call 77; refine (next_any HS2.out.l hs (by omega) 0 (by decide) (by decide)).mono ?_; rintro e w8 ⟨rfl, hB8⟩; have HS8 := Lib.hid (HS2.out.below hB8); obtain ⟨⟨rc0, rc1, rc2, rc3, rc4, rc5⟩, rf0, rf1, rf2, rf3, rf4, rf5⟩ := HS8.out.r; obtain ⟨⟨tc0, tc1, tc2, tc3, tc4, tc5⟩, tf0, tf1, tf2, tf3, tf4, tf5⟩ := HS8.out.t; have rlt := World.block_lt_of_cell? _ _ rc0; have tlt := World.block_lt_of_cell? _ _ tc0; clear hB8)
              | (go_at_call 80; refine (letter_any _ _).mono ?_; rintro e w9 ⟨rfl, rfl⟩; rw [hl'])
              | fail)
            refine bodyPost_ret (v := .tuple #[(⟨3, ⟨#[]⟩, ⟨2, v, ⟨#[]⟩⟩, i⟩ : Tk).v, .int .i64 0, .int .i64 0]) (by simp [results, Tryd.results83, go_sem, rc0, rc1, rc2, rc3, rc4, rc5]) rfl ⟨(HS8.out.k.setNew (by omega) 3 _).put6 (j := w.heap.size) (Nat.le_refl _) _ _ _ _ _ _, by rw [HE.out]; exact ⟨rfl, by rw [show i + A.length = j by omega]; exact (HS8.out.l.far (by omega) 3 _).put6 (by omega) _ _ _ _ _ _⟩⟩

end Go.Proofs.YtnpgjlhnlakgpaaDoor
