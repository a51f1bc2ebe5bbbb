/- The contract of the lexer's token. -/
import Derived.Test.YtnpgjlhnlakgpaaDoorLexF7
import Derived.Test.YtnpgjlhnlakgpaaDoorLexF8
import Derived.Test.YtnpgjlhnlakgpaaDoorLexF9
namespace Go.Proofs.YtnpgjlhnlakgpaaDoor
open Go.RowKit

section
variable {P : Program} {f : FuncId} {args : Array Value} {b m i : Nat} {s : ByteArray} {r : Rs} {W : World}
theorem tp_ok {k : Int} {x : ByteArray} {d : Dt} {n : Nat} (h : Calls P f args W (TokPost b m s i r W)) (hr : r = .ok k x d n) :
    Calls P f args W fun e w' => e = .returned (.tuple #[(⟨k, x, d, i⟩ : Tk).v, .int .i64 0, .int .i64 0]) ∧ LX w' b m s (i + n) ∧ K1 b W w' :=
  h.mono fun e w' hp => by
    subst hr
    obtain ⟨h1, h2, h3⟩ := hp
    exact ⟨h2, h3, h1⟩
theorem tp_bad {er : Int} {o : Nat} (h : Calls P f args W (TokPost b m s i r W)) (hr : r = .bad er o) :
    Calls P f args W fun e w' => ∃ (x0 : Int) (x1 : ByteArray) (x2 x3 : Int) (x4 : ByteArray) (x5 : Int), e = .returned (.tuple #[.agg #[.int .i64 x0, .string x1, .int .i64 x2, .int .i64 x3, .string x4, .int .i64 x5], .int .i64 er, .int .i64 ((i + o : Nat) : Int)]) ∧ K1 b W w' :=
  h.mono fun e w' hp => by
    subst hr
    obtain ⟨h1, x0, x1, x2, x3, x4, x5, h2⟩ := hp
    exact ⟨x0, x1, x2, x3, x4, x5, h2, h1⟩
end
theorem u8_is (c n : UInt8) : ((c.toNat : Int) == (n.toNat : Int)) = true ↔ c = n := by
  constructor
  · intro h
    apply UInt8.toNat_inj.1
    have : (c.toNat : Int) = (n.toNat : Int) := by simpa using h
    omega
  · rintro rfl; simp
theorem TS.kept {w W W' : World} {b m j j' : Nat} {s : ByteArray} (h : TS w W b m s j) (hl : LX W' b m s j') (hk : K1 b W W') : TS w W' b m s j' :=
  ⟨hl, h.k.trans hk, h.hb, h.r.kept hk (by have := h.hb; omega)⟩
set_option maxRecDepth 100000 in
set_option maxHeartbeats 8000000 in
theorem tkb1_ok {w : World} {b m i : Nat} {s : ByteArray} (h : LX w b m s i) (hm : WM w m) (_hne : m ≠ b) (hs : s.size ≤ 4000) (hi : i < s.size) {c : UInt8} (hc : s[i] = c) (q120 : ((c.toNat : Int) == 120) = true) (qn : (((nxB s i 1).toNat : Int) == 39) = true) (hbz : i + 2 ≤ s.size) {k : Int} {x : ByteArray} {d : Dt} {n : Nat} (hr : bytesF (fromS s i) = .ok k x d n) :
    Calls Tryd.prog 51 #[.pointer (some ⟨b, 0, none⟩)] w (TokPost b m s i (.ok k x d n) w) := by
  have HR := Lib.hid hr
  clear hr
  have H := Lib.hid h
  have HM := Lib.hid hm
  have hb := h.lt
  have lc0 := h.c0
  have lc1 := h.c1
  have hlti : (i : Int) < (s.size : Int) := by omega
  clear h hm
  go_enter Tryd.func51, Tryd.ntmps51
  go_wp2_with fail
  have HS0 : Hid (TS w (w.alloc (.cells #[.int .i64 0, .string ⟨#[]⟩, .int .i64 0, .int .i64 0, .string ⟨#[]⟩, .int .i64 0] 30)) b m s i) := ⟨H.out.alloc _, (K1.refl b w).alloc _, hb, TB6.new w _ _ _ _ _ _ _⟩
  have HM0 := Lib.hid (HM.out.below ((Below.refl _ _).alloc (Nat.le_refl _) (.cells #[.int .i64 0, .string ⟨#[]⟩, .int .i64 0, .int .i64 0, .string ⟨#[]⟩, .int .i64 0] 30)))
  generalize w.alloc (.cells #[.int .i64 0, .string ⟨#[]⟩, .int .i64 0, .int .i64 0, .string ⟨#[]⟩, .int .i64 0] 30) = W at *
  clear lc0 lc1
  have lc0 := HS0.out.l.c0
  have lc1 := HS0.out.l.c1
  go_quiet (fail)
  have HSd : Hid (TS w (W.drewN nq) b m s i) := HS0.out.kept (HS0.out.l.drewN nq) ((K1.refl b W).drewN nq)
  have HMd : Hid (WM (W.drewN nq) m) := HM0.out.below (below_drewN nq)
  generalize W.drewN nq = V at *
  go_wp2_with (first
    | (go_at_call 77; refine (next_any HSd.out.l hs (Nat.le_of_lt hi) 1 (by decide) (by decide)).mono ?_; rintro e w3 ⟨rfl, hB3⟩; have HS3 := Lib.hid (HSd.out.kept (HSd.out.l.below hB3) (K1.of_below hB3)); clear hB3)
    | (go_at_call 79; refine (tp_ok (bytes_any HS3.out.l hs hbz) HR.out).mono ?_; rintro e w5 ⟨rfl, hl5, hk5⟩; have HSe := Lib.hid (HS3.out.kept hl5 hk5); obtain ⟨⟨rc0, rc1, rc2, rc3, rc4, rc5⟩, rf0, rf1, rf2, rf3, rf4, rf5⟩ := HSe.out.r; have rlt := World.block_lt_of_cell? _ _ rc0; clear hl5 hk5)
    | fail)
  refine bodyPost_ret (v := .tuple #[(⟨k, x, d, i⟩ : Tk).v, .int .i64 0, .int .i64 0]) (by simp [results, Tryd.results51, go_sem, rc0, rc1, rc2, rc3, rc4, rc5]) rfl ⟨HSe.out.k.put6 (j := w.heap.size) (Nat.le_refl _) _ _ _ _ _ _, rfl, HSe.out.l.put6 (by omega) _ _ _ _ _ _⟩
set_option maxRecDepth 100000 in
set_option maxHeartbeats 8000000 in
theorem tkb1_bad {w : World} {b m i : Nat} {s : ByteArray} (h : LX w b m s i) (hm : WM w m) (_hne : m ≠ b) (hs : s.size ≤ 4000) (hi : i < s.size) {c : UInt8} (hc : s[i] = c) (q120 : ((c.toNat : Int) == 120) = true) (qn : (((nxB s i 1).toNat : Int) == 39) = true) (hbz : i + 2 ≤ s.size) {er : Int} {o : Nat} (hr : bytesF (fromS s i) = .bad er o) :
    Calls Tryd.prog 51 #[.pointer (some ⟨b, 0, none⟩)] w (TokPost b m s i (.bad er o) w) := by
  have HR := Lib.hid hr
  clear hr
  have H := Lib.hid h
  have HM := Lib.hid hm
  have hb := h.lt
  have lc0 := h.c0
  have lc1 := h.c1
  have hlti : (i : Int) < (s.size : Int) := by omega
  clear h hm
  go_enter Tryd.func51, Tryd.ntmps51
  go_wp2_with fail
  have HS0 : Hid (TS w (w.alloc (.cells #[.int .i64 0, .string ⟨#[]⟩, .int .i64 0, .int .i64 0, .string ⟨#[]⟩, .int .i64 0] 30)) b m s i) := ⟨H.out.alloc _, (K1.refl b w).alloc _, hb, TB6.new w _ _ _ _ _ _ _⟩
  have HM0 := Lib.hid (HM.out.below ((Below.refl _ _).alloc (Nat.le_refl _) (.cells #[.int .i64 0, .string ⟨#[]⟩, .int .i64 0, .int .i64 0, .string ⟨#[]⟩, .int .i64 0] 30)))
  generalize w.alloc (.cells #[.int .i64 0, .string ⟨#[]⟩, .int .i64 0, .int .i64 0, .string ⟨#[]⟩, .int .i64 0] 30) = W at *
  clear lc0 lc1
  have lc0 := HS0.out.l.c0
  have lc1 := HS0.out.l.c1
  go_quiet (fail)
  have HSd : Hid (TS w (W.drewN nq) b m s i) := HS0.out.kept (HS0.out.l.drewN nq) ((K1.refl b W).drewN nq)
  have HMd : Hid (WM (W.drewN nq) m) := HM0.out.below (below_drewN nq)
  generalize W.drewN nq = V at *
  go_wp2_with (first
    | (go_at_call 77; refine (next_any HSd.out.l hs (Nat.le_of_lt hi) 1 (by decide) (by decide)).mono ?_; rintro e w3 ⟨rfl, hB3⟩; have HS3 := Lib.hid (HSd.out.kept (HSd.out.l.below hB3) (K1.of_below hB3)); clear hB3)
    | (go_at_call 79; refine (tp_bad (bytes_any HS3.out.l hs hbz) HR.out).mono ?_; rintro e w5 ⟨x0, x1, x2, x3, x4, x5, rfl, hk5⟩; have HSe : Hid (K1 b w w5 ∧ TB6 w5 w.heap.size _ _ _ _ _ _) := ⟨HS3.out.k.trans hk5, HS3.out.r.kept hk5 (by omega)⟩; obtain ⟨⟨rc0, rc1, rc2, rc3, rc4, rc5⟩, rf0, rf1, rf2, rf3, rf4, rf5⟩ := HSe.out.2; have rlt := World.block_lt_of_cell? _ _ rc0; clear hk5)
    | fail)
  refine bodyPost_ret (v := .tuple #[.agg #[.int .i64 x0, .string x1, .int .i64 x2, .int .i64 x3, .string x4, .int .i64 x5], .int .i64 er, .int .i64 ((i + o : Nat) : Int)]) (by simp [results, Tryd.results51, go_sem, rc0, rc1, rc2, rc3, rc4, rc5]) rfl ⟨HSe.out.1.put6 (j := w.heap.size) (Nat.le_refl _) _ _ _ _ _ _, _, _, _, _, _, _, rfl⟩
set_option maxRecDepth 100000 in
set_option maxHeartbeats 8000000 in
theorem tkb2_ok {w : World} {b m i : Nat} {s : ByteArray} (h : LX w b m s i) (hm : WM w m) (_hne : m ≠ b) (hs : s.size ≤ 4000) (hi : i < s.size) {c : UInt8} (hc : s[i] = c) (q120 : ((c.toNat : Int) == 120) = false) (q88 : ((c.toNat : Int) == 88) = true) (qn : (((nxB s i 1).toNat : Int) == 39) = true) (hbz : i + 2 ≤ s.size) {k : Int} {x : ByteArray} {d : Dt} {n : Nat} (hr : bytesF (fromS s i) = .ok k x d n) :
    Calls Tryd.prog 51 #[.pointer (some ⟨b, 0, none⟩)] w (TokPost b m s i (.ok k x d n) w) := by
  have HR := Lib.hid hr
  clear hr
  have H := Lib.hid h
  have HM := Lib.hid hm
  have hb := h.lt
  have lc0 := h.c0
  have lc1 := h.c1
  have hlti : (i : Int) < (s.size : Int) := by omega
  clear h hm
  go_enter Tryd.func51, Tryd.ntmps51
  go_wp2_with fail
  have HS0 : Hid (TS w (w.alloc (.cells #[.int .i64 0, .string ⟨#[]⟩, .int .i64 0, .int .i64 0, .string ⟨#[]⟩, .int .i64 0] 30)) b m s i) := ⟨H.out.alloc _, (K1.refl b w).alloc _, hb, TB6.new w _ _ _ _ _ _ _⟩
  have HM0 := Lib.hid (HM.out.below ((Below.refl _ _).alloc (Nat.le_refl _) (.cells #[.int .i64 0, .string ⟨#[]⟩, .int .i64 0, .int .i64 0, .string ⟨#[]⟩, .int .i64 0] 30)))
  generalize w.alloc (.cells #[.int .i64 0, .string ⟨#[]⟩, .int .i64 0, .int .i64 0, .string ⟨#[]⟩, .int .i64 0] 30) = W at *
  clear lc0 lc1
  have lc0 := HS0.out.l.c0
  have lc1 := HS0.out.l.c1
  go_quiet (fail)
  have HSd : Hid (TS w (W.drewN nq) b m s i) := HS0.out.kept (HS0.out.l.drewN nq) ((K1.refl b W).drewN nq)
  have HMd : Hid (WM (W.drewN nq) m) := HM0.out.below (below_drewN nq)
  generalize W.drewN nq = V at *
  go_wp2_with (first
    | (go_at_call 77; refine (next_any HSd.out.l hs (Nat.le_of_lt hi) 1 (by decide) (by decide)).mono ?_; rintro e w3 ⟨rfl, hB3⟩; have HS3 := Lib.hid (HSd.out.kept (HSd.out.l.below hB3) (K1.of_below hB3)); clear hB3)
    | (go_at_call 79; refine (tp_ok (bytes_any HS3.out.l hs hbz) HR.out).mono ?_; rintro e w5 ⟨rfl, hl5, hk5⟩; have HSe := Lib.hid (HS3.out.kept hl5 hk5); obtain ⟨⟨rc0, rc1, rc2, rc3, rc4, rc5⟩, rf0, rf1, rf2, rf3, rf4, rf5⟩ := HSe.out.r; have rlt := World.block_lt_of_cell? _ _ rc0; clear hl5 hk5)
    | fail)
  refine bodyPost_ret (v := .tuple #[(⟨k, x, d, i⟩ : Tk).v, .int .i64 0, .int .i64 0]) (by simp [results, Tryd.results51, go_sem, rc0, rc1, rc2, rc3, rc4, rc5]) rfl ⟨HSe.out.k.put6 (j := w.heap.size) (Nat.le_refl _) _ _ _ _ _ _, rfl, HSe.out.l.put6 (by omega) _ _ _ _ _ _⟩
set_option maxRecDepth 100000 in
set_option maxHeartbeats 8000000 in
theorem tkb2_bad {w : World} {b m i : Nat} {s : ByteArray} (h : LX w b m s i) (hm : WM w m) (_hne : m ≠ b) (hs : s.size ≤ 4000) (hi : i < s.size) {c : UInt8} (hc : s[i] = c) (q120 : ((c.toNat : Int) == 120) = false) (q88 : ((c.toNat : Int) == 88) = true) (qn : (((nxB s i 1).toNat : Int) == 39) = true) (hbz : i + 2 ≤ s.size) {er : Int} {o : Nat} (hr : bytesF (fromS s i) = .bad er o) :
    Calls Tryd.prog 51 #[.pointer (some ⟨b, 0, none⟩)] w (TokPost b m s i (.bad er o) w) := by
  have HR := Lib.hid hr
  clear hr
  have H := Lib.hid h
  have HM := Lib.hid hm
  have hb := h.lt
  have lc0 := h.c0
  have lc1 := h.c1
  have hlti : (i : Int) < (s.size : Int) := by omega
  clear h hm
  go_enter Tryd.func51, Tryd.ntmps51
  go_wp2_with fail
  have HS0 : Hid (TS w (w.alloc (.cells #[.int .i64 0, .string ⟨#[]⟩, .int .i64 0, .int .i64 0, .string ⟨#[]⟩, .int .i64 0] 30)) b m s i) := ⟨H.out.alloc _, (K1.refl b w).alloc _, hb, TB6.new w _ _ _ _ _ _ _⟩
  have HM0 := Lib.hid (HM.out.below ((Below.refl _ _).alloc (Nat.le_refl _) (.cells #[.int .i64 0, .string ⟨#[]⟩, .int .i64 0, .int .i64 0, .string ⟨#[]⟩, .int .i64 0] 30)))
  generalize w.alloc (.cells #[.int .i64 0, .string ⟨#[]⟩, .int .i64 0, .int .i64 0, .string ⟨#[]⟩, .int .i64 0] 30) = W at *
  clear lc0 lc1
  have lc0 := HS0.out.l.c0
  have lc1 := HS0.out.l.c1
  go_quiet (fail)
  have HSd : Hid (TS w (W.drewN nq) b m s i) := HS0.out.kept (HS0.out.l.drewN nq) ((K1.refl b W).drewN nq)
  have HMd : Hid (WM (W.drewN nq) m) := HM0.out.below (below_drewN nq)
  generalize W.drewN nq = V at *
  go_wp2_with (first
    | (go_at_call 77; refine (next_any HSd.out.l hs (Nat.le_of_lt hi) 1 (by decide) (by decide)).mono ?_; rintro e w3 ⟨rfl, hB3⟩; have HS3 := Lib.hid (HSd.out.kept (HSd.out.l.below hB3) (K1.of_below hB3)); clear hB3)
    | (go_at_call 79; refine (tp_bad (bytes_any HS3.out.l hs hbz) HR.out).mono ?_; rintro e w5 ⟨x0, x1, x2, x3, x4, x5, rfl, hk5⟩; have HSe : Hid (K1 b w w5 ∧ TB6 w5 w.heap.size _ _ _ _ _ _) := ⟨HS3.out.k.trans hk5, HS3.out.r.kept hk5 (by omega)⟩; obtain ⟨⟨rc0, rc1, rc2, rc3, rc4, rc5⟩, rf0, rf1, rf2, rf3, rf4, rf5⟩ := HSe.out.2; have rlt := World.block_lt_of_cell? _ _ rc0; clear hk5)
    | fail)
  refine bodyPost_ret (v := .tuple #[.agg #[.int .i64 x0, .string x1, .int .i64 x2, .int .i64 x3, .string x4, .int .i64 x5], .int .i64 er, .int .i64 ((i + o : Nat) : Int)]) (by simp [results, Tryd.results51, go_sem, rc0, rc1, rc2, rc3, rc4, rc5]) rfl ⟨HSe.out.1.put6 (j := w.heap.size) (Nat.le_refl _) _ _ _ _ _ _, _, _, _, _, _, _, rfl⟩
set_option maxRecDepth 100000 in
set_option maxHeartbeats 8000000 in
theorem tkn1_ok {w : World} {b m i : Nat} {s : ByteArray} (h : LX w b m s i) (hm : WM w m) (hne : m ≠ b) (hs : s.size ≤ 4000) (hi : i < s.size) {c : UInt8} (hc : s[i] = c) (q120 : ((c.toNat : Int) == 120) = true) (qn : (((nxB s i 1).toNat : Int) == 39) = false) (hl : isLet c = true) {k : Int} {x : ByteArray} {d : Dt} {n : Nat} (hr : nameF (fromS s i) = .ok k x d n) :
    Calls Tryd.prog 51 #[.pointer (some ⟨b, 0, none⟩)] w (TokPost b m s i (.ok k x d n) w) := by
  have HR := Lib.hid hr
  clear hr
  have H := Lib.hid h
  have HM := Lib.hid hm
  have hb := h.lt
  have lc0 := h.c0
  have lc1 := h.c1
  have hlti : (i : Int) < (s.size : Int) := by omega
  clear h hm
  go_enter Tryd.func51, Tryd.ntmps51
  go_wp2_with fail
  have HS0 : Hid (TS w (w.alloc (.cells #[.int .i64 0, .string ⟨#[]⟩, .int .i64 0, .int .i64 0, .string ⟨#[]⟩, .int .i64 0] 30)) b m s i) := ⟨H.out.alloc _, (K1.refl b w).alloc _, hb, TB6.new w _ _ _ _ _ _ _⟩
  have HM0 := Lib.hid (HM.out.below ((Below.refl _ _).alloc (Nat.le_refl _) (.cells #[.int .i64 0, .string ⟨#[]⟩, .int .i64 0, .int .i64 0, .string ⟨#[]⟩, .int .i64 0] 30)))
  generalize w.alloc (.cells #[.int .i64 0, .string ⟨#[]⟩, .int .i64 0, .int .i64 0, .string ⟨#[]⟩, .int .i64 0] 30) = W at *
  clear lc0 lc1
  have lc0 := HS0.out.l.c0
  have lc1 := HS0.out.l.c1
  go_quiet (fail)
  have HSd : Hid (TS w (W.drewN nq) b m s i) := HS0.out.kept (HS0.out.l.drewN nq) ((K1.refl b W).drewN nq)
  have HMd : Hid (WM (W.drewN nq) m) := HM0.out.below (below_drewN nq)
  generalize W.drewN nq = V at *
  go_wp2_with (first
    | (go_at_call 77; refine (next_any HSd.out.l hs (Nat.le_of_lt hi) 1 (by decide) (by decide)).mono ?_; rintro e w3 ⟨rfl, hB3⟩; have HM3 := Lib.hid (HMd.out.below hB3); have HS3 := Lib.hid (HSd.out.kept (HSd.out.l.below hB3) (K1.of_below hB3)); clear hB3)
    | (go_at_call 80; refine (letter_any _ _).mono ?_; rintro e w9 ⟨rfl, hw9⟩; rw [hw9, hl]; clear hw9)
    | (go_at_call 81; refine (tp_ok (name_any HS3.out.l HM3.out hne hs (Nat.le_of_lt hi)) HR.out).mono ?_; rintro e w5 ⟨rfl, hl5, hk5⟩; have HSe := Lib.hid (HS3.out.kept hl5 hk5); obtain ⟨⟨rc0, rc1, rc2, rc3, rc4, rc5⟩, rf0, rf1, rf2, rf3, rf4, rf5⟩ := HSe.out.r; have rlt := World.block_lt_of_cell? _ _ rc0; clear hl5 hk5)
    | fail)
  refine bodyPost_ret (v := .tuple #[(⟨k, x, d, i⟩ : Tk).v, .int .i64 0, .int .i64 0]) (by simp [results, Tryd.results51, go_sem, rc0, rc1, rc2, rc3, rc4, rc5]) rfl ⟨HSe.out.k.put6 (j := w.heap.size) (Nat.le_refl _) _ _ _ _ _ _, rfl, HSe.out.l.put6 (by omega) _ _ _ _ _ _⟩
set_option maxRecDepth 100000 in
set_option maxHeartbeats 8000000 in
theorem tkn1_bad {w : World} {b m i : Nat} {s : ByteArray} (h : LX w b m s i) (hm : WM w m) (hne : m ≠ b) (hs : s.size ≤ 4000) (hi : i < s.size) {c : UInt8} (hc : s[i] = c) (q120 : ((c.toNat : Int) == 120) = true) (qn : (((nxB s i 1).toNat : Int) == 39) = false) (hl : isLet c = true) {er : Int} {o : Nat} (hr : nameF (fromS s i) = .bad er o) :
    Calls Tryd.prog 51 #[.pointer (some ⟨b, 0, none⟩)] w (TokPost b m s i (.bad er o) w) := by
  have HR := Lib.hid hr
  clear hr
  have H := Lib.hid h
  have HM := Lib.hid hm
  have hb := h.lt
  have lc0 := h.c0
  have lc1 := h.c1
  have hlti : (i : Int) < (s.size : Int) := by omega
  clear h hm
  go_enter Tryd.func51, Tryd.ntmps51
  go_wp2_with fail
  have HS0 : Hid (TS w (w.alloc (.cells #[.int .i64 0, .string ⟨#[]⟩, .int .i64 0, .int .i64 0, .string ⟨#[]⟩, .int .i64 0] 30)) b m s i) := ⟨H.out.alloc _, (K1.refl b w).alloc _, hb, TB6.new w _ _ _ _ _ _ _⟩
  have HM0 := Lib.hid (HM.out.below ((Below.refl _ _).alloc (Nat.le_refl _) (.cells #[.int .i64 0, .string ⟨#[]⟩, .int .i64 0, .int .i64 0, .string ⟨#[]⟩, .int .i64 0] 30)))
  generalize w.alloc (.cells #[.int .i64 0, .string ⟨#[]⟩, .int .i64 0, .int .i64 0, .string ⟨#[]⟩, .int .i64 0] 30) = W at *
  clear lc0 lc1
  have lc0 := HS0.out.l.c0
  have lc1 := HS0.out.l.c1
  go_quiet (fail)
  have HSd : Hid (TS w (W.drewN nq) b m s i) := HS0.out.kept (HS0.out.l.drewN nq) ((K1.refl b W).drewN nq)
  have HMd : Hid (WM (W.drewN nq) m) := HM0.out.below (below_drewN nq)
  generalize W.drewN nq = V at *
  go_wp2_with (first
    | (go_at_call 77; refine (next_any HSd.out.l hs (Nat.le_of_lt hi) 1 (by decide) (by decide)).mono ?_; rintro e w3 ⟨rfl, hB3⟩; have HM3 := Lib.hid (HMd.out.below hB3); have HS3 := Lib.hid (HSd.out.kept (HSd.out.l.below hB3) (K1.of_below hB3)); clear hB3)
    | (go_at_call 80; refine (letter_any _ _).mono ?_; rintro e w9 ⟨rfl, hw9⟩; rw [hw9, hl]; clear hw9)
    | (go_at_call 81; refine (tp_bad (name_any HS3.out.l HM3.out hne hs (Nat.le_of_lt hi)) HR.out).mono ?_; rintro e w5 ⟨x0, x1, x2, x3, x4, x5, rfl, hk5⟩; have HSe : Hid (K1 b w w5 ∧ TB6 w5 w.heap.size _ _ _ _ _ _) := ⟨HS3.out.k.trans hk5, HS3.out.r.kept hk5 (by omega)⟩; obtain ⟨⟨rc0, rc1, rc2, rc3, rc4, rc5⟩, rf0, rf1, rf2, rf3, rf4, rf5⟩ := HSe.out.2; have rlt := World.block_lt_of_cell? _ _ rc0; clear hk5)
    | fail)
  refine bodyPost_ret (v := .tuple #[.agg #[.int .i64 x0, .string x1, .int .i64 x2, .int .i64 x3, .string x4, .int .i64 x5], .int .i64 er, .int .i64 ((i + o : Nat) : Int)]) (by simp [results, Tryd.results51, go_sem, rc0, rc1, rc2, rc3, rc4, rc5]) rfl ⟨HSe.out.1.put6 (j := w.heap.size) (Nat.le_refl _) _ _ _ _ _ _, _, _, _, _, _, _, rfl⟩
set_option maxRecDepth 100000 in
set_option maxHeartbeats 8000000 in
theorem tkn2_ok {w : World} {b m i : Nat} {s : ByteArray} (h : LX w b m s i) (hm : WM w m) (hne : m ≠ b) (hs : s.size ≤ 4000) (hi : i < s.size) {c : UInt8} (hc : s[i] = c) (q120 : ((c.toNat : Int) == 120) = false) (q88 : ((c.toNat : Int) == 88) = true) (qn : (((nxB s i 1).toNat : Int) == 39) = false) (hl : isLet c = true) {k : Int} {x : ByteArray} {d : Dt} {n : Nat} (hr : nameF (fromS s i) = .ok k x d n) :
    Calls Tryd.prog 51 #[.pointer (some ⟨b, 0, none⟩)] w (TokPost b m s i (.ok k x d n) w) := by
  have HR := Lib.hid hr
  clear hr
  have H := Lib.hid h
  have HM := Lib.hid hm
  have hb := h.lt
  have lc0 := h.c0
  have lc1 := h.c1
  have hlti : (i : Int) < (s.size : Int) := by omega
  clear h hm
  go_enter Tryd.func51, Tryd.ntmps51
  go_wp2_with fail
  have HS0 : Hid (TS w (w.alloc (.cells #[.int .i64 0, .string ⟨#[]⟩, .int .i64 0, .int .i64 0, .string ⟨#[]⟩, .int .i64 0] 30)) b m s i) := ⟨H.out.alloc _, (K1.refl b w).alloc _, hb, TB6.new w _ _ _ _ _ _ _⟩
  have HM0 := Lib.hid (HM.out.below ((Below.refl _ _).alloc (Nat.le_refl _) (.cells #[.int .i64 0, .string ⟨#[]⟩, .int .i64 0, .int .i64 0, .string ⟨#[]⟩, .int .i64 0] 30)))
  generalize w.alloc (.cells #[.int .i64 0, .string ⟨#[]⟩, .int .i64 0, .int .i64 0, .string ⟨#[]⟩, .int .i64 0] 30) = W at *
  clear lc0 lc1
  have lc0 := HS0.out.l.c0
  have lc1 := HS0.out.l.c1
  go_quiet (fail)
  have HSd : Hid (TS w (W.drewN nq) b m s i) := HS0.out.kept (HS0.out.l.drewN nq) ((K1.refl b W).drewN nq)
  have HMd : Hid (WM (W.drewN nq) m) := HM0.out.below (below_drewN nq)
  generalize W.drewN nq = V at *
  go_wp2_with (first
    | (go_at_call 77; refine (next_any HSd.out.l hs (Nat.le_of_lt hi) 1 (by decide) (by decide)).mono ?_; rintro e w3 ⟨rfl, hB3⟩; have HM3 := Lib.hid (HMd.out.below hB3); have HS3 := Lib.hid (HSd.out.kept (HSd.out.l.below hB3) (K1.of_below hB3)); clear hB3)
    | (go_at_call 80; refine (letter_any _ _).mono ?_; rintro e w9 ⟨rfl, hw9⟩; rw [hw9, hl]; clear hw9)
    | (go_at_call 81; refine (tp_ok (name_any HS3.out.l HM3.out hne hs (Nat.le_of_lt hi)) HR.out).mono ?_; rintro e w5 ⟨rfl, hl5, hk5⟩; have HSe := Lib.hid (HS3.out.kept hl5 hk5); obtain ⟨⟨rc0, rc1, rc2, rc3, rc4, rc5⟩, rf0, rf1, rf2, rf3, rf4, rf5⟩ := HSe.out.r; have rlt := World.block_lt_of_cell? _ _ rc0; clear hl5 hk5)
    | fail)
  refine bodyPost_ret (v := .tuple #[(⟨k, x, d, i⟩ : Tk).v, .int .i64 0, .int .i64 0]) (by simp [results, Tryd.results51, go_sem, rc0, rc1, rc2, rc3, rc4, rc5]) rfl ⟨HSe.out.k.put6 (j := w.heap.size) (Nat.le_refl _) _ _ _ _ _ _, rfl, HSe.out.l.put6 (by omega) _ _ _ _ _ _⟩
set_option maxRecDepth 100000 in
set_option maxHeartbeats 8000000 in
theorem tkn2_bad {w : World} {b m i : Nat} {s : ByteArray} (h : LX w b m s i) (hm : WM w m) (hne : m ≠ b) (hs : s.size ≤ 4000) (hi : i < s.size) {c : UInt8} (hc : s[i] = c) (q120 : ((c.toNat : Int) == 120) = false) (q88 : ((c.toNat : Int) == 88) = true) (qn : (((nxB s i 1).toNat : Int) == 39) = false) (hl : isLet c = true) {er : Int} {o : Nat} (hr : nameF (fromS s i) = .bad er o) :
    Calls Tryd.prog 51 #[.pointer (some ⟨b, 0, none⟩)] w (TokPost b m s i (.bad er o) w) := by
  have HR := Lib.hid hr
  clear hr
  have H := Lib.hid h
  have HM := Lib.hid hm
  have hb := h.lt
  have lc0 := h.c0
  have lc1 := h.c1
  have hlti : (i : Int) < (s.size : Int) := by omega
  clear h hm
  go_enter Tryd.func51, Tryd.ntmps51
  go_wp2_with fail
  have HS0 : Hid (TS w (w.alloc (.cells #[.int .i64 0, .string ⟨#[]⟩, .int .i64 0, .int .i64 0, .string ⟨#[]⟩, .int .i64 0] 30)) b m s i) := ⟨H.out.alloc _, (K1.refl b w).alloc _, hb, TB6.new w _ _ _ _ _ _ _⟩
  have HM0 := Lib.hid (HM.out.below ((Below.refl _ _).alloc (Nat.le_refl _) (.cells #[.int .i64 0, .string ⟨#[]⟩, .int .i64 0, .int .i64 0, .string ⟨#[]⟩, .int .i64 0] 30)))
  generalize w.alloc (.cells #[.int .i64 0, .string ⟨#[]⟩, .int .i64 0, .int .i64 0, .string ⟨#[]⟩, .int .i64 0] 30) = W at *
  clear lc0 lc1
  have lc0 := HS0.out.l.c0
  have lc1 := HS0.out.l.c1
  go_quiet (fail)
  have HSd : Hid (TS w (W.drewN nq) b m s i) := HS0.out.kept (HS0.out.l.drewN nq) ((K1.refl b W).drewN nq)
  have HMd : Hid (WM (W.drewN nq) m) := HM0.out.below (below_drewN nq)
  generalize W.drewN nq = V at *
  go_wp2_with (first
    | (go_at_call 77; refine (next_any HSd.out.l hs (Nat.le_of_lt hi) 1 (by decide) (by decide)).mono ?_; rintro e w3 ⟨rfl, hB3⟩; have HM3 := Lib.hid (HMd.out.below hB3); have HS3 := Lib.hid (HSd.out.kept (HSd.out.l.below hB3) (K1.of_below hB3)); clear hB3)
    | (go_at_call 80; refine (letter_any _ _).mono ?_; rintro e w9 ⟨rfl, hw9⟩; rw [hw9, hl]; clear hw9)
    | (go_at_call 81; refine (tp_bad (name_any HS3.out.l HM3.out hne hs (Nat.le_of_lt hi)) HR.out).mono ?_; rintro e w5 ⟨x0, x1, x2, x3, x4, x5, rfl, hk5⟩; have HSe : Hid (K1 b w w5 ∧ TB6 w5 w.heap.size _ _ _ _ _ _) := ⟨HS3.out.k.trans hk5, HS3.out.r.kept hk5 (by omega)⟩; obtain ⟨⟨rc0, rc1, rc2, rc3, rc4, rc5⟩, rf0, rf1, rf2, rf3, rf4, rf5⟩ := HSe.out.2; have rlt := World.block_lt_of_cell? _ _ rc0; clear hk5)
    | fail)
  refine bodyPost_ret (v := .tuple #[.agg #[.int .i64 x0, .string x1, .int .i64 x2, .int .i64 x3, .string x4, .int .i64 x5], .int .i64 er, .int .i64 ((i + o : Nat) : Int)]) (by simp [results, Tryd.results51, go_sem, rc0, rc1, rc2, rc3, rc4, rc5]) rfl ⟨HSe.out.1.put6 (j := w.heap.size) (Nat.le_refl _) _ _ _ _ _ _, _, _, _, _, _, _, rfl⟩
set_option maxRecDepth 100000 in
set_option maxHeartbeats 8000000 in
theorem tkn3_ok {w : World} {b m i : Nat} {s : ByteArray} (h : LX w b m s i) (hm : WM w m) (hne : m ≠ b) (hs : s.size ≤ 4000) (hi : i < s.size) {c : UInt8} (hc : s[i] = c) (q120 : ((c.toNat : Int) == 120) = false) (q88 : ((c.toNat : Int) == 88) = false) (hl : isLet c = true) {k : Int} {x : ByteArray} {d : Dt} {n : Nat} (hr : nameF (fromS s i) = .ok k x d n) :
    Calls Tryd.prog 51 #[.pointer (some ⟨b, 0, none⟩)] w (TokPost b m s i (.ok k x d n) w) := by
  have HR := Lib.hid hr
  clear hr
  have H := Lib.hid h
  have HM := Lib.hid hm
  have hb := h.lt
  have lc0 := h.c0
  have lc1 := h.c1
  have hlti : (i : Int) < (s.size : Int) := by omega
  clear h hm
  go_enter Tryd.func51, Tryd.ntmps51
  go_wp2_with fail
  have HS0 : Hid (TS w (w.alloc (.cells #[.int .i64 0, .string ⟨#[]⟩, .int .i64 0, .int .i64 0, .string ⟨#[]⟩, .int .i64 0] 30)) b m s i) := ⟨H.out.alloc _, (K1.refl b w).alloc _, hb, TB6.new w _ _ _ _ _ _ _⟩
  have HM0 := Lib.hid (HM.out.below ((Below.refl _ _).alloc (Nat.le_refl _) (.cells #[.int .i64 0, .string ⟨#[]⟩, .int .i64 0, .int .i64 0, .string ⟨#[]⟩, .int .i64 0] 30)))
  generalize w.alloc (.cells #[.int .i64 0, .string ⟨#[]⟩, .int .i64 0, .int .i64 0, .string ⟨#[]⟩, .int .i64 0] 30) = W at *
  clear lc0 lc1
  have lc0 := HS0.out.l.c0
  have lc1 := HS0.out.l.c1
  go_quiet (fail)
  have HSd : Hid (TS w (W.drewN nq) b m s i) := HS0.out.kept (HS0.out.l.drewN nq) ((K1.refl b W).drewN nq)
  have HMd : Hid (WM (W.drewN nq) m) := HM0.out.below (below_drewN nq)
  generalize W.drewN nq = V at *
  go_wp2_with (first
    | (go_at_call 80; refine (letter_any _ _).mono ?_; rintro e w9 ⟨rfl, hw9⟩; rw [hw9, hl]; clear hw9)
    | (go_at_call 81; refine (tp_ok (name_any HSd.out.l HMd.out hne hs (Nat.le_of_lt hi)) HR.out).mono ?_; rintro e w5 ⟨rfl, hl5, hk5⟩; have HSe := Lib.hid (HSd.out.kept hl5 hk5); obtain ⟨⟨rc0, rc1, rc2, rc3, rc4, rc5⟩, rf0, rf1, rf2, rf3, rf4, rf5⟩ := HSe.out.r; have rlt := World.block_lt_of_cell? _ _ rc0; clear hl5 hk5)
    | fail)
  refine bodyPost_ret (v := .tuple #[(⟨k, x, d, i⟩ : Tk).v, .int .i64 0, .int .i64 0]) (by simp [results, Tryd.results51, go_sem, rc0, rc1, rc2, rc3, rc4, rc5]) rfl ⟨HSe.out.k.put6 (j := w.heap.size) (Nat.le_refl _) _ _ _ _ _ _, rfl, HSe.out.l.put6 (by omega) _ _ _ _ _ _⟩
set_option maxRecDepth 100000 in
set_option maxHeartbeats 8000000 in
theorem tkn3_bad {w : World} {b m i : Nat} {s : ByteArray} (h : LX w b m s i) (hm : WM w m) (hne : m ≠ b) (hs : s.size ≤ 4000) (hi : i < s.size) {c : UInt8} (hc : s[i] = c) (q120 : ((c.toNat : Int) == 120) = false) (q88 : ((c.toNat : Int) == 88) = false) (hl : isLet c = true) {er : Int} {o : Nat} (hr : nameF (fromS s i) = .bad er o) :
    Calls Tryd.prog 51 #[.pointer (some ⟨b, 0, none⟩)] w (TokPost b m s i (.bad er o) w) := by
  have HR := Lib.hid hr
  clear hr
  have H := Lib.hid h
  have HM := Lib.hid hm
  have hb := h.lt
  have lc0 := h.c0
  have lc1 := h.c1
  have hlti : (i : Int) < (s.size : Int) := by omega
  clear h hm
  go_enter Tryd.func51, Tryd.ntmps51
  go_wp2_with fail
  have HS0 : Hid (TS w (w.alloc (.cells #[.int .i64 0, .string ⟨#[]⟩, .int .i64 0, .int .i64 0, .string ⟨#[]⟩, .int .i64 0] 30)) b m s i) := ⟨H.out.alloc _, (K1.refl b w).alloc _, hb, TB6.new w _ _ _ _ _ _ _⟩
  have HM0 := Lib.hid (HM.out.below ((Below.refl _ _).alloc (Nat.le_refl _) (.cells #[.int .i64 0, .string ⟨#[]⟩, .int .i64 0, .int .i64 0, .string ⟨#[]⟩, .int .i64 0] 30)))
  generalize w.alloc (.cells #[.int .i64 0, .string ⟨#[]⟩, .int .i64 0, .int .i64 0, .string ⟨#[]⟩, .int .i64 0] 30) = W at *
  clear lc0 lc1
  have lc0 := HS0.out.l.c0
  have lc1 := HS0.out.l.c1
  go_quiet (fail)
  have HSd : Hid (TS w (W.drewN nq) b m s i) := HS0.out.kept (HS0.out.l.drewN nq) ((K1.refl b W).drewN nq)
  have HMd : Hid (WM (W.drewN nq) m) := HM0.out.below (below_drewN nq)
  generalize W.drewN nq = V at *
  go_wp2_with (first
    | (go_at_call 80; refine (letter_any _ _).mono ?_; rintro e w9 ⟨rfl, hw9⟩; rw [hw9, hl]; clear hw9)
    | (go_at_call 81; refine (tp_bad (name_any HSd.out.l HMd.out hne hs (Nat.le_of_lt hi)) HR.out).mono ?_; rintro e w5 ⟨x0, x1, x2, x3, x4, x5, rfl, hk5⟩; have HSe : Hid (K1 b w w5 ∧ TB6 w5 w.heap.size _ _ _ _ _ _) := ⟨HSd.out.k.trans hk5, HSd.out.r.kept hk5 (by omega)⟩; obtain ⟨⟨rc0, rc1, rc2, rc3, rc4, rc5⟩, rf0, rf1, rf2, rf3, rf4, rf5⟩ := HSe.out.2; have rlt := World.block_lt_of_cell? _ _ rc0; clear hk5)
    | fail)
  refine bodyPost_ret (v := .tuple #[.agg #[.int .i64 x0, .string x1, .int .i64 x2, .int .i64 x3, .string x4, .int .i64 x5], .int .i64 er, .int .i64 ((i + o : Nat) : Int)]) (by simp [results, Tryd.results51, go_sem, rc0, rc1, rc2, rc3, rc4, rc5]) rfl ⟨HSe.out.1.put6 (j := w.heap.size) (Nat.le_refl _) _ _ _ _ _ _, _, _, _, _, _, _, rfl⟩
set_option maxRecDepth 100000 in
set_option maxHeartbeats 8000000 in
theorem tkd_ok {w : World} {b m i : Nat} {s : ByteArray} (h : LX w b m s i) (hm : WM w m) (_hne : m ≠ b) (hs : s.size ≤ 4000) (hi : i < s.size) {c : UInt8} (hc : s[i] = c) (q120 : ((c.toNat : Int) == 120) = false) (q88 : ((c.toNat : Int) == 88) = false) (hl : isLet c = false) (hg : isDig c = true) {k : Int} {x : ByteArray} {d : Dt} {n : Nat} (hr : numF (fromS s i) = .ok k x d n) :
    Calls Tryd.prog 51 #[.pointer (some ⟨b, 0, none⟩)] w (TokPost b m s i (.ok k x d n) w) := by
  have HR := Lib.hid hr
  clear hr
  have H := Lib.hid h
  have HM := Lib.hid hm
  have hb := h.lt
  have lc0 := h.c0
  have lc1 := h.c1
  have hlti : (i : Int) < (s.size : Int) := by omega
  clear h hm
  go_enter Tryd.func51, Tryd.ntmps51
  go_wp2_with fail
  have HS0 : Hid (TS w (w.alloc (.cells #[.int .i64 0, .string ⟨#[]⟩, .int .i64 0, .int .i64 0, .string ⟨#[]⟩, .int .i64 0] 30)) b m s i) := ⟨H.out.alloc _, (K1.refl b w).alloc _, hb, TB6.new w _ _ _ _ _ _ _⟩
  have HM0 := Lib.hid (HM.out.below ((Below.refl _ _).alloc (Nat.le_refl _) (.cells #[.int .i64 0, .string ⟨#[]⟩, .int .i64 0, .int .i64 0, .string ⟨#[]⟩, .int .i64 0] 30)))
  generalize w.alloc (.cells #[.int .i64 0, .string ⟨#[]⟩, .int .i64 0, .int .i64 0, .string ⟨#[]⟩, .int .i64 0] 30) = W at *
  clear lc0 lc1
  have lc0 := HS0.out.l.c0
  have lc1 := HS0.out.l.c1
  go_quiet (fail)
  have HSd : Hid (TS w (W.drewN nq) b m s i) := HS0.out.kept (HS0.out.l.drewN nq) ((K1.refl b W).drewN nq)
  have HMd : Hid (WM (W.drewN nq) m) := HM0.out.below (below_drewN nq)
  generalize W.drewN nq = V at *
  go_wp2_with (first
    | (go_at_call 80; refine (letter_any _ _).mono ?_; rintro e w9 ⟨rfl, hw9⟩; rw [hw9, hl]; clear hw9)
    | (go_at_call 82; refine (digit_any _ _).mono ?_; rintro e w9 ⟨rfl, hw9⟩; rw [hw9, hg]; clear hw9)
    | (go_at_call 83; refine (tp_ok (number_any HSd.out.l hs hi) HR.out).mono ?_; rintro e w5 ⟨rfl, hl5, hk5⟩; have HSe := Lib.hid (HSd.out.kept hl5 hk5); obtain ⟨⟨rc0, rc1, rc2, rc3, rc4, rc5⟩, rf0, rf1, rf2, rf3, rf4, rf5⟩ := HSe.out.r; have rlt := World.block_lt_of_cell? _ _ rc0; clear hl5 hk5)
    | fail)
  refine bodyPost_ret (v := .tuple #[(⟨k, x, d, i⟩ : Tk).v, .int .i64 0, .int .i64 0]) (by simp [results, Tryd.results51, go_sem, rc0, rc1, rc2, rc3, rc4, rc5]) rfl ⟨HSe.out.k.put6 (j := w.heap.size) (Nat.le_refl _) _ _ _ _ _ _, rfl, HSe.out.l.put6 (by omega) _ _ _ _ _ _⟩
set_option maxRecDepth 100000 in
set_option maxHeartbeats 8000000 in
theorem tkd_bad {w : World} {b m i : Nat} {s : ByteArray} (h : LX w b m s i) (hm : WM w m) (_hne : m ≠ b) (hs : s.size ≤ 4000) (hi : i < s.size) {c : UInt8} (hc : s[i] = c) (q120 : ((c.toNat : Int) == 120) = false) (q88 : ((c.toNat : Int) == 88) = false) (hl : isLet c = false) (hg : isDig c = true) {er : Int} {o : Nat} (hr : numF (fromS s i) = .bad er o) :
    Calls Tryd.prog 51 #[.pointer (some ⟨b, 0, none⟩)] w (TokPost b m s i (.bad er o) w) := by
  have HR := Lib.hid hr
  clear hr
  have H := Lib.hid h
  have HM := Lib.hid hm
  have hb := h.lt
  have lc0 := h.c0
  have lc1 := h.c1
  have hlti : (i : Int) < (s.size : Int) := by omega
  clear h hm
  go_enter Tryd.func51, Tryd.ntmps51
  go_wp2_with fail
  have HS0 : Hid (TS w (w.alloc (.cells #[.int .i64 0, .string ⟨#[]⟩, .int .i64 0, .int .i64 0, .string ⟨#[]⟩, .int .i64 0] 30)) b m s i) := ⟨H.out.alloc _, (K1.refl b w).alloc _, hb, TB6.new w _ _ _ _ _ _ _⟩
  have HM0 := Lib.hid (HM.out.below ((Below.refl _ _).alloc (Nat.le_refl _) (.cells #[.int .i64 0, .string ⟨#[]⟩, .int .i64 0, .int .i64 0, .string ⟨#[]⟩, .int .i64 0] 30)))
  generalize w.alloc (.cells #[.int .i64 0, .string ⟨#[]⟩, .int .i64 0, .int .i64 0, .string ⟨#[]⟩, .int .i64 0] 30) = W at *
  clear lc0 lc1
  have lc0 := HS0.out.l.c0
  have lc1 := HS0.out.l.c1
  go_quiet (fail)
  have HSd : Hid (TS w (W.drewN nq) b m s i) := HS0.out.kept (HS0.out.l.drewN nq) ((K1.refl b W).drewN nq)
  have HMd : Hid (WM (W.drewN nq) m) := HM0.out.below (below_drewN nq)
  generalize W.drewN nq = V at *
  go_wp2_with (first
    | (go_at_call 80; refine (letter_any _ _).mono ?_; rintro e w9 ⟨rfl, hw9⟩; rw [hw9, hl]; clear hw9)
    | (go_at_call 82; refine (digit_any _ _).mono ?_; rintro e w9 ⟨rfl, hw9⟩; rw [hw9, hg]; clear hw9)
    | (go_at_call 83; refine (tp_bad (number_any HSd.out.l hs hi) HR.out).mono ?_; rintro e w5 ⟨x0, x1, x2, x3, x4, x5, rfl, hk5⟩; have HSe : Hid (K1 b w w5 ∧ TB6 w5 w.heap.size _ _ _ _ _ _) := ⟨HSd.out.k.trans hk5, HSd.out.r.kept hk5 (by omega)⟩; obtain ⟨⟨rc0, rc1, rc2, rc3, rc4, rc5⟩, rf0, rf1, rf2, rf3, rf4, rf5⟩ := HSe.out.2; have rlt := World.block_lt_of_cell? _ _ rc0; clear hk5)
    | fail)
  refine bodyPost_ret (v := .tuple #[.agg #[.int .i64 x0, .string x1, .int .i64 x2, .int .i64 x3, .string x4, .int .i64 x5], .int .i64 er, .int .i64 ((i + o : Nat) : Int)]) (by simp [results, Tryd.results51, go_sem, rc0, rc1, rc2, rc3, rc4, rc5]) rfl ⟨HSe.out.1.put6 (j := w.heap.size) (Nat.le_refl _) _ _ _ _ _ _, _, _, _, _, _, _, rfl⟩
set_option maxRecDepth 100000 in
set_option maxHeartbeats 8000000 in
theorem tkt_ok {w : World} {b m i : Nat} {s : ByteArray} (h : LX w b m s i) (hm : WM w m) (_hne : m ≠ b) (hs : s.size ≤ 4000) (hi : i < s.size) {c : UInt8} (hc : s[i] = c) (q120 : ((c.toNat : Int) == 120) = false) (q88 : ((c.toNat : Int) == 88) = false) (hl : isLet c = false) (hg : isDig c = false) (q39 : ((c.toNat : Int) == 39) = true) {k : Int} {x : ByteArray} {d : Dt} {n : Nat} (hr : textF (fromS s i) = .ok k x d n) :
    Calls Tryd.prog 51 #[.pointer (some ⟨b, 0, none⟩)] w (TokPost b m s i (.ok k x d n) w) := by
  have HR := Lib.hid hr
  clear hr
  have H := Lib.hid h
  have HM := Lib.hid hm
  have hb := h.lt
  have lc0 := h.c0
  have lc1 := h.c1
  have hlti : (i : Int) < (s.size : Int) := by omega
  clear h hm
  go_enter Tryd.func51, Tryd.ntmps51
  go_wp2_with fail
  have HS0 : Hid (TS w (w.alloc (.cells #[.int .i64 0, .string ⟨#[]⟩, .int .i64 0, .int .i64 0, .string ⟨#[]⟩, .int .i64 0] 30)) b m s i) := ⟨H.out.alloc _, (K1.refl b w).alloc _, hb, TB6.new w _ _ _ _ _ _ _⟩
  have HM0 := Lib.hid (HM.out.below ((Below.refl _ _).alloc (Nat.le_refl _) (.cells #[.int .i64 0, .string ⟨#[]⟩, .int .i64 0, .int .i64 0, .string ⟨#[]⟩, .int .i64 0] 30)))
  generalize w.alloc (.cells #[.int .i64 0, .string ⟨#[]⟩, .int .i64 0, .int .i64 0, .string ⟨#[]⟩, .int .i64 0] 30) = W at *
  clear lc0 lc1
  have lc0 := HS0.out.l.c0
  have lc1 := HS0.out.l.c1
  go_quiet (fail)
  have HSd : Hid (TS w (W.drewN nq) b m s i) := HS0.out.kept (HS0.out.l.drewN nq) ((K1.refl b W).drewN nq)
  have HMd : Hid (WM (W.drewN nq) m) := HM0.out.below (below_drewN nq)
  generalize W.drewN nq = V at *
  go_wp2_with (first
    | (go_at_call 80; refine (letter_any _ _).mono ?_; rintro e w9 ⟨rfl, hw9⟩; rw [hw9, hl]; clear hw9)
    | (go_at_call 82; refine (digit_any _ _).mono ?_; rintro e w9 ⟨rfl, hw9⟩; rw [hw9, hg]; clear hw9)
    | (go_at_call 84; refine (tp_ok (text_any HSd.out.l hs hi) HR.out).mono ?_; rintro e w5 ⟨rfl, hl5, hk5⟩; have HSe := Lib.hid (HSd.out.kept hl5 hk5); obtain ⟨⟨rc0, rc1, rc2, rc3, rc4, rc5⟩, rf0, rf1, rf2, rf3, rf4, rf5⟩ := HSe.out.r; have rlt := World.block_lt_of_cell? _ _ rc0; clear hl5 hk5)
    | fail)
  refine bodyPost_ret (v := .tuple #[(⟨k, x, d, i⟩ : Tk).v, .int .i64 0, .int .i64 0]) (by simp [results, Tryd.results51, go_sem, rc0, rc1, rc2, rc3, rc4, rc5]) rfl ⟨HSe.out.k.put6 (j := w.heap.size) (Nat.le_refl _) _ _ _ _ _ _, rfl, HSe.out.l.put6 (by omega) _ _ _ _ _ _⟩
set_option maxRecDepth 100000 in
set_option maxHeartbeats 8000000 in
theorem tkt_bad {w : World} {b m i : Nat} {s : ByteArray} (h : LX w b m s i) (hm : WM w m) (_hne : m ≠ b) (hs : s.size ≤ 4000) (hi : i < s.size) {c : UInt8} (hc : s[i] = c) (q120 : ((c.toNat : Int) == 120) = false) (q88 : ((c.toNat : Int) == 88) = false) (hl : isLet c = false) (hg : isDig c = false) (q39 : ((c.toNat : Int) == 39) = true) {er : Int} {o : Nat} (hr : textF (fromS s i) = .bad er o) :
    Calls Tryd.prog 51 #[.pointer (some ⟨b, 0, none⟩)] w (TokPost b m s i (.bad er o) w) := by
  have HR := Lib.hid hr
  clear hr
  have H := Lib.hid h
  have HM := Lib.hid hm
  have hb := h.lt
  have lc0 := h.c0
  have lc1 := h.c1
  have hlti : (i : Int) < (s.size : Int) := by omega
  clear h hm
  go_enter Tryd.func51, Tryd.ntmps51
  go_wp2_with fail
  have HS0 : Hid (TS w (w.alloc (.cells #[.int .i64 0, .string ⟨#[]⟩, .int .i64 0, .int .i64 0, .string ⟨#[]⟩, .int .i64 0] 30)) b m s i) := ⟨H.out.alloc _, (K1.refl b w).alloc _, hb, TB6.new w _ _ _ _ _ _ _⟩
  have HM0 := Lib.hid (HM.out.below ((Below.refl _ _).alloc (Nat.le_refl _) (.cells #[.int .i64 0, .string ⟨#[]⟩, .int .i64 0, .int .i64 0, .string ⟨#[]⟩, .int .i64 0] 30)))
  generalize w.alloc (.cells #[.int .i64 0, .string ⟨#[]⟩, .int .i64 0, .int .i64 0, .string ⟨#[]⟩, .int .i64 0] 30) = W at *
  clear lc0 lc1
  have lc0 := HS0.out.l.c0
  have lc1 := HS0.out.l.c1
  go_quiet (fail)
  have HSd : Hid (TS w (W.drewN nq) b m s i) := HS0.out.kept (HS0.out.l.drewN nq) ((K1.refl b W).drewN nq)
  have HMd : Hid (WM (W.drewN nq) m) := HM0.out.below (below_drewN nq)
  generalize W.drewN nq = V at *
  go_wp2_with (first
    | (go_at_call 80; refine (letter_any _ _).mono ?_; rintro e w9 ⟨rfl, hw9⟩; rw [hw9, hl]; clear hw9)
    | (go_at_call 82; refine (digit_any _ _).mono ?_; rintro e w9 ⟨rfl, hw9⟩; rw [hw9, hg]; clear hw9)
    | (go_at_call 84; refine (tp_bad (text_any HSd.out.l hs hi) HR.out).mono ?_; rintro e w5 ⟨x0, x1, x2, x3, x4, x5, rfl, hk5⟩; have HSe : Hid (K1 b w w5 ∧ TB6 w5 w.heap.size _ _ _ _ _ _) := ⟨HSd.out.k.trans hk5, HSd.out.r.kept hk5 (by omega)⟩; obtain ⟨⟨rc0, rc1, rc2, rc3, rc4, rc5⟩, rf0, rf1, rf2, rf3, rf4, rf5⟩ := HSe.out.2; have rlt := World.block_lt_of_cell? _ _ rc0; clear hk5)
    | fail)
  refine bodyPost_ret (v := .tuple #[.agg #[.int .i64 x0, .string x1, .int .i64 x2, .int .i64 x3, .string x4, .int .i64 x5], .int .i64 er, .int .i64 ((i + o : Nat) : Int)]) (by simp [results, Tryd.results51, go_sem, rc0, rc1, rc2, rc3, rc4, rc5]) rfl ⟨HSe.out.1.put6 (j := w.heap.size) (Nat.le_refl _) _ _ _ _ _ _, _, _, _, _, _, _, rfl⟩
set_option maxRecDepth 100000 in
set_option maxHeartbeats 8000000 in
theorem tks_ok {w : World} {b m i : Nat} {s : ByteArray} (h : LX w b m s i) (hm : WM w m) (_hne : m ≠ b) (hs : s.size ≤ 4000) (hi : i < s.size) {c : UInt8} (hc : s[i] = c) (q120 : ((c.toNat : Int) == 120) = false) (q88 : ((c.toNat : Int) == 88) = false) (hl : isLet c = false) (hg : isDig c = false) (q39 : ((c.toNat : Int) == 39) = false) {k : Int} {x : ByteArray} {d : Dt} {n : Nat} (hr : symF (fromS s i) = .ok k x d n) :
    Calls Tryd.prog 51 #[.pointer (some ⟨b, 0, none⟩)] w (TokPost b m s i (.ok k x d n) w) := by
  have HR := Lib.hid hr
  clear hr
  have H := Lib.hid h
  have HM := Lib.hid hm
  have hb := h.lt
  have lc0 := h.c0
  have lc1 := h.c1
  have hlti : (i : Int) < (s.size : Int) := by omega
  clear h hm
  go_enter Tryd.func51, Tryd.ntmps51
  go_wp2_with fail
  have HS0 : Hid (TS w (w.alloc (.cells #[.int .i64 0, .string ⟨#[]⟩, .int .i64 0, .int .i64 0, .string ⟨#[]⟩, .int .i64 0] 30)) b m s i) := ⟨H.out.alloc _, (K1.refl b w).alloc _, hb, TB6.new w _ _ _ _ _ _ _⟩
  have HM0 := Lib.hid (HM.out.below ((Below.refl _ _).alloc (Nat.le_refl _) (.cells #[.int .i64 0, .string ⟨#[]⟩, .int .i64 0, .int .i64 0, .string ⟨#[]⟩, .int .i64 0] 30)))
  generalize w.alloc (.cells #[.int .i64 0, .string ⟨#[]⟩, .int .i64 0, .int .i64 0, .string ⟨#[]⟩, .int .i64 0] 30) = W at *
  clear lc0 lc1
  have lc0 := HS0.out.l.c0
  have lc1 := HS0.out.l.c1
  go_quiet (fail)
  have HSd : Hid (TS w (W.drewN nq) b m s i) := HS0.out.kept (HS0.out.l.drewN nq) ((K1.refl b W).drewN nq)
  have HMd : Hid (WM (W.drewN nq) m) := HM0.out.below (below_drewN nq)
  generalize W.drewN nq = V at *
  go_wp2_with (first
    | (go_at_call 80; refine (letter_any _ _).mono ?_; rintro e w9 ⟨rfl, hw9⟩; rw [hw9, hl]; clear hw9)
    | (go_at_call 82; refine (digit_any _ _).mono ?_; rintro e w9 ⟨rfl, hw9⟩; rw [hw9, hg]; clear hw9)
    | (go_at_call 85; refine (tp_ok (symbol_any HSd.out.l hs hi) HR.out).mono ?_; rintro e w5 ⟨rfl, hl5, hk5⟩; have HSe := Lib.hid (HSd.out.kept hl5 hk5); obtain ⟨⟨rc0, rc1, rc2, rc3, rc4, rc5⟩, rf0, rf1, rf2, rf3, rf4, rf5⟩ := HSe.out.r; have rlt := World.block_lt_of_cell? _ _ rc0; clear hl5 hk5)
    | fail)
  refine bodyPost_ret (v := .tuple #[(⟨k, x, d, i⟩ : Tk).v, .int .i64 0, .int .i64 0]) (by simp [results, Tryd.results51, go_sem, rc0, rc1, rc2, rc3, rc4, rc5]) rfl ⟨HSe.out.k.put6 (j := w.heap.size) (Nat.le_refl _) _ _ _ _ _ _, rfl, HSe.out.l.put6 (by omega) _ _ _ _ _ _⟩
set_option maxRecDepth 100000 in
set_option maxHeartbeats 8000000 in
theorem tks_bad {w : World} {b m i : Nat} {s : ByteArray} (h : LX w b m s i) (hm : WM w m) (_hne : m ≠ b) (hs : s.size ≤ 4000) (hi : i < s.size) {c : UInt8} (hc : s[i] = c) (q120 : ((c.toNat : Int) == 120) = false) (q88 : ((c.toNat : Int) == 88) = false) (hl : isLet c = false) (hg : isDig c = false) (q39 : ((c.toNat : Int) == 39) = false) {er : Int} {o : Nat} (hr : symF (fromS s i) = .bad er o) :
    Calls Tryd.prog 51 #[.pointer (some ⟨b, 0, none⟩)] w (TokPost b m s i (.bad er o) w) := by
  have HR := Lib.hid hr
  clear hr
  have H := Lib.hid h
  have HM := Lib.hid hm
  have hb := h.lt
  have lc0 := h.c0
  have lc1 := h.c1
  have hlti : (i : Int) < (s.size : Int) := by omega
  clear h hm
  go_enter Tryd.func51, Tryd.ntmps51
  go_wp2_with fail
  have HS0 : Hid (TS w (w.alloc (.cells #[.int .i64 0, .string ⟨#[]⟩, .int .i64 0, .int .i64 0, .string ⟨#[]⟩, .int .i64 0] 30)) b m s i) := ⟨H.out.alloc _, (K1.refl b w).alloc _, hb, TB6.new w _ _ _ _ _ _ _⟩
  have HM0 := Lib.hid (HM.out.below ((Below.refl _ _).alloc (Nat.le_refl _) (.cells #[.int .i64 0, .string ⟨#[]⟩, .int .i64 0, .int .i64 0, .string ⟨#[]⟩, .int .i64 0] 30)))
  generalize w.alloc (.cells #[.int .i64 0, .string ⟨#[]⟩, .int .i64 0, .int .i64 0, .string ⟨#[]⟩, .int .i64 0] 30) = W at *
  clear lc0 lc1
  have lc0 := HS0.out.l.c0
  have lc1 := HS0.out.l.c1
  go_quiet (fail)
  have HSd : Hid (TS w (W.drewN nq) b m s i) := HS0.out.kept (HS0.out.l.drewN nq) ((K1.refl b W).drewN nq)
  have HMd : Hid (WM (W.drewN nq) m) := HM0.out.below (below_drewN nq)
  generalize W.drewN nq = V at *
  go_wp2_with (first
    | (go_at_call 80; refine (letter_any _ _).mono ?_; rintro e w9 ⟨rfl, hw9⟩; rw [hw9, hl]; clear hw9)
    | (go_at_call 82; refine (digit_any _ _).mono ?_; rintro e w9 ⟨rfl, hw9⟩; rw [hw9, hg]; clear hw9)
    | (go_at_call 85; refine (tp_bad (symbol_any HSd.out.l hs hi) HR.out).mono ?_; rintro e w5 ⟨x0, x1, x2, x3, x4, x5, rfl, hk5⟩; have HSe : Hid (K1 b w w5 ∧ TB6 w5 w.heap.size _ _ _ _ _ _) := ⟨HSd.out.k.trans hk5, HSd.out.r.kept hk5 (by omega)⟩; obtain ⟨⟨rc0, rc1, rc2, rc3, rc4, rc5⟩, rf0, rf1, rf2, rf3, rf4, rf5⟩ := HSe.out.2; have rlt := World.block_lt_of_cell? _ _ rc0; clear hk5)
    | fail)
  refine bodyPost_ret (v := .tuple #[.agg #[.int .i64 x0, .string x1, .int .i64 x2, .int .i64 x3, .string x4, .int .i64 x5], .int .i64 er, .int .i64 ((i + o : Nat) : Int)]) (by simp [results, Tryd.results51, go_sem, rc0, rc1, rc2, rc3, rc4, rc5]) rfl ⟨HSe.out.1.put6 (j := w.heap.size) (Nat.le_refl _) _ _ _ _ _ _, _, _, _, _, _, _, rfl⟩
theorem token_any {w : World} {b m i : Nat} {s : ByteArray} (h : LX w b m s i) (hm : WM w m) (hne : m ≠ b) (hs : s.size ≤ 4000) (hi : i < s.size) :
    Calls Tryd.prog 51 #[.pointer (some ⟨b, 0, none⟩)] w (TokPost b m s i (tokF (fromS s i)) w) := by
  obtain ⟨c, hc⟩ : ∃ c, s[i] = c := ⟨_, rfl⟩
  have hF : fromS s i = c :: fromS s (i + 1) := by rw [from_lt hi, hc]
  have hT : tokF (fromS s i) = if (c = 120 ∨ c = 88) ∧ (fromS s (i + 1)).head? = some 39 then bytesF (fromS s i) else if isLet c then nameF (fromS s i) else if isDig c then numF (fromS s i) else if c = 39 then textF (fromS s i) else symF (fromS s i) := by
    rw [hF]; exact tokF_cons c _
  have hN : (((nxB s i 1).toNat : Int) == 39) = true ↔ (fromS s (i + 1)).head? = some 39 := by
    have e : (((nxB s i 1).toNat : Int) == 39) = true ↔ nxB s i 1 = 39 := u8_is _ 39
    rw [e]
    unfold nxB
    rw [show (1 : Int).toNat = 1 from rfl]
    cases fromS s (i + 1) with
    | nil => simp
    | cons a r => simp
  have hB : ∀ n : UInt8, (((c.toNat : Int) == (n.toNat : Int)) = true ↔ c = n) := fun n => u8_is c n
  have h120 := hB 120
  have h88 := hB 88
  have h39 := hB 39
  have hl120 : c = 120 → isLet c = true := by rintro rfl; decide
  have hl88 : c = 88 → isLet c = true := by rintro rfl; decide
  have hbz : (fromS s (i + 1)).head? = some 39 → i + 2 ≤ s.size := by
    intro h
    rcases Nat.lt_or_ge (i + 1) s.size with h1 | h1
    · omega
    · rw [from_ge h1] at h; simp at h
  by_cases hx : (fromS s (i + 1)).head? = some 39
  · have qn := hN.2 hx
    by_cases a1 : c = 120
    · rw [hT, if_pos ⟨.inl a1, hx⟩]
      cases hr : bytesF (fromS s i) with
      | ok k x d n => exact tkb1_ok h hm hne hs hi hc (h120.2 a1) qn (hbz hx) hr
      | bad er o => exact tkb1_bad h hm hne hs hi hc (h120.2 a1) qn (hbz hx) hr
    · have q120 : ((c.toNat : Int) == 120) = false := by rw [Bool.eq_false_iff]; exact fun h => a1 (h120.1 h)
      by_cases a2 : c = 88
      · rw [hT, if_pos ⟨.inr a2, hx⟩]
        cases hr : bytesF (fromS s i) with
        | ok k x d n => exact tkb2_ok h hm hne hs hi hc q120 (h88.2 a2) qn (hbz hx) hr
        | bad er o => exact tkb2_bad h hm hne hs hi hc q120 (h88.2 a2) qn (hbz hx) hr
      · have q88 : ((c.toNat : Int) == 88) = false := by rw [Bool.eq_false_iff]; exact fun h => a2 (h88.1 h)
        rw [hT, if_neg (fun h => by rcases h.1 with h | h <;> contradiction)]
        cases hl : isLet c
        · rw [if_neg (by decide)]
          cases hg : isDig c
          · rw [if_neg (by decide)]
            by_cases a3 : c = 39
            · rw [if_pos a3]
              cases hr : textF (fromS s i) with
              | ok k x d n => exact tkt_ok h hm hne hs hi hc q120 q88 hl hg (h39.2 a3) hr
              | bad er o => exact tkt_bad h hm hne hs hi hc q120 q88 hl hg (h39.2 a3) hr
            · have q39 : ((c.toNat : Int) == 39) = false := by rw [Bool.eq_false_iff]; exact fun h => a3 (h39.1 h)
              rw [if_neg a3]
              cases hr : symF (fromS s i) with
              | ok k x d n => exact tks_ok h hm hne hs hi hc q120 q88 hl hg q39 hr
              | bad er o => exact tks_bad h hm hne hs hi hc q120 q88 hl hg q39 hr
          · rw [if_pos rfl]
            cases hr : numF (fromS s i) with
            | ok k x d n => exact tkd_ok h hm hne hs hi hc q120 q88 hl hg hr
            | bad er o => exact tkd_bad h hm hne hs hi hc q120 q88 hl hg hr
        · rw [if_pos rfl]
          cases hr : nameF (fromS s i) with
          | ok k x d n => exact tkn3_ok h hm hne hs hi hc q120 q88 hl hr
          | bad er o => exact tkn3_bad h hm hne hs hi hc q120 q88 hl hr
  · have qn : (((nxB s i 1).toNat : Int) == 39) = false := by rw [Bool.eq_false_iff]; exact fun h => hx (hN.1 h)
    rw [hT, if_neg (fun h => hx h.2)]
    by_cases a1 : c = 120
    · rw [if_pos (hl120 a1)]
      cases hr : nameF (fromS s i) with
      | ok k x d n => exact tkn1_ok h hm hne hs hi hc (h120.2 a1) qn (hl120 a1) hr
      | bad er o => exact tkn1_bad h hm hne hs hi hc (h120.2 a1) qn (hl120 a1) hr
    · have q120 : ((c.toNat : Int) == 120) = false := by rw [Bool.eq_false_iff]; exact fun h => a1 (h120.1 h)
      by_cases a2 : c = 88
      · rw [if_pos (hl88 a2)]
        cases hr : nameF (fromS s i) with
        | ok k x d n => exact tkn2_ok h hm hne hs hi hc q120 (h88.2 a2) qn (hl88 a2) hr
        | bad er o => exact tkn2_bad h hm hne hs hi hc q120 (h88.2 a2) qn (hl88 a2) hr
      · have q88 : ((c.toNat : Int) == 88) = false := by rw [Bool.eq_false_iff]; exact fun h => a2 (h88.1 h)
        cases hl : isLet c
        · rw [if_neg (by decide)]
          cases hg : isDig c
          · rw [if_neg (by decide)]
            by_cases a3 : c = 39
            · rw [if_pos a3]
              cases hr : textF (fromS s i) with
              | ok k x d n => exact tkt_ok h hm hne hs hi hc q120 q88 hl hg (h39.2 a3) hr
              | bad er o => exact tkt_bad h hm hne hs hi hc q120 q88 hl hg (h39.2 a3) hr
            · have q39 : ((c.toNat : Int) == 39) = false := by rw [Bool.eq_false_iff]; exact fun h => a3 (h39.1 h)
              rw [if_neg a3]
              cases hr : symF (fromS s i) with
              | ok k x d n => exact tks_ok h hm hne hs hi hc q120 q88 hl hg q39 hr
              | bad er o => exact tks_bad h hm hne hs hi hc q120 q88 hl hg q39 hr
          · rw [if_pos rfl]
            cases hr : numF (fromS s i) with
            | ok k x d n => exact tkd_ok h hm hne hs hi hc q120 q88 hl hg hr
            | bad er o => exact tkd_bad h hm hne hs hi hc q120 q88 hl hg hr
        · rw [if_pos rfl]
          cases hr : nameF (fromS s i) with
          | ok k x d n => exact tkn3_ok h hm hne hs hi hc q120 q88 hl hr
          | bad er o => exact tkn3_bad h hm hne hs hi hc q120 q88 hl hr
end Go.Proofs.YtnpgjlhnlakgpaaDoor
