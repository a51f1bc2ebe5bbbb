/- The document's bytes. -/
import Derived.Test.YtnpgjlhnlakgpaaDoorLexG4
import Derived.Test.YtnpgjlhnlakgpaaDoorLexF8
import Derived.Test.YtnpgjlhnlakgpaaDoorPrintK
namespace Go.Proofs.YtnpgjlhnlakgpaaDoor
open Go.RowKit

/-- A digit of sixteen; -1: none. -/
def hexI (c : UInt8) : Int := match hexv c with
  | some d => (d : Int)
  | none => -1
theorem hexI_dig {c : UInt8} (h : 48 ≤ c.toNat ∧ c.toNat ≤ 57) : hexI c = (c.toNat : Int) - 48 := by
  unfold hexI hexv; rw [if_pos h]; simp only; omega
theorem hexI_low {c : UInt8} (h : 97 ≤ c.toNat ∧ c.toNat ≤ 102) : hexI c = (c.toNat : Int) - 87 := by
  unfold hexI hexv; rw [if_neg (by omega), if_pos h]; simp only; omega
theorem hexI_up {c : UInt8} (h : 65 ≤ c.toNat ∧ c.toNat ≤ 70) : hexI c = (c.toNat : Int) - 55 := by
  unfold hexI hexv; rw [if_neg (by omega), if_neg (by omega), if_pos h]; simp only; omega
theorem hexI_no {c : UInt8} (h1 : ¬ (48 ≤ c.toNat ∧ c.toNat ≤ 57)) (h2 : ¬ (97 ≤ c.toNat ∧ c.toNat ≤ 102)) (h3 : ¬ (65 ≤ c.toNat ∧ c.toNat ≤ 70)) : hexI c = -1 := by
  unfold hexI hexv; rw [if_neg h1, if_neg h2, if_neg h3]
set_option maxHeartbeats 2000000 in
theorem r16_any (c : UInt8) (w : World) : Calls Tryd.prog 117 #[.int .u8 (c.toNat : Int)] w fun e w' => e = .returned (.int .i64 (hexI c)) ∧ w' = w := by
  have hc := c.toNat_lt
  have HD : Hid (isDig c = (decide (48 ≤ c.toNat) && decide (c.toNat ≤ 57))) := rfl
  rcases (show (c.toNat : Int) < 48 ∨ (48 ≤ (c.toNat : Int) ∧ (c.toNat : Int) ≤ 57) ∨ (57 < (c.toNat : Int) ∧ (c.toNat : Int) < 65) ∨ (65 ≤ (c.toNat : Int) ∧ (c.toNat : Int) ≤ 70) ∨ (70 < (c.toNat : Int) ∧ (c.toNat : Int) < 97) ∨ (97 ≤ (c.toNat : Int) ∧ (c.toNat : Int) ≤ 102) ∨ 102 < (c.toNat : Int) from by omega) with h | h | h | h | h | h | h
  · have HM := Lib.hid (hexI_no (c := c) (by omega) (by omega) (by omega))
    have hdg : isDig c = false := by rw [HD.out]; simp; omega
    rw [HM.out]
    clear HD
    go_enter Tryd.func117, Tryd.ntmps117
    go_wp2_with (first | (go_at_call 58; refine (is_rdig hdg _).mono ?_; rintro e w9 ⟨rfl, hw9⟩; rw [hw9]; clear hw9) | fail)
    go_ret
    exact ⟨by first | rfl | (refine congrArg (fun x => Ending.returned (.int .i64 x)) ?_; omega), rfl⟩
  · have HM := Lib.hid (hexI_dig (c := c) (by omega))
    have hdg : isDig c = true := by rw [HD.out]; simp; omega
    rw [HM.out]
    clear HD
    go_enter Tryd.func117, Tryd.ntmps117
    go_wp2_with (first | (go_at_call 58; refine (is_rdig hdg _).mono ?_; rintro e w9 ⟨rfl, hw9⟩; rw [hw9]; clear hw9) | fail)
    go_ret
    exact ⟨by first | rfl | (refine congrArg (fun x => Ending.returned (.int .i64 x)) ?_; omega), rfl⟩
  · have HM := Lib.hid (hexI_no (c := c) (by omega) (by omega) (by omega))
    have hdg : isDig c = false := by rw [HD.out]; simp; omega
    rw [HM.out]
    clear HD
    go_enter Tryd.func117, Tryd.ntmps117
    go_wp2_with (first | (go_at_call 58; refine (is_rdig hdg _).mono ?_; rintro e w9 ⟨rfl, hw9⟩; rw [hw9]; clear hw9) | fail)
    go_ret
    exact ⟨by first | rfl | (refine congrArg (fun x => Ending.returned (.int .i64 x)) ?_; omega), rfl⟩
  · have HM := Lib.hid (hexI_up (c := c) (by omega))
    have hdg : isDig c = false := by rw [HD.out]; simp; omega
    rw [HM.out]
    clear HD
    go_enter Tryd.func117, Tryd.ntmps117
    go_wp2_with (first | (go_at_call 58; refine (is_rdig hdg _).mono ?_; rintro e w9 ⟨rfl, hw9⟩; rw [hw9]; clear hw9) | fail)
    go_ret
    exact ⟨by first | rfl | (refine congrArg (fun x => Ending.returned (.int .i64 x)) ?_; omega), rfl⟩
  · have HM := Lib.hid (hexI_no (c := c) (by omega) (by omega) (by omega))
    have hdg : isDig c = false := by rw [HD.out]; simp; omega
    rw [HM.out]
    clear HD
    go_enter Tryd.func117, Tryd.ntmps117
    go_wp2_with (first | (go_at_call 58; refine (is_rdig hdg _).mono ?_; rintro e w9 ⟨rfl, hw9⟩; rw [hw9]; clear hw9) | fail)
    go_ret
    exact ⟨by first | rfl | (refine congrArg (fun x => Ending.returned (.int .i64 x)) ?_; omega), rfl⟩
  · have HM := Lib.hid (hexI_low (c := c) (by omega))
    have hdg : isDig c = false := by rw [HD.out]; simp; omega
    rw [HM.out]
    clear HD
    go_enter Tryd.func117, Tryd.ntmps117
    go_wp2_with (first | (go_at_call 58; refine (is_rdig hdg _).mono ?_; rintro e w9 ⟨rfl, hw9⟩; rw [hw9]; clear hw9) | fail)
    go_ret
    exact ⟨by first | rfl | (refine congrArg (fun x => Ending.returned (.int .i64 x)) ?_; omega), rfl⟩
  · have HM := Lib.hid (hexI_no (c := c) (by omega) (by omega) (by omega))
    have hdg : isDig c = false := by rw [HD.out]; simp; omega
    rw [HM.out]
    clear HD
    go_enter Tryd.func117, Tryd.ntmps117
    go_wp2_with (first | (go_at_call 58; refine (is_rdig hdg _).mono ?_; rintro e w9 ⟨rfl, hw9⟩; rw [hw9]; clear hw9) | fail)
    go_ret
    exact ⟨by first | rfl | (refine congrArg (fun x => Ending.returned (.int .i64 x)) ?_; omega), rfl⟩
theorem r16_at {c : UInt8} {v : Int} (h : hexI c = v) (w : World) : Calls Tryd.prog 117 #[.int .u8 (c.toNat : Int)] w fun e w' => e = .returned (.int .i64 v) ∧ w' = w := by
  rw [← h]; exact r16_any c w

/-- A row without elements, just made. -/
theorem own_new0 (w : World) (e : TypeId) (k : Nat) : (w.alloc (.cells #[] e)).ownsRow w.heap.size e k (.slice (some ⟨w.heap.size, 0, none⟩) 0 0) 0 [] := by
  refine ⟨by simp, .inr ⟨w.heap.size, 0, #[], rfl, Nat.le_refl _, ?_, Nat.le_refl _, Nat.zero_le _, by simp, by simp⟩⟩
  show (w.heap.push _)[w.heap.size]? = _
  simp
/-- Amounts as the cells of a row. -/
def n64s (l : List Nat) : List Value := l.map fun n : Nat => Value.int .i64 (n : Int)
theorem n64info : (Tryd.prog.info? 3).map (fun i => (i.zero, i.size, i.bytes)) = some (some (.int .i64 0), 1, 8) := by kernel_rfl
theorem n64s_append (a b : List Nat) : n64s (a ++ b) = n64s a ++ n64s b := by simp [n64s]
theorem n64s_len (a : List Nat) : (n64s a).length = a.length := by simp [n64s]
theorem newn1 (w : World) (v : Int) (t : TypeId) : ∀ j u, ([Value.int .i64 v] : List Value)[j]? = some u → (w.alloc (.cells #[.int .i64 v] t)).cell? ((⟨w.heap.size, 0, none⟩ : Addr).add j) = some u := by
  intro j u hj
  have h := World.cell?_alloc_new w #[.int .i64 v] t j
  rw [Lib.add_plain, Nat.zero_add, h, ← hj, ← Array.getElem?_toList]
theorem n64_cell {w : World} {B n : Nat} {p : Option Addr} {m c : Nat} {ds : List Nat} (h : w.ownsRow B 3 1 (.slice p m c) n (n64s ds)) {k : Nat} {d : Nat} (hk : ds[k]? = some d) : ∃ g, p = some ⟨g, 0, none⟩ ∧ B ≤ g ∧ w.cell? ⟨g, k, none⟩ = some (.int .i64 (d : Int)) := by
  have hkl : k < ds.length := (List.getElem?_eq_some_iff.1 hk).1
  rcases id h with ⟨hl, ⟨h1, h2⟩ | ⟨g, cap, cur, h1, h2, _⟩⟩
  · rw [n64s_len, h2] at hl; omega
  · cases h1
    refine ⟨g, rfl, h2, ?_⟩
    have := h.cellAt (g := g) k (by rw [n64s_len] at hl; omega)
    rw [this]
    simp [n64s, hk]
theorem pairs_app : ∀ (ds : List Nat) (a b : Nat), ds.length % 2 = 0 → pairsF (ds ++ [a, b]) = pairsF ds ++ [UInt8.ofNat (16 * a + b)]
  | [], a, b, _ => rfl
  | [x], a, b, h => by simp at h
  | x :: y :: r, a, b, h => by
    have := pairs_app r a b (by simp only [List.length_cons] at h; omega)
    simp only [List.cons_append, pairsF, this]
theorem pairs_len : ∀ ds : List Nat, (pairsF ds).length = ds.length / 2
  | [] => rfl
  | [x] => by simp [pairsF]
  | x :: y :: r => by
    have := pairs_len r
    simp only [pairsF, List.length_cons, this]; omega
/-- Where the walk of bytes stands: the digits so far. -/
structure RB (w W : World) (v : Value) (ds : List Nat) : Prop where
  o : W.ownsRow (w.heap.size + 1) 3 1 v ds.length (n64s ds)
  g : GB W w.heap.size
  b : Below w.heap.size w W
  z : w.heap.size + 1 ≤ W.heap.size
theorem RB.below {w W W' : World} {v : Value} {ds : List Nat} (h : RB w W v ds) (hB : Below W.heap.size W W') : RB w W' v ds :=
  ⟨h.o.kept ⟨hB.os, hB.tape, hB.output, hB.size, fun k hk _ => hB.block k hk⟩ (by
    cases hv : v.ownBlock with
    | none => exact .inl rfl
    | some k => exact .inr (by simp : some k ≠ none)), h.g.below hB, h.b.trans (hB.mono h.b.size), Nat.le_trans h.z hB.size⟩
/-- The bytes so far, made behind the world W1. -/
structure RB2 (W1 W : World) (u : Value) (L : List UInt8) : Prop where
  o : W.ownsRow W1.heap.size 5 1 u L.length (u8s L)
  b : Below W1.heap.size W1 W
theorem byte_of {a b : Nat} (_ha : a < 16) (_hb : b < 16) : IntKind.u8.wrap ((a : Int) * 16 + (b : Int)) = ((UInt8.ofNat (16 * a + b)).toNat : Int) := by
  rw [IntKind.wrap_u8, UInt8.toNat_ofNat']
  omega

set_option maxRecDepth 100000 in
set_option maxHeartbeats 8000000 in
theorem rbytes_any {s : ByteArray} {i : Nat} (hs : s.size ≤ 4000) (hi : i + 2 ≤ s.size) (w : World) :
    Calls Tryd.prog 86 #[.string s, .int .i64 (i : Int)] w fun e w' => e = .returned (gotV (bytesF (fromS s i)) i) ∧ Below w.heap.size w w' := by
  obtain ⟨G, hG⟩ : ∃ G, hexGo (fromS s (i + 2)) = G := ⟨_, rfl⟩
  have HBF : Hid (bytesF (fromS s i) = bytesR G) := by show _ = _; rw [bytesF_of, from_from, hG]
  have HG := Lib.hid hG
  have HE : Hid ((i : Int) = (i : Int)) := rfl
  clear hG
  obtain ⟨j0, hj0, jz0, jz1, jz2⟩ := info_parts n64info
  go_enter Tryd.func86, Tryd.ntmps86
  go_wp2_with fail
  have HS0 : Hid (RB w ((w.alloc (.cells gotZ 92)).alloc (.cells #[] 3)) (.slice (some ⟨w.heap.size + 1, 0, none⟩) 0 0) []) := by
    have h := own_new0 (w.alloc (.cells gotZ 92)) 3 1
    rw [World.size_alloc] at h
    exact ⟨h, (GB.new w _).below ((Below.refl _ _).alloc (Nat.le_refl _) _), (gb_new w).alloc (by simp) _, by simp⟩
  generalize (w.alloc (.cells _ 92)).alloc (.cells #[] 3) = W0 at *
  go_loopw [5, 6, 9] (fun lv iv _ wr => ∃ (p : Nat) (ds : List Nat), i + 2 + p ≤ s.size ∧ ds.length = p ∧ iv = .int .i64 ((i + 2 + p : Nat) : Int) ∧ RB w wr lv ds ∧ Hid (∀ x ∈ ds, x < 16) ∧ Hid (G = (hexGo (fromS s (i + 2 + p))).map fun o => o.map fun r => ds ++ r)) (fun _ iv _ _ => s.size - (intOf iv).toNat)
  case atStart =>
    refine ⟨0, [], hi, rfl, by simp, HS0.out, (by show ∀ x ∈ ([] : List Nat), x < 16; simp), ?_⟩
    show _ = _
    rw [← HG.out]
    cases hexGo (fromS s (i + 2)) with
    | none => rfl
    | some o => cases o <;> rfl
  case round =>
    obtain ⟨p, ds, hp, hdl, rfl, hS, HD16, HGG⟩ := hrel
    subst hdl
    have HS := Lib.hid hS
    obtain ⟨sp, sc, hsl⟩ := owns_sl2 hS.o
    subst hsl
    have hNl : ds.length ≤ 4000 := by omega
    have hSz := hS.z
    clear hS
    obtain ⟨q, hq⟩ : ∃ q, i + 2 + ds.length = q := ⟨_, rfl⟩
    rw [hq] at HGG hp ⊢
    by_cases hlt : q < s.size
    · have hlti : (q : Int) < (s.size : Int) := by omega
      obtain ⟨c, hc⟩ : ∃ c, s[q] = c := ⟨_, rfl⟩
      have HST := Lib.hid (hexGo_step hlt hc)
      by_cases h39 : c = 39
      · have q39 : (c.toNat : Int) = 39 := by rw [h39]; rfl
        have HGv : Hid (G = some (some ds)) := by
          show _ = _
          rw [HGG.out, HST.out, if_pos h39]
          simp
        by_cases hodd : ds.length % 2 = 1
        · have hoddi : (ds.length : Int) % 2 = 1 := by omega
          have HR : Hid (bytesF (fromS s i) = .bad 42 0) := by
            show _ = _
            rw [HBF.out, HGv.out, bytesR, if_pos hodd]
          clear HGG HST HGv h39
          go_wp2_with (first | (go_at_call 116; refine (wrong_any _ _ _).mono ?_; rintro e w5 ⟨rfl, hB5⟩; have HG5 := Lib.hid (HS.out.g.below hB5); have HB5 := Lib.hid (HS.out.b.trans (hB5.mono HS.out.b.size)); clear hB5; obtain ⟨⟨tc0, tc1, tc2, tc3, tc4, tc5, tc6, tc7, tc8, tc9⟩, tf0, tf1, tf2, tf3, tf4, tf5, tf6, tf7, tf8, tf9⟩ := HG5.out.c_f; have tlt := HG5.out.lt) | fail)
          refine bodyPost_ret (v := gotV (.bad 42 0) i) (by have hke := HE.out; simp [results, Tryd.results86, go_sem, gotV, tc0, tc1, tc2, tc3, tc4, tc5, tc6, tc7, tc8, tc9] <;> omega) rfl ⟨by rw [HR.out], below_put10 HB5.out (Nat.le_refl _) _ _ _ _ _ _ _ _ _ _⟩
        · have hoddi : ¬ (ds.length : Int) % 2 = 1 := by omega
          have hoddb : ((ds.length : Int) % 2 == 1) = false := by simp; omega
          clear HGG HST h39
          have heven : ds.length % 2 = 0 := by omega
          obtain ⟨W1, rfl⟩ : ∃ W1, W1 = wr := ⟨_, rfl⟩
          have HQ0 : Hid (RB2 W1 (W1.alloc (.cells #[] 5)) (.slice (some ⟨W1.heap.size, 0, none⟩) 0 0) []) := ⟨own_new0 W1 _ 1, (Below.refl _ _).alloc (Nat.le_refl _) _⟩
          go_wp2_with fail
          generalize W1.alloc (.cells #[] 5) = W3 at *
          go_loopw [7, 8] (fun uv jv w4 => ∃ (j : Nat) (L : List UInt8), 2 * j ≤ ds.length ∧ jv = .int .i64 ((2 * j : Nat) : Int) ∧ Hid (L = pairsF (ds.take (2 * j))) ∧ L.length = j ∧ RB2 W1 w4 uv L) (fun _ jv _ => ds.length - (intOf jv).toNat)
          case atStart => exact ⟨0, [], by omega, rfl, rfl, rfl, HQ0.out⟩
          case round =>
            obtain ⟨j, L, hj, rfl, HL, hLj, hQ⟩ := hrel
            have HQ := Lib.hid hQ
            have hW1 := hQ.b.size
            obtain ⟨up, uc, hul⟩ := owns_sl2 hQ.o
            subst hul
            clear hQ
            obtain ⟨j2, hj2⟩ : ∃ j2, 2 * j = j2 := ⟨_, rfl⟩
            rw [hj2] at HL hj ⊢
            by_cases hlt2 : j2 + 1 < ds.length
            · have hlt2i : (j2 : Int) + 1 < (ds.length : Int) := by omega
              obtain ⟨a, ha⟩ : ∃ a, ds[j2]? = some a := ⟨_, List.getElem?_eq_getElem (by omega)⟩
              obtain ⟨b, hb⟩ : ∃ b, ds[j2 + 1]? = some b := ⟨_, List.getElem?_eq_getElem (by omega)⟩
              have ha16 := HD16.out a (List.mem_of_getElem? ha)
              have hb16 := HD16.out b (List.mem_of_getElem? hb)
              have hwr := byte_of ha16 hb16
              have hwr2 : IntKind.u8.wrap (IntKind.i64.wrap ((a : Int) * 16 + (b : Int))) = ((UInt8.ofNat (16 * a + b)).toNat : Int) := by rw [IntKind.wrap_i64, show ((a : Int) * 16 + (b : Int) + 9223372036854775808) % 18446744073709551616 - 9223372036854775808 = (a : Int) * 16 + (b : Int) by omega]; exact hwr
              have HLn : Hid (L ++ [UInt8.ofNat (16 * a + b)] = pairsF (ds.take (j2 + 2))) := by
                show _ = _
                have e : ds.take (j2 + 2) = ds.take j2 ++ [a, b] := by
                  rw [List.take_add_one, List.take_add_one, ha, hb]; simp
                rw [e, pairs_app _ _ _ (by rw [List.length_take]; omega), HL.out]
              obtain ⟨g, rfl, hg, hca⟩ := n64_cell (HS.out.below HQ.out.b).o ha
              obtain ⟨g', hgg, hg', hcb⟩ := n64_cell (HS.out.below HQ.out.b).o hb
              obtain rfl : g = g' := (Addr.mk.inj (Option.some.inj hgg)).1
              have hgl : g < W1.heap.size := (HS.out.o.lt g rfl).2
              generalize hyy : UInt8.ofNat (16 * a + b) = y at *
              have HO : Hid (BRow wr W1.heap.size (.slice up j uc) L) := by rw [← hLj]; exact .inl HQ.out.o
              have hwr0 : IntKind.i64.wrap ((a : Int) * 16) = (a : Int) * 16 := by rw [IntKind.wrap_i64]; omega
              have hwj : IntKind.i64.wrap ((j2 : Int) + 1) = (j2 : Int) + 1 := by rw [IntKind.wrap_i64]; omega
              have hx5 : (0 : Int) ≤ (j2 : Int) := by omega
              have hx6 : (j2 : Int) < (ds.length : Int) := by omega
              have hx7 : j2 < ds.length := by omega
              have hx1 : (0 : Int) ≤ (j2 : Int) + 1 := by omega
              have hx2 : ((j2 : Int) + 1).toNat = j2 + 1 := by omega
              have hx3 : ¬ (j2 : Int) + 1 < 0 := by omega
              have hx4 : ¬ (ds.length : Int) ≤ (j2 : Int) + 1 := by omega
              clear ha hb hyy hgg
              go_wp2_with fail
              go_region_held3 (fun w' => w'.cell? ⟨g, j2, none⟩ = some (.int .i64 (a : Int)) ∧ w'.cell? ⟨g, j2 + 1, none⟩ = some (.int .i64 (b : Int))) ((first | assumption | exact ⟨Lib.cell?_alloc_marked _ (‹_ ∧ _› : _ ∧ _).1, Lib.cell?_alloc_marked _ (‹_ ∧ _› : _ ∧ _).2⟩ | go_keep))
                (first
                  | (refine step_append_brow rfl _ _ rfl W1.heap.size (.slice up j uc) L rfl (by repeat' (first | exact HO.out | refine BRow.alloc ?_ _ | refine BRow.drew ?_)) ⟨wr.heap.size, 0, none⟩ 1 1 [y] rfl (by decide) rfl (news1 wr y _ _) (by omega) (by simp; omega) ?_; intro v' w' hown' hbel; obtain ⟨p', n', c', rfl⟩ := owns_slice hown'; have hb2' := hbel _ _ (Below.refl W1.heap.size _) (Nat.le_refl _); have HB' : Hid (Below W1.heap.size W1 w') := (hbel _ _ (by repeat' (first | exact HQ.out.b | refine Below.alloc ?_ ?_ _ | refine Below.drew ?_ | exact hW1)) (Nat.le_refl _)); have hc1' : w'.cell? ⟨g, j2, none⟩ = some (.int .i64 (a : Int)) := (hb2'.cell (p := ⟨g, j2, none⟩) hgl).trans (‹_ ∧ _› : _ ∧ _).1; have hc2' : w'.cell? ⟨g, j2 + 1, none⟩ = some (.int .i64 (b : Int)) := (hb2'.cell (p := ⟨g, j2 + 1, none⟩) hgl).trans (‹_ ∧ _› : _ ∧ _).2; have hcc := And.intro hc1' hc2'))
              all_goals
                go_wp2_with fail
                go_roundw
                case rel =>
                  refine ⟨j + 1, L ++ [y], by omega, by go_num, ?_, by simp; omega, ?_⟩
                  · rw [show 2 * (j + 1) = j2 + 2 by omega]; exact HLn
                  · exact ⟨by rw [List.length_append]; exact hown', HB'.out⟩
                case measure => simp [intOf]; omega
            · have hlt2i : ¬ (j2 : Int) + 1 < (ds.length : Int) := by omega
              have HLe : Hid (L = pairsF ds) := by
                show _ = _
                rw [HL.out, List.take_of_length_le (by omega)]
              by_cases h1000 : 1000 < L.length
              · have h1000i : (1000 : Int) < (L.length : Int) := by omega
                have HR : Hid (bytesF (fromS s i) = .bad 2 0) := by
                  show _ = _
                  rw [HBF.out, HGv.out, bytesR, if_neg hodd, ← HLe.out, if_pos h1000]
                have HS2 := Lib.hid (HS.out.below HQ.out.b)
                clear HL hLj
                go_wp2_with (first | (go_at_call 116; refine (wrong_any _ _ _).mono ?_; rintro e w5 ⟨rfl, hB5⟩; have HG5 := Lib.hid (HS2.out.g.below hB5); have HB5 := Lib.hid (HS2.out.b.trans (hB5.mono HS2.out.b.size)); clear hB5; obtain ⟨⟨tc0, tc1, tc2, tc3, tc4, tc5, tc6, tc7, tc8, tc9⟩, tf0, tf1, tf2, tf3, tf4, tf5, tf6, tf7, tf8, tf9⟩ := HG5.out.c_f; have tlt := HG5.out.lt) | fail)
                refine bodyPost_ret (v := gotV (.bad 2 0) i) (by have hke := HE.out; simp [results, Tryd.results86, go_sem, gotV, tc0, tc1, tc2, tc3, tc4, tc5, tc6, tc7, tc8, tc9] <;> omega) rfl ⟨by rw [HR.out], below_put10 HB5.out (Nat.le_refl _) _ _ _ _ _ _ _ _ _ _⟩
              · have h1000i : ¬ (1000 : Int) < (L.length : Int) := by omega
                obtain ⟨T, hT⟩ : ∃ T, bs L = T := ⟨_, rfl⟩
                have HR : Hid (bytesF (fromS s i) = .ok 3 ⟨#[]⟩ ⟨5, 0, T⟩ (ds.length + 3)) := by
                  show _ = _
                  rw [HBF.out, HGv.out, bytesR, if_neg hodd, ← HLe.out, if_neg h1000, ← hT]
                  rfl
                have HE2 : Hid (((i + (ds.length + 3) : Nat) : Int) = (q : Int) + 1) := by show _ = _; omega
                have HS2 := Lib.hid (HS.out.below HQ.out.b)
                have hcv := conv_all HQ.out.o rfl
                rw [hT] at hcv
                obtain ⟨⟨tc0, tc1, tc2, tc3, tc4, tc5, tc6, tc7, tc8, tc9⟩, tf0, tf1, tf2, tf3, tf4, tf5, tf6, tf7, tf8, tf9⟩ := HS2.out.g.c_f; have tlt := HS2.out.g.lt
                clear HL hLj
                go_wp2_with fail
                refine bodyPost_ret (v := .agg #[.int .i64 3, .string ⟨#[]⟩, .int .i64 5, .int .i64 0, .string T, .int .i64 (i : Int), .int .i64 ((q : Int) + 1), .int .i64 0, .int .i64 0, .bool false]) (by simp [results, Tryd.results86, go_sem, tc0, tc1, tc2, tc3, tc4, tc5, tc6, tc7, tc8, tc9]) rfl ⟨by rw [HR.out, gotV_ok, HE2.out], below_put10 HS2.out.b (Nat.le_refl _) _ _ _ _ _ _ _ _ _ _⟩
      · have q39 : ¬ (c.toNat : Int) = 39 := fun h => h39 (by apply UInt8.toNat_inj.1; have : (39 : UInt8).toNat = 39 := rfl; omega)
        have q39b : ((c.toNat : Int) == 39) = false := by simpa using q39
        cases hx : hexv c with
        | none =>
          have hI : hexI c = -1 := by unfold hexI; rw [hx]
          have HR : Hid (bytesF (fromS s i) = .bad 42 0) := by
            show _ = _
            rw [HBF.out, HGG.out, HST.out, if_neg h39, hx]
            rfl
          clear HGG HST h39 hx
          go_wp2_with (first | (go_at_call 117; refine (r16_at hI _).mono ?_; rintro e w9 ⟨rfl, hw9⟩; rw [hw9]; clear hw9) | (go_at_call 116; refine (wrong_any _ _ _).mono ?_; rintro e w5 ⟨rfl, hB5⟩; have HG5 := Lib.hid (HS.out.g.below hB5); have HB5 := Lib.hid (HS.out.b.trans (hB5.mono HS.out.b.size)); clear hB5; obtain ⟨⟨tc0, tc1, tc2, tc3, tc4, tc5, tc6, tc7, tc8, tc9⟩, tf0, tf1, tf2, tf3, tf4, tf5, tf6, tf7, tf8, tf9⟩ := HG5.out.c_f; have tlt := HG5.out.lt) | fail)
          refine bodyPost_ret (v := gotV (.bad 42 0) i) (by have hke := HE.out; simp [results, Tryd.results86, go_sem, gotV, tc0, tc1, tc2, tc3, tc4, tc5, tc6, tc7, tc8, tc9] <;> omega) rfl ⟨by rw [HR.out], below_put10 HB5.out (Nat.le_refl _) _ _ _ _ _ _ _ _ _ _⟩
        | some d =>
          have hI : hexI c = (d : Int) := by unfold hexI; rw [hx]
          have hd16 := hexv_lt c d hx
          have HGn : Hid (G = (hexGo (fromS s (q + 1))).map fun o => o.map fun r => (ds ++ [d]) ++ r) := by
            show _ = _
            rw [HGG.out, HST.out, if_neg h39, hx]
            cases hexGo (fromS s (q + 1)) with
            | none => rfl
            | some o => cases o <;> simp
          have HDn : Hid (∀ x ∈ ds ++ [d], x < 16) := by
            intro x hx
            rcases List.mem_append.1 hx with hx | hx
            · exact HD16.out x hx
            · simp at hx; omega
          have HLn : Hid ((ds ++ [d]).length = ds.length + 1 ∧ n64s (ds ++ [d]) = n64s ds ++ [.int .i64 (d : Int)]) := ⟨by simp, n64s_append ds [d]⟩
          clear HGG HST h39 hx
          go_wp2_with (first
            | (go_at_call 117; refine (r16_at hI _).mono ?_; rintro e w9 ⟨rfl, hw9⟩; rw [hw9]; clear hw9)
            | (at_builtin; refine wpList_append_own _ rfl _ _ 36 rfl (w.heap.size + 1) 3 j0 (.int .i64 0) 1 8 Tryd.underlying36 hj0 jz0 jz1 jz2 rfl (by decide) _ _ _ rfl (HS.out.o.alloc _) ⟨wr.heap.size, 0, none⟩ 1 1 [.int .i64 (d : Int)] rfl rfl (newn1 wr (d : Int) _) (by simp [Value.oneCell']) (by unfold maxLen; omega) (by omega) (by simp; omega) ?_; intro v' w3 hown' hgrow _)
            | fail)
          have HSn : Hid (RB w w3 v' (ds ++ [d])) := by
            refine ⟨by rw [HLn.out.1, HLn.out.2]; exact hown', (HS.out.g.below ((Below.refl _ _).alloc (Nat.le_refl _) _)).of_block (hgrow.block _ (by have := HS.out.g.lt; simp; omega) (fun e => by have := (HS.out.o.lt _ e.symm).1; omega)), (HS.out.b.alloc HS.out.b.size _).grown hgrow (by have := HS.out.b.size; simp; omega) (fun k hk => by have := (HS.out.o.lt k hk).1; omega), by have := hgrow.size; simp at this; omega⟩
          clear hown' hgrow
          go_roundw
          case rel =>
            refine ⟨ds.length + 1, ds ++ [d], by omega, HLn.out.1, by go_num, HSn.out, HDn, ?_⟩
            rw [show i + 2 + (ds.length + 1) = q + 1 by omega]
            exact HGn
          case measure => simp [intOf]; omega
    · have hlti : ¬ (q : Int) < (s.size : Int) := by omega
      have HR : Hid (bytesF (fromS s i) = .bad 41 0) := by
        show _ = _
        rw [HBF.out, HGG.out, from_ge (s := s) (i := q) (by omega)]
        rfl
      clear HGG
      go_wp2_with (first | (go_at_call 116; refine (wrong_any _ _ _).mono ?_; rintro e w5 ⟨rfl, hB5⟩; have HG5 := Lib.hid (HS.out.g.below hB5); have HB5 := Lib.hid (HS.out.b.trans (hB5.mono HS.out.b.size)); clear hB5; obtain ⟨⟨tc0, tc1, tc2, tc3, tc4, tc5, tc6, tc7, tc8, tc9⟩, tf0, tf1, tf2, tf3, tf4, tf5, tf6, tf7, tf8, tf9⟩ := HG5.out.c_f; have tlt := HG5.out.lt) | fail)
      refine bodyPost_ret (v := gotV (.bad 41 0) i) (by have hke := HE.out; simp [results, Tryd.results86, go_sem, gotV, tc0, tc1, tc2, tc3, tc4, tc5, tc6, tc7, tc8, tc9] <;> omega) rfl ⟨by rw [HR.out], below_put10 HB5.out (Nat.le_refl _) _ _ _ _ _ _ _ _ _ _⟩
end Go.Proofs.YtnpgjlhnlakgpaaDoor
