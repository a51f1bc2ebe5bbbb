/- The law WalTorn, walked. -/
import Derived.Test.YtnpgjlhnlakgpaaDoorG11
import Derived.Test.YtnpgjlhnlakgpaaDoorG05
import Derived.Lib.ConvBytes
import Derived.Laws.IdiomStrings
import Derived.WalkKit
import Derived.Deep.DeepCutAuto
namespace Go.Proofs.YtnpgjlhnlakgpaaDoor
open Go.RowKit Go.Maps Go.Lib

/-- Bytes in a block of the call's own. -/
def ByR (w : World) (k : Nat) (l : List UInt8) : Prop := ∀ j, j < l.length → w.cell? ⟨k, j, none⟩ = some (.int .u8 ((l.getD j 0).toNat : Int)) ∧ w.frozen? ⟨k, j, none⟩ = false
theorem ByR.new (w : World) (e : TypeId) (s : ByteArray) : ByR (bytesWorld w e s) w.heap.size s.data.toList := fun j hj => by
  have hj' : j < s.size := by simpa using hj
  refine ⟨bytesWorld_cell w e s j hj', ?_⟩
  unfold World.frozen?
  rw [bytesWorld_at_new]
  have : s.size ≤ (bytesCells w e s).size := by simp [bytesCells]
  simp
  omega
theorem newBytesR (w : World) (e : TypeId) (s : ByteArray) : Below w.heap.size w (bytesWorld w e s) :=
  ⟨rfl, rfl, rfl, by rw [bytesWorld_size]; omega, fun k hk => bytesWorld_at_old w e s k hk⟩
theorem ByR.drewN {w : World} {k n : Nat} {l : List UInt8} (h : ByR w k l) : ByR (w.drewN n) k l := h
theorem ByR.set {w : World} {k : Nat} {l : List UInt8} (h : ByR w k l) {x : Nat} (hx : x < l.length) (c : UInt8) : ByR (w.setCell ⟨k, x, none⟩ (.int .u8 (c.toNat : Int))) k (l.set x c) := fun j hj => by
  have hj' : j < l.length := by simpa using hj
  refine ⟨?_, by rw [World.frozen?_setCell]; exact (h j hj').2⟩
  by_cases hjx : j = x
  · subst hjx
    rw [World.cell?_setCell_same _ _ _ (h j hj').1]
    simp [List.getD_eq_getElem?_getD, hj']
  · have hne : (⟨k, x, none⟩ : Addr) ≠ ⟨k, j, none⟩ := fun e => hjx (Addr.mk.inj e).2.1.symm
    rw [World.cell?_setCell_other (h := hne), (h j hj').1]
    have hxj : ¬ x = j := fun e => hjx e.symm
    simp [List.getD_eq_getElem?_getD, hxj]
theorem ByR.back {w : World} {k : Nat} {l : List UInt8} (h : ByR w k l) (n cap : Nat) (hn : l.length = n) :
    (convert 49 9 (.slice (some ⟨k, 0, none⟩) n cap)).run Tryd.prog w = .ok (.string (bs l)) w := by
  subst hn
  refine run_convert_bytes_back (P := Tryd.prog) w 49 9 5 ⟨k, 0, none⟩ cap l Tryd.underlying49 Tryd.underlying5 Tryd.underlying9 fun j hj => ?_
  have hadd : (⟨k, 0, none⟩ : Addr).add j = ⟨k, j, none⟩ := by unfold Addr.add; split <;> simp_all
  rw [hadd, (h j hj).1]
  simp [List.getD_eq_getElem?_getD, hj]
/-- What the law scans. -/
theorem scan_short (r : List UInt8) (h : r.length ≤ 65536) (k : Nat) (hk : k < (frameN r).length) : scanF ((frameN r).take k) = ([], 0) := scanF_none (one_short r h k hk)
theorem scan_one (r : List UInt8) (h : r.length ≤ 65536) : scanF (frameN r) = ([r], (frameN r).length) := by
  have := scan_frames [r] [] (fun q hq => by rw [List.mem_singleton.1 hq]; exact h)
  simpa [framesN, scan_nil] using this
theorem scan_torn (r : List UInt8) (h : r.length ≤ 65536) (k : Nat) (hk : k < (frameN r).length) (c : UInt8) (hc : c ≠ (frameN r)[k]) : scanF ((frameN r).set k c ++ frameN r) = ([], 0) := scanF_none (torn_set r h k c hk hc _)
theorem xor_other (c m : UInt8) (h : m ≠ 0) : c ^^^ m ≠ c := fun e => h (by
  have h1 : c ^^^ (c ^^^ m) = m := by rw [← UInt8.xor_assoc, UInt8.xor_self, UInt8.zero_xor]
  rw [e, UInt8.xor_self] at h1
  exact h1.symm)

set_option maxRecDepth 100000 in
set_option maxHeartbeats 16000000 in
theorem torn_walk (r : ByteArray) (i z : Int) (w : World) (hr : r.size ≤ 140737488351232) (hi0 : -9223372036854775808 ≤ i) (hi1 : i ≤ 9223372036854775807) (hz0 : 0 ≤ z) (hz1 : z ≤ 255) :
    Calls Tryd.prog 9 #[.string r, .int .i64 i, .int .u8 z] w fun e w' => e = .returned (.bool true) ∧ Below w.heap.size w w' := by
  have HF := Lib.hid (frame_any r w hr)
  by_cases hb : 65536 < r.size
  · rw [if_pos hb] at HF
    have hbi : (65536 : Int) < (r.size : Int) := by omega
    go_enter Tryd.func9, Tryd.ntmps9
    go_wp2_with (first
      | (go_at_call 27; refine HF.out.mono ?_; rintro e w1 ⟨rfl, hb⟩; have HB1 := Lib.hid hb; clear hb)
      | (go_at_call 26; refine (known_any _).mono ?_; rintro e w2 ⟨rfl, hk⟩; have HB2 := Lib.hid (HB1.out.trans (hk.mono HB1.out.size)); clear hk)
      | fail)
    go_ret
    exact ⟨rfl, HB2.out⟩
  · rw [if_neg hb] at HF
    have hrl : r.data.toList.length ≤ 65536 := by have : r.data.toList.length = r.size := by simp
                                                  omega
    have hfl : (frameN r.data.toList).length = r.size + 12 := by rw [frame_len]; simp
    obtain ⟨l, hl⟩ : ∃ l, frameN r.data.toList = l := ⟨_, rfl⟩
    have t1 := scan_short r.data.toList hrl
    have t2 := scan_one r.data.toList hrl
    have t3 := scan_torn r.data.toList hrl
    simp only [hl] at HF hfl t1 t2 t3
    obtain ⟨J, hJ, hJ0, hJ1⟩ : ∃ J : Int, (if i < 0 then -(i + 1) else i) = J ∧ 0 ≤ J ∧ J ≤ 9223372036854775807 := ⟨_, rfl, by split <;> omega, by split <;> omega⟩
    obtain ⟨n, hn⟩ : ∃ n, r.size + 12 = n := ⟨_, rfl⟩
    have hn12 : 12 ≤ n := by omega
    have hnm : n ≤ 65548 := by omega
    rw [hn] at hfl
    have hK0 : 0 ≤ J.tmod (n : Int) := Int.tmod_nonneg _ hJ0
    have hK1 : J.tmod (n : Int) < (n : Int) := Int.tmod_lt_of_pos _ (by omega)
    obtain ⟨k, hk⟩ : ∃ k : Nat, J.tmod (n : Int) = (k : Int) := ⟨_, (Int.toNat_of_nonneg hK0).symm⟩
    have hkn : k < n := by omega
    obtain ⟨F, hF⟩ : ∃ F, bs l = F := ⟨_, rfl⟩
    have hFz : F.size = n := by rw [← hF, bs_size, hfl]
    have hFd : F.data.toList = l := by rw [← hF]; rfl
    rw [hF] at HF
    obtain ⟨A, hA⟩ : ∃ A, F.extract 0 k = A := ⟨_, rfl⟩
    have hAz : A.size = k := by rw [← hA, ByteArray.size_extract]; omega
    have hAd : A.data.toList = l.take k := by rw [← hA, ByteArray.data_extract, ← hFd]; simp
    obtain ⟨m, hm⟩ : ∃ m : UInt8, UInt8.ofNat z.toNat = m := ⟨_, rfl⟩
    have hmz : (z = 0) ↔ m = 0 := by
      rw [← hm, ← UInt8.toNat_inj, UInt8.toNat_ofNat']
      show _ ↔ _ = 0
      omega
    obtain ⟨c, hc⟩ : ∃ c, l.getD k 0 = c := ⟨_, rfl⟩
    have hkl : k < l.length := by omega
    have hck : l[k] = c := by rw [← hc]; simp [List.getD_eq_getElem?_getD, hkl]
    obtain ⟨G, hG⟩ : ∃ G, bs (l.set k (c ^^^ m)) = G := ⟨_, rfl⟩
    have hGz : G.size = n := by rw [← hG, bs_size, List.length_set, hfl]
    have hGd : (G ++ F).data.toList = l.set k (c ^^^ m) ++ l := by rw [← hG, ← hF, bs_append]; rfl
    have hGFz : (G ++ F).size = n + n := by rw [ByteArray.size_append]; omega
    have HS1 : Hid (∀ W, Calls Tryd.prog 29 #[.string A] W fun e w' => ∃ v, e = .returned (.tuple #[v, .int .i64 0]) ∧ SL W w' v []) := fun W => by
      have h := scan_any A W (by omega)
      rw [hAd, t1 k hkl] at h
      exact h
    have HS2 : Hid (∀ W, Calls Tryd.prog 29 #[.string F] W fun e w' => ∃ v, e = .returned (.tuple #[v, .int .i64 (n : Int)]) ∧ SL W w' v [r.data.toList]) := fun W => by
      have h := scan_any F W (by omega)
      rw [hFd, t2, hfl] at h
      exact h
    obtain ⟨GF, hGF⟩ : ∃ GF, G ++ F = GF := ⟨_, rfl⟩
    rw [hGF] at hGd hGFz
    have HS3 : Hid (z ≠ 0 → ∀ W, Calls Tryd.prog 29 #[.string GF] W fun e w' => ∃ v, e = .returned (.tuple #[v, .int .i64 0]) ∧ SL W w' v []) := fun h0 W => by
      have h := scan_any GF W (by omega)
      rw [hGd, t3 k hkl _ (by rw [hck]; exact xor_other c m (fun e => h0 (hmz.2 e)))] at h
      exact h
    have hww : IntKind.i64.wrap ((r.size : Int) + 12) = (n : Int) := by rw [IntKind.wrap_i64]; omega
    have HJ := Lib.hid hJ
    have HFL := Lib.hid hfl
    clear t1 t2 t3 hAd hGd hJ hrl hfl
    go_enter Tryd.func9, Tryd.ntmps9
    go_upto_if 42 with (first
      | (go_at_call 27; refine HF.out.mono ?_; rintro e w1 ⟨rfl, hb⟩; have HB1 := Lib.hid hb; clear hb)
      | (go_at_call 26; refine (known_any _).mono ?_; rintro e w2 ⟨rfl, hk⟩; have HB2 := Lib.hid (HB1.out.trans (hk.mono HB1.out.size)); clear hk)
      | fail)
    go_cut [1] from 14 (fun v wc => v = .int .i64 J ∧ w2 = wc)
    case first =>
      by_cases hneg : i < 0
      · have q1 : IntKind.i64.wrap (i + 1) = i + 1 := by rw [IntKind.wrap_i64]; omega
        have q2 : IntKind.i64.wrap (-(i + 1)) = J := by rw [IntKind.wrap_i64]; have := HJ.out; rw [if_pos hneg] at this; omega
        go_wp2_with fail
        go_meet
        case rel => exact ⟨rfl, rfl⟩
      · have q1 : i = J := by have := HJ.out; rw [if_neg hneg] at this; exact this
        subst q1
        go_wp2_with fail
        go_meet
        case rel => exact ⟨rfl, rfl⟩
    case rest =>
    obtain ⟨rfl, rfl⟩ := hcut
    have hi1 : (0 : Int) ≤ (k : Int) := by omega
    have hki : (k : Int) ≤ (n : Int) := by omega
    have hki2 : (k : Int) < (n : Int) := by omega
    have hnz : ¬ n = 0 := by omega
    go_upto_region 11 with (first
      | (go_at_call_of 29 (Value.string A); refine (HS1.out _).mono ?_; rintro e w3 ⟨v3, rfl, hk⟩; have HB3 := Lib.hid (HB2.out.trans (hk.B.mono HB2.out.size)); obtain ⟨p3, c3, hv3⟩ := owns_sl2 hk.o; subst hv3; clear hk)
      | (go_at_call_of 29 (Value.string F); refine (HS2.out _).mono ?_; rintro e w4 ⟨v4, rfl, hk⟩; have HB4 := Lib.hid (HB3.out.trans (hk.B.mono HB3.out.size)); have HT4 := Lib.hid hk.at; obtain ⟨p4, c4, hv4⟩ := owns_sl2 hk.o; subst hv4; clear hk)
      | fail)
    have HT : Hid (∃ g off, p4 = some ⟨g, off, none⟩ ∧ w4.cell? ⟨g, off, none⟩ = some (.string r)) := by
      obtain ⟨p, cap, hv, h⟩ := HT4.out
      rcases h with h | ⟨g, off, hp, hc⟩
      · cases h
      · cases hv
        exact ⟨g, off, hp, hc 0 _ rfl⟩
    obtain ⟨tg, tof, rfl, tc⟩ := HT.out
    clear HT HT4
    by_cases hz : z = 0
    · subst hz
      go_wp2_with fail
      go_ret
      exact ⟨rfl, HB4.out⟩
    · have HS3' := Lib.hid (HS3.out hz)
      have hzb : (z == 0) = false := by simpa using hz
      have hcv := Lib.run_convert_string_bytes (P := Tryd.prog) w4 9 49 5 F Tryd.underlying9 Tryd.underlying49 Tryd.underlying5
      go_upto_region 16 with fail
      have BY := ByR.new w4 5 F
      have HB5 := Lib.hid (HB4.out.trans ((newBytesR w4 5 F).mono HB4.out.size))
      have hz5 := HB4.out.size
      rw [hFd] at BY
      rw [hFz] at hcv
      have hgl : ¬ 9223372036854775807 < G.size + F.size := by omega
      clear hcv
      generalize bytesWorld w4 5 F = w5 at *
      generalize grownCap w4 n 0 5 = cb at *
      obtain ⟨b0, bf⟩ := BY k hkl
      rw [hc] at b0
      have hx : bits BinOp.xor IntKind.u8 (c.toNat : Int) z = ((c ^^^ m).toNat : Int) := by rw [← hm]; exact xor_u8 c z hz0 (by omega)
      have BY2 := BY.set hkl (c ^^^ m)
      have hcv2 := BY2.back n cb (by rw [List.length_set]; exact HFL.out)
      rw [hG] at hcv2
      have HB6 := Lib.hid (HB5.out.setCell (p := ⟨w4.heap.size, k, none⟩) hz5 (.int .u8 ((c ^^^ m).toNat : Int)))
      obtain ⟨C, hC⟩ : ∃ C : Int, (c.toNat : Int) = C := ⟨_, rfl⟩
      obtain ⟨R, hR⟩ : ∃ R : Int, ((c ^^^ m).toNat : Int) = R := ⟨_, rfl⟩
      rw [hC] at b0 hx
      rw [hR] at hx hcv2 HB6
      clear BY BY2 hC hR hck hc
      go_upto_region 17 with fail
      generalize w5.setCell ⟨w4.heap.size, k, none⟩ (.int .u8 R) = w6 at *
      go_wp2_with (first
        | (go_at_call_of 29 (Value.string GF); refine (HS3'.out _).mono ?_; rintro e w7 ⟨v7, rfl, hk⟩; have HB7 := Lib.hid (HB6.out.trans (hk.B.mono HB6.out.size)); obtain ⟨p7, c7, hv7⟩ := owns_sl2 hk.o; subst hv7; clear hk)
        | fail)
      go_ret
      exact ⟨rfl, HB7.out⟩
end Go.Proofs.YtnpgjlhnlakgpaaDoor
