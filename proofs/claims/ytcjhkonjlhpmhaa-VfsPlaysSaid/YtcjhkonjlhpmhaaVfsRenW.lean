/- The walk of VfsRenames: it answers true. -/
import Derived.Test.YtcjhkonjlhpmhaaVfsKnown
import Derived.Test.YtcjhkonjlhpmhaaVfsRename
import Derived.Test.YtcjhkonjlhpmhaaVfsRenL
namespace Go.Proofs.Ytcjhkonjlhpmhaa
open Go.RowKit Go.Maps

set_option maxHeartbeats 1000000 in
theorem place_any (n : Int) (k : Nat) (w : World) (hk : 0 < k) (hk2 : k ≤ 1000) (h0 : -9223372036854775808 ≤ n) (h1 : n ≤ 9223372036854775807) :
    Calls Try.prog 14 #[.int .i64 n, .int .i64 (k : Int)] w fun e w' => e = .returned (.int .i64 (n % (k : Int))) ∧ w = w' := by
  have hb := Int.emod_nonneg n (b := (k : Int)) (by omega)
  have hb2 := Int.emod_lt_of_pos n (b := (k : Int)) (by omega)
  have hk0 : ¬ k = 0 := by omega
  by_cases hn : 0 ≤ n
  · have e : n.tmod (k : Int) = n % (k : Int) := Int.tmod_eq_emod_of_nonneg hn
    have E := Lib.hid e
    generalize n % (k : Int) = r at *
    clear e
    have hr : ¬ r < 0 := by omega
    have e2 := E.out
    go_enter Try.func14, Try.ntmps14
    go_wp2_with fail
    go_ret
    exact ⟨rfl, rfl⟩
  · have hneg : n < 0 := by omega
    by_cases hz : n.tmod (k : Int) = 0
    · have e : n % (k : Int) = 0 := by
        have := Int.dvd_of_tmod_eq_zero hz
        exact Int.emod_eq_zero_of_dvd this
      rw [e]
      clear hb hb2 e
      go_enter Try.func14, Try.ntmps14
      go_wp2_with fail
      go_ret
      exact ⟨rfl, rfl⟩
    · have e : n.tmod (k : Int) = n % (k : Int) - (k : Int) := by
        have h3 := @Int.tmod_eq_emod n (k : Int)
        rw [h3, if_neg]
        · simp
        · intro h4
          rcases h4 with h4 | h4
          · omega
          · exact hz (Int.tmod_eq_zero_of_dvd h4)
      generalize n % (k : Int) = r at *
      generalize htm : n.tmod (k : Int) = t at *
      obtain rfl : r = t + (k : Int) := by omega
      have ht : t < 0 := by omega
      clear e hz
      go_enter Try.func14, Try.ntmps14
      go_wp2_with fail
      go_ret
      exact ⟨rfl, rfl⟩

theorem stp_create (d : Dk) (nm : ByteArray) : (d.create nm).2.steps ≤ d.steps + 1 := does_steps (d := d) ⟨1, 0, 0, nm, nm, [], []⟩
theorem stp_append (d : Dk) (nm data : ByteArray) : (d.append nm data).2.steps ≤ d.steps + 1 := does_steps (d := d) ⟨2, 0, 0, nm, data, [], []⟩
theorem stp_sync (d : Dk) (nm : ByteArray) : (d.sync nm).2.steps ≤ d.steps + 1 := does_steps (d := d) ⟨3, 0, 0, nm, nm, [], []⟩
def kPt : ByteArray := ⟨#[112, 111, 105, 110, 116]⟩
def kNw : ByteArray := ⟨#[110, 101, 119]⟩

set_option maxRecDepth 100000 in
set_option maxHeartbeats 8000000 in
theorem ren_walk (elder fresh : ByteArray) (n : Int) (kv tv : Value) (keep turn : List Int) (w : World) (he : elder.size ≤ maxLen) (hf : fresh.size ≤ maxLen) (h0 : -9223372036854775808 ≤ n) (h1 : n ≤ 9223372036854775807)
    (hkv : ∀ b m, w.heap.size ≤ b → w.heap.size ≤ m → IntsAt b m w kv keep) (htv : ∀ b m, w.heap.size ≤ b → w.heap.size ≤ m → IntsAt b m w tv turn) (hkb : ∀ x ∈ keep, x ≤ 9223372036854775807) (htb : ∀ x ∈ turn, x ≤ 9223372036854775807) :
    Calls Try.prog 3 #[.string elder, .string fresh, .int .i64 n, .agg #[kv, tv]] w fun e w' => e = .returned (.bool true) ∧ Below w.heap.size w w' := by
  unfold maxLen at he hf
  have HKV := Lib.hid hkv
  have HTV := Lib.hid htv
  have HKB := Lib.hid hkb
  have HTB := Lib.hid htb
  clear hkv htv hkb htb
  by_cases hbig : elder.size ≤ 65536 ∧ fresh.size ≤ 65536
  · obtain ⟨he2, hf2⟩ := hbig
    obtain ⟨r1, r2, r3⟩ := ren_one (pt := kPt) (elder := elder) (by decide) he2
    have ok0 : (Dk.new 262144).Ok := Dk.Ok.new (by omega)
    have ok1 := ok0.create kPt
    rw [r1] at ok1
    have ok2 := ok1.append kPt elder
    rw [r2] at ok2
    have ok3 := ok2.sync kPt
    rw [r3] at ok3
    have OK := Lib.hid (And.intro ok0 (And.intro ok1 (And.intro ok2 ok3)))
    have R := Lib.hid (And.intro r1 (And.intro r2 r3))
    clear ok0 ok1 ok2 ok3 r1 r2 r3
    have szP : Hid (kPt.size ≤ maxLen) := by show _ ≤ _; unfold maxLen; decide
    have szN : Hid (kNw.size ≤ maxLen) := by show _ ≤ _; unfold maxLen; decide
    go_enter Try.func3, Try.ntmps3
    go_wp2_with fail
    have hB0 : Below w.heap.size w (w.alloc (.cells #[kv, tv] 24)) := (Below.refl _ _).alloc (Nat.le_refl _) _
    have hk0 : (w.alloc (.cells #[kv, tv] 24)).cell? ⟨w.heap.size, 0, none⟩ = some kv := by rw [World.cell?_alloc_new]; rfl
    have hk1 : (w.alloc (.cells #[kv, tv] 24)).cell? ⟨w.heap.size, 1, none⟩ = some tv := by rw [World.cell?_alloc_new]; rfl
    have hs0 : w.heap.size < (w.alloc (.cells #[kv, tv] 24)).heap.size := by simp
    generalize w.alloc (.cells #[kv, tv] 24) = w0 at *
    have B0 := Lib.hid (And.intro hB0 (And.intro hk0 hk1))
    clear hB0 hk0 hk1
    refine (new_ok 262144 w0 (by omega)).mono ?_
    rintro e w1 ⟨rfl, hd1, hB1, hz1⟩
    have hwb : w.heap.size ≠ w0.heap.size + 1 := by omega
    have hwm : w.heap.size ≠ w0.heap.size := by omega
    have K1 := Lib.hid (Kp.of_below (b := w0.heap.size + 1) (m := w0.heap.size) hB1)
    have hc := create_any hd1 OK.out.1 (by decide) szP.out
    rw [R.out.1] at hc
    have HC := Lib.hid hc
    have HB1 := Lib.hid hB1
    clear hc hd1 hB1
    go_wp2_with fail
    refine HC.out.mono ?_
    clear HC
    rintro e w2 ⟨rfl, hd, hk⟩
    have hc := append_any hd OK.out.2.1 (by decide) szP.out (data := elder) (by unfold maxLen; omega)
    rw [R.out.2.1] at hc
    have HC := Lib.hid hc
    have K2 := Lib.hid (K1.out.trans hk)
    clear hc hd hk K1
    go_wp2_with fail
    refine HC.out.mono ?_
    clear HC
    rintro e w3 ⟨rfl, hd, hk⟩
    have hc := sync_any hd OK.out.2.2.1 (by show 2 < 4611686018427387904; omega) szP.out
    rw [R.out.2.2] at hc
    have HC := Lib.hid hc
    have K3 := Lib.hid (K2.out.trans hk)
    clear hc hd hk K2
    go_wp2_with fail
    refine HC.out.mono ?_
    clear HC
    rintro e w4 ⟨rfl, hd, hk⟩
    have HD := Lib.hid hd
    have K4 := Lib.hid (K3.out.trans hk)
    clear hd hk K3
    go_wp2_with fail
    refine (known_any w4).mono ?_
    rintro e w5 ⟨rfl, hB5⟩
    have HD5 := Lib.hid (HD.out.below hB5)
    have K5 := Lib.hid (K4.out.step hB5)
    clear hB5 K4 HD
    have hp := place_any n 6 w5 (by omega) (by omega) h0 h1
    obtain ⟨k, hkn⟩ : ∃ k : Nat, n % ((6 : Nat) : Int) = (k : Int) := ⟨(n % ((6 : Nat) : Int)).toNat, by omega⟩
    have hk6 : k < 6 := by omega
    rw [hkn] at hp
    have HP := Lib.hid hp
    clear hp hkn
    go_wp2_with fail
    refine HP.out.mono ?_
    clear HP
    rintro e w5' ⟨rfl, rfl⟩
    go_wp2_with fail
    refine (arm_any HD5.out (k : Int)).mono ?_
    rintro e w6 ⟨rfl, hd, hk⟩
    have hok6 := OK.out.2.2.2.arm (n := (k : Int)) (by omega)
    have hst6 : ((renD3 kPt elder).arm (k : Int)).steps ≤ 3 := Nat.le_refl _
    have R2 := Lib.hid (ren_two (pt := kPt) (nw := kNw) (elder := elder) (fresh := fresh) (by decide) (by decide) (by decide) hf2 he2 k hk6 keep turn)
    generalize (renD3 kPt elder).arm (k : Int) = D6 at *
    have OK6 := Lib.hid hok6
    have hst7 := Nat.le_trans (stp_create D6 kNw) (Nat.succ_le_succ hst6)
    have hst8 := Nat.le_trans (stp_append (D6.create kNw).2 kNw fresh) (Nat.succ_le_succ hst7)
    have hst9 := Nat.le_trans (stp_sync ((D6.create kNw).2.append kNw fresh).2 kNw) (Nat.succ_le_succ hst8)
    have OK7 := Lib.hid (OK6.out.create kNw)
    have OK8 := Lib.hid (OK7.out.append kNw fresh)
    have OK9 := Lib.hid (OK8.out.sync kNw)
    have OK10 := Lib.hid (OK9.out.rename kNw kPt)
    have HC := Lib.hid (create_any hd OK6.out (by omega) szN.out)
    have K6 := Lib.hid (K5.out.trans hk)
    clear hd hk K5 hok6 HD5
    go_wp2_with fail
    refine HC.out.mono ?_
    clear HC
    rintro e w7 ⟨rfl, hd, hk⟩
    have HC := Lib.hid (append_any hd OK7.out (by omega) szN.out (data := fresh) (by unfold maxLen; omega))
    have K7 := Lib.hid (K6.out.trans hk)
    generalize (D6.create kNw).1 = r7 at *
    generalize (D6.create kNw).2 = D7 at *
    clear hd hk K6
    go_wp2_with fail
    refine HC.out.mono ?_
    clear HC
    rintro e w8 ⟨rfl, hd, hk⟩
    have HC := Lib.hid (sync_any hd OK8.out (by omega) szN.out)
    have K8 := Lib.hid (K7.out.trans hk)
    generalize (D7.append kNw fresh).1 = r8 at *
    generalize (D7.append kNw fresh).2 = D8 at *
    clear hd hk K7
    go_wp2_with fail
    refine HC.out.mono ?_
    clear HC
    rintro e w9 ⟨rfl, hd, hk⟩
    have HC := Lib.hid (rename_any hd OK9.out (by omega) szN.out szP.out)
    have K9 := Lib.hid (K8.out.trans hk)
    generalize (D8.sync kNw).1 = r9 at *
    generalize (D8.sync kNw).2 = D9 at *
    clear hd hk K8
    go_wp2_with fail
    refine HC.out.mono ?_
    clear HC
    rintro e w10 ⟨rfl, hd, hk⟩
    have K10 := Lib.hid (K9.out.trans hk)
    have KW := Lib.hid ((Kp.of_below (b := w0.heap.size + 1) (m := w0.heap.size) B0.out.1).trans K10.out)
    have k0 : w10.cell? ⟨w.heap.size, 0, none⟩ = some kv := by rw [K10.out.cell hs0 hwb hwm]; exact B0.out.2.1
    have k1 : w10.cell? ⟨w.heap.size, 1, none⟩ = some tv := by rw [K10.out.cell hs0 hwb hwm]; exact B0.out.2.2
    have HC := Lib.hid (crash_any hd OK10.out ((HKV.out (w0.heap.size + 1) w0.heap.size (by omega) (by omega)).kept KW.out) ((HTV.out (w0.heap.size + 1) w0.heap.size (by omega) (by omega)).kept KW.out) HKB.out HTB.out)
    generalize (D9.rename kNw kPt).1 = r10 at *
    generalize (D9.rename kNw kPt).2 = D10 at *
    clear hd hk K9
    go_wp2_with fail
    refine HC.out.mono ?_
    clear HC k0 k1
    rintro e w11 ⟨rfl, hd, hk⟩
    have hr := read_any hd szP.out
    rw [R2.out] at hr
    have HC := Lib.hid hr
    have K11 := Lib.hid (K10.out.trans hk)
    have HFIN := Lib.hid (K11.out.below B0.out.1 (by omega) (by omega))
    clear hd hk hr K10
    by_cases h4 : 4 ≤ k
    · have hc := HC.out
      rw [if_pos h4] at hc
      have HC := Lib.hid hc
      clear hc
      go_wp2_with fail
      refine HC.out.mono ?_
      clear HC
      rintro e w12 ⟨rfl, hB⟩
      have HBB := Lib.hid hB
      clear hB
      go_wp2_with fail
      go_ret
      exact ⟨rfl, HFIN.out.trans (HBB.out.mono HFIN.out.size)⟩
    · have hc := HC.out
      rw [if_neg h4] at hc
      have HC := Lib.hid hc
      clear hc
      go_wp2_with fail
      refine HC.out.mono ?_
      clear HC
      rintro e w12 ⟨rfl, hB⟩
      have HBB := Lib.hid hB
      clear hB
      go_wp2_with fail
      go_ret
      exact ⟨rfl, HFIN.out.trans (HBB.out.mono HFIN.out.size)⟩
  · by_cases h1b : 65536 < elder.size
    · go_enter Try.func3, Try.ntmps3
      go_wp2_with fail
      refine (known_any _).mono ?_
      rintro e w1 ⟨rfl, hB⟩
      have HBB := Lib.hid hB
      clear hB
      go_wp2_with fail
      go_ret
      exact ⟨rfl, ((Below.refl _ _).alloc (Nat.le_refl _) _).trans (HBB.out.mono (by simp))⟩
    · have h2b : 65536 < fresh.size := by omega
      go_enter Try.func3, Try.ntmps3
      go_wp2_with fail
      refine (known_any _).mono ?_
      rintro e w1 ⟨rfl, hB⟩
      have HBB := Lib.hid hB
      clear hB
      go_wp2_with fail
      go_ret
      exact ⟨rfl, ((Below.refl _ _).alloc (Nat.le_refl _) _).trans (HBB.out.mono (by simp))⟩
end Go.Proofs.Ytcjhkonjlhpmhaa
