/- The contract of the reference's Crash. -/
import Derived.Test.YtnpgjlhnlakgpaaGreatDoorG15
import Derived.Lib.ConvBytes
import Derived.Laws.IdiomStrings
import Derived.Deep.DeepCutAuto
namespace Go.Proofs.YtnpgjlhnlakgpaaGreatDoor
open Go.RowKit Go.Maps Go.Lib

/-- Bytes in a block of the call's own. -/
def BytesAt (w : World) (k : Nat) (l : List UInt8) : Prop := ∀ j, j < l.length → w.cell? ⟨k, j, none⟩ = some (.int .u8 ((l.getD j 0).toNat : Int)) ∧ w.frozen? ⟨k, j, none⟩ = false
theorem BytesAt.of_block {w w' : World} {k : Nat} {l : List UInt8} (h : BytesAt w k l) (hb : w'.heap[k]? = w.heap[k]?) : BytesAt w' k l := fun j hj =>
  ⟨by rw [World.cell?_of_block (w := w) hb]; exact (h j hj).1, by rw [World.frozen?_of_block (w := w) hb]; exact (h j hj).2⟩
theorem BytesAt.new (w : World) (e : TypeId) (s : ByteArray) : BytesAt (bytesWorld w e s) w.heap.size s.data.toList := fun j hj => by
  have hj' : j < s.size := by simpa using hj
  refine ⟨bytesWorld_cell w e s j hj', ?_⟩
  unfold World.frozen?
  rw [bytesWorld_at_new]
  have : s.size ≤ (bytesCells w e s).size := by simp [bytesCells]
  simp
  omega
theorem Below.bytes (w : World) (e : TypeId) (s : ByteArray) : Below w.heap.size w (bytesWorld w e s) :=
  ⟨rfl, rfl, rfl, by rw [bytesWorld_size]; omega, fun k hk => bytesWorld_at_old w e s k hk⟩
theorem BytesAt.set {w : World} {k : Nat} {l : List UInt8} (h : BytesAt w k l) {x : Nat} (hx : x < l.length) (c : UInt8) : BytesAt (w.setCell ⟨k, x, none⟩ (.int .u8 (c.toNat : Int))) k (l.set x c) := fun j hj => by
  have hj' : j < l.length := by simpa using hj
  refine ⟨?_, setf (h j hj').2⟩
  by_cases hjx : j = x
  · subst hjx
    rw [sets (h j hj').1]
    simp [List.getD_eq_getElem?_getD, hj']
  · rw [setc (fun e => hjx e.symm) (h j hj').1]
    have hxj : ¬ x = j := fun e => hjx e.symm
    simp [List.getD_eq_getElem?_getD, hxj]
theorem BytesAt.back {w : World} {k : Nat} {l : List UInt8} (h : BytesAt w k l) (n cap : Nat) (hn : l.length = n) :
    (convert 98 9 (.slice (some ⟨k, 0, none⟩) n cap)).run Tryz.prog w = .ok (.string ⟨l.toArray⟩) w := by
  subst hn
  refine run_convert_bytes_back (P := Tryz.prog) w 98 9 5 ⟨k, 0, none⟩ cap l Tryz.underlying98 Tryz.underlying5 Tryz.underlying9 fun j hj => ?_
  have hadd : (⟨k, 0, none⟩ : Addr).add j = ⟨k, j, none⟩ := by unfold Addr.add; split <;> simp_all
  rw [hadd, (h j hj).1]
  simp [List.getD_eq_getElem?_getD, hj]
theorem staysB_list (nm fb : ByteArray) (fs : Nat) (ka ta : Int) : staysB ⟨nm, fb, fs⟩ ka ta = ⟨(if 0 < ta ∧ 0 < keptN fb.size fs ka then
    (fb.extract 0 (fs + keptN fb.size fs ka)).data.toList.modify (fs + ((ta / 256) % (keptN fb.size fs ka : Int)).toNat) fun c => c ^^^ UInt8.ofNat (ta % 256).toNat
    else (fb.extract 0 (fs + keptN fb.size fs ka)).data.toList).toArray⟩ := by
  have hext : (fb.extract 0 (fs + keptN fb.size fs ka)).data.toList = fb.data.toList.take (fs + keptN fb.size fs ka) := by simp
  by_cases h : ta ≤ 0 ∨ keptN fb.size fs ka = 0
  · rw [if_neg (by omega)]
    have : staysB ⟨nm, fb, fs⟩ ka ta = fb.extract 0 (fs + keptN fb.size fs ka) := by
      unfold staysB keptN at *
      simp only []
      rw [if_pos h]
    rw [this]
  · rw [if_pos (by omega), hext]
    unfold staysB keptN at *
    simp only []
    rw [if_neg h]
theorem atL_out {l : List Int} {k : Nat} (h : l.length ≤ k) : atL l k = 0 := by
  unfold atL; rw [List.getD_eq_getElem?_getD, List.getElem?_eq_none h]; rfl

theorem Kp.belowNew {b g B : Nat} {w0 w w' : World} (h : Kp b g w0 w) (hb : Below B w w') (hB : w0.heap.size ≤ B) : Kp b g w0 w' :=
  ⟨hb.os.trans h.os, hb.tape.trans h.tape, hb.output.trans h.output, Nat.le_trans h.size hb.size, fun k hk h1 h2 => (hb.block k (Nat.lt_of_lt_of_le hk hB)).trans (h.block k hk h1 h2)⟩
theorem List.set_getElem?_self' {α : Type} {l : List α} {i : Nat} {x : α} (h : l[i]? = some x) : l.set i x = l := by
  obtain ⟨hi, rfl⟩ := List.getElem?_eq_some_iff.1 h
  exact List.set_getElem_self hi
set_option maxRecDepth 100000 in
set_option maxHeartbeats 16000000 in
theorem ref_crash {d : Dk} {w : World} {b g : Nat} (h : RAt w b g d) (hok : d.Ok) {kv tv : Value} {keep turn : List Int} (hk : IntsAt b g w kv keep) (ht : IntsAt b g w tv turn)
    (hkb : ∀ x ∈ keep, x ≤ 9223372036854775807) (htb : ∀ x ∈ turn, x ≤ 9223372036854775807) :
    Calls Tryz.prog 27 #[.pointer (some ⟨b, 0, none⟩), .agg #[kv, tv]] w fun e w' => e = .returned (.tuple #[]) ∧ ROut w w' b g (d.crash keep turn) := by
  have H := Lib.hid h
  have HOK := Lib.hid hok
  have hbw := h.lt
  have hgw := h.ltg
  have hmany := hok.many
  have hus := Nat.le_trans hok.used hok.room
  have HKB := Lib.hid hkb
  have HTB := Lib.hid htb
  have hB0 := (Below.refl w.heap.size w).alloc (Nat.le_refl _) (.cells #[kv, tv] 40)
  have hx0 : (w.alloc (.cells #[kv, tv] 40)).cell? ⟨w.heap.size, 0, none⟩ = some kv := by rw [World.cell?_alloc_new]; rfl
  have hx1 : (w.alloc (.cells #[kv, tv] 40)).cell? ⟨w.heap.size, 1, none⟩ = some tv := by rw [World.cell?_alloc_new]; rfl
  have hz0 : w.heap.size < (w.alloc (.cells #[kv, tv] 40)).heap.size := by simp
  have HK0 := Lib.hid (hk.kept (Kp.of_below (b := b) (m := g) hB0))
  have HT0 := Lib.hid (ht.kept (Kp.of_below (b := b) (m := g) hB0))
  obtain ⟨kp, kn, kc, rfl⟩ := hk.slice
  obtain ⟨tp, tn, tc, rfl⟩ := ht.slice
  have HB0 := Lib.hid hB0
  have HCB := Lib.hid (And.intro hx0 hx1)
  have HD0 := Lib.hid (H.out.below hB0)
  clear h hok hk ht hkb htb hB0 hx0 hx1 H
  obtain ⟨lp, lc, c1⟩ := HD0.out.c1
  generalize hn : d.L.length = n at *
  have HN := Lib.hid hn
  clear hn
  go_enter Tryz.func27, Tryz.ntmps27
  go_upto_region 1 with fail
  generalize w.alloc (.cells #[.slice kp kn kc, .slice tp tn tc] 40) = w0 at *
  go_wp2_with fail
  have hkl : kn = keep.length := by obtain ⟨p, c, e, _⟩ := HK0.out; injection e
  have htl : tn = turn.length := by obtain ⟨p, c, e, _⟩ := HT0.out; injection e
  have hkm : keep.length ≤ 9223372036854775807 := by obtain ⟨p, c, _, e, _⟩ := HK0.out; exact e
  have htm : turn.length ≤ 9223372036854775807 := by obtain ⟨p, c, _, e, _⟩ := HT0.out; exact e
  have hkn : kn ≤ 9223372036854775807 := by omega
  have htn : tn ≤ 9223372036854775807 := by omega
  have HKL := Lib.hid hkl
  have HTL := Lib.hid htl
  clear hkl htl hkm htm
  have hlpg : Hid (0 < n → lp = some ⟨g, 0, none⟩) := Lib.hid (fun hn0 => by
    obtain ⟨f, hf⟩ : ∃ f, d.L[0]? = some f := ⟨d.L[0]'(by rw [HN.out]; exact hn0), List.getElem?_eq_getElem _⟩
    obtain ⟨c, x1, _⟩ := HD0.out.file hf
    rw [c1] at x1
    injection x1 with x1
    injection x1)
  go_loopw [4, 16] (fun kv iv wr => ∃ i : Nat, i ≤ n ∧ iv = .int .i64 (i : Int) ∧ kv = .int .i64 (unsafeN (d.L.take i) : Int) ∧ RAt wr b g { d with L := crashP keep turn d.L i } ∧ Kp b g w0 wr)
    (fun _ iv _ => n - (intOf iv).toNat)
  case atStart => exact ⟨0, Nat.zero_le _, rfl, rfl, by rw [crashP_zero]; exact HD0.out, Kp.refl _ _ _⟩
  case round =>
    obtain ⟨i, hi, rfl, rfl, hd, hkp⟩ := hrel
    have HD := Lib.hid hd
    have HKP := Lib.hid hkp
    have hzr := hkp.size
    clear hd hkp c1
    have hun := unsafeN_le (d.L.take i)
    have htl : (d.L.take i).length ≤ i := List.length_take_le _ _
    by_cases hlt : i < n
    · have hla : d.L.length = n := HN.out
      obtain ⟨f, hf⟩ : ∃ f, d.L[i]? = some f := ⟨d.L[i], List.getElem?_eq_getElem (by omega)⟩
      have hfm : f ∈ d.L := List.mem_of_getElem? hf
      have hsf := HOK.out.safe f hfm
      have hfu := mem_used hfm
      obtain rfl := hlpg.out (by omega)
      have HGET := Lib.hid (crashP_get keep turn d.L hf)
      have HSTEP := Lib.hid (crashP_step keep turn d.L hf)
      have HUN := Lib.hid (unsafeN_step d.L hf)
      obtain ⟨c, x1, hgb, a0, a1, a2, e1, e2⟩ := HD.out.file (i := i) (f := f) HGET.out
      have hcl : ({ d with L := crashP keep turn d.L i } : Dk).L.length = n := by show (crashP keep turn d.L i).length = n; rw [crashP_len]; exact HN.out
      rw [hcl] at x1
      clear hf hfm hla hcl e1 e2
      obtain ⟨fn, fb, fs⟩ := f
      simp only at hsf hfu a0 a1 a2
      generalize hku : unsafeN (d.L.take i) = ku at *
      have HKU := Lib.hid hku
      clear hku
      have k0 : wr.cell? ⟨w.heap.size, 0, none⟩ = some (.slice kp kn kc) := by rw [HKP.out.cell hz0 (by omega) (by omega)]; exact HCB.out.1
      have k1 : wr.cell? ⟨w.heap.size, 1, none⟩ = some (.slice tp tn tc) := by rw [HKP.out.cell hz0 (by omega) (by omega)]; exact HCB.out.2
      go_upto_region 5 with fail
      have hb1 := (Below.refl wr.heap.size wr).alloc (Nat.le_refl _) (.cells #[.string fn, .string fb, .int .i64 (fs : Int)] 75)
      obtain ⟨z0, z1, z2⟩ := file_box (W := wr) (.string fn) (.string fb) (.int .i64 (fs : Int)) 75 rfl
      have hz1 : wr.heap.size < (wr.alloc (.cells #[.string fn, .string fb, .int .i64 (fs : Int)] 75)).heap.size := by simp
      rw [← hb1.cell (p := ⟨w.heap.size, 0, none⟩) (show w.heap.size < _ by omega)] at k0
      rw [← hb1.cell (p := ⟨w.heap.size, 1, none⟩) (show w.heap.size < _ by omega)] at k1
      generalize wr.alloc (.cells #[.string fn, .string fb, .int .i64 (fs : Int)] 75) = w1 at *
      have HD1 := Lib.hid (HD.out.below hb1)
      have HK1 := Lib.hid (HKP.out.step hb1)
      clear a0 a1 a2 x1 hb1 HD HKP
      have hka := atL_le HKB.out (by omega) ku
      have hta := atL_le HTB.out (by omega) ku
      have hIK := HK0.out.kept HK1.out
      have hIT := HT0.out.kept HK1.out
      have HIK := Lib.hid hIK
      have HIT := Lib.hid hIT
      clear hIK hIT
      go_upto_if 28 with fail
      go_cut [4] (fun v wc => v = .int .i64 ((ku + (if fs < fb.size then 1 else 0) : Nat) : Int) ∧ RAt wc b g { d with L := (crashP keep turn d.L i).set i ⟨fn, (if fs < fb.size then staysB ⟨fn, fb, fs⟩ (atL keep ku) (atL turn ku) else fb), fs⟩ } ∧ Kp b g w0 wc)
      case first =>
        by_cases hu : fs < fb.size
        · have HU := Lib.hid hu
          go_upto_region 8 with fail
          go_cut [41] (fun v wc => v = .bool (decide (0 < atL keep ku)) ∧ w1 = wc)
          case first =>
            by_cases hq : ku < kn
            · obtain ⟨p', c', hv, hl1, hcs⟩ := HIK.out
              injection hv with hv1 hv2 hv3
              obtain ⟨g1, o1, hp, hgb1, hgm1, hcc⟩ := hcs.resolve_left (fun e => by rw [e] at hv2; simp at hv2; omega)
              have hc0 := hcc ku (by omega)
              rw [← hv1] at hp
              subst hp
              have EA := Lib.hid (show atL keep ku = keep.getD ku 0 from rfl)
              rw [← EA.out] at hc0
              generalize atL keep ku = ka at *
              clear hcc hcs hv1 hv2 hv3 EA
              go_wp2_with fail
              go_meet
              case rel => exact ⟨rfl, rfl⟩
            · have EAO := Lib.hid (atL_out (l := keep) (k := ku) (by have := HKL.out; omega))
              go_wp2_with fail
              go_meet
              case rel => exact ⟨by rw [EAO.out]; rfl, rfl⟩
          case rest =>
          obtain ⟨rfl, rfl⟩ := hcut
          go_upto_if 41 with fail
          go_cut [8] (fun v wc => v = .int .i64 (keptN fb.size fs (atL keep ku) : Int) ∧ w1 = wc)
          case first =>
            by_cases h0 : 0 < atL keep ku
            · have hq : ku < kn := by
                have h1 := HKL.out
                have h2 : ¬ keep.length ≤ ku := fun h => by rw [atL_out h] at h0; omega
                omega
              obtain ⟨p', c', hv, hl1, hcs⟩ := HIK.out
              injection hv with hv1 hv2 hv3
              obtain ⟨g1, o1, hp, hgb1, hgm1, hcc⟩ := hcs.resolve_left (fun e => by rw [e] at hv2; simp at hv2; omega)
              have hc0 := hcc ku (by omega)
              rw [← hv1] at hp
              subst hp
              have EA := Lib.hid (show atL keep ku = keep.getD ku 0 from rfl)
              rw [← EA.out] at hc0
              generalize atL keep ku = ka at *
              clear hcc hcs hv1 hv2 hv3 EA
              have hkp := keptN_pos h0 (Nat.le_of_lt hu)
              have HKP2 := Lib.hid hkp
              clear hkp
              go_wp2_with fail
              go_meet
              case rel => exact ⟨by rw [← HKP2.out], rfl⟩
            · have hz : keptN fb.size fs (atL keep ku) = 0 := by unfold keptN; rw [if_neg h0]
              have HZ := Lib.hid hz
              clear hz
              go_wp2_with fail
              go_meet
              case rel => exact ⟨by rw [HZ.out]; rfl, rfl⟩
          case rest =>
            obtain ⟨rfl, rfl⟩ := hcut
            have hM := keptN_le fb.size fs (atL keep ku)
            have HSL := Lib.hid (staysB_list fn fb fs (atL keep ku) (atL turn ku))
            have HTA := Lib.hid (show atL turn ku = turn.getD ku 0 from rfl)
            have HTO := Lib.hid (fun h : turn.length ≤ ku => atL_out (l := turn) h)
            generalize hS : staysB ⟨fn, fb, fs⟩ (atL keep ku) (atL turn ku) = S at *
            have HS := Lib.hid hS
            clear hS
            generalize atL turn ku = ta at *
            generalize keptN fb.size fs (atL keep ku) = M at *
            have hcv := fun (w : World) (s : ByteArray) => Lib.run_convert_string_bytes (P := Tryz.prog) w 9 98 5 s Tryz.underlying9 Tryz.underlying98 Tryz.underlying5
            go_upto_region 11 with fail
            have hmin : min (fs + M) fb.size = fs + M := by omega
            rw [hmin]
            have hlen0 : (fb.extract 0 (fs + M)).data.toList.length = fs + M := by simp; omega
            have hB2 := Below.bytes w1 5 (fb.extract 0 (fs + M))
            have BY0 := BytesAt.new w1 5 (fb.extract 0 (fs + M))
            have hz2 : w1.heap.size < (bytesWorld w1 5 (fb.extract 0 (fs + M))).heap.size := by rw [bytesWorld_size]; omega
            generalize bytesWorld w1 5 (fb.extract 0 (fs + M)) = w2 at *
            generalize grownCap w1 (fs + M) 0 5 = cb at *
            generalize (fb.extract 0 (fs + M)).data.toList = l0 at *
            have k2 : w2.cell? ⟨w.heap.size, 1, none⟩ = some (.slice tp tn tc) := by rw [hB2.cell (p := ⟨w.heap.size, 1, none⟩) (by show w.heap.size < _; omega)]; exact k1
            have y2 : w2.cell? ⟨wr.heap.size, 2, none⟩ = some (.int .i64 (fs : Int)) := by rw [hB2.cell (p := ⟨wr.heap.size, 2, none⟩) (by show wr.heap.size < _; omega)]; exact z2
            have HD2 := Lib.hid (HD1.out.below hB2)
            have HK2 := Lib.hid (HK1.out.step hB2)
            have HIT2 := Lib.hid (HIT.out.kept (Kp.of_below hB2))
            have HLEN := Lib.hid hlen0
            have HBY := Lib.hid BY0
            clear hcv hmin k0 k1 z0 z1 z2 hB2 hlen0 BY0 HIK HIT HD1 HK1
            go_cut [74] (fun v wc => v = .bool (decide (0 < ta) && decide (0 < M)) ∧ w2 = wc)
            case first =>
              by_cases hq : ku < tn
              · obtain ⟨p', c', hv, hl1, hcs⟩ := HIT2.out
                injection hv with hv1 hv2 hv3
                obtain ⟨g1, o1, hp, hgb1, hgm1, hcc⟩ := hcs.resolve_left (fun e => by rw [e] at hv2; simp at hv2; omega)
                have hc0 := hcc ku (by omega)
                rw [← hv1] at hp
                subst hp
                rw [← HTA.out] at hc0
                clear hcc hcs hv1 hv2 hv3
                by_cases h0 : 0 < ta
                · have E0 := Lib.hid (show decide (0 < ta) = true by simpa using h0)
                  go_wp2_with fail
                  go_meet
                  case rel => exact ⟨by rw [E0.out]; simp, rfl⟩
                · have E0 := Lib.hid (show decide (0 < ta) = false by simpa using h0)
                  go_wp2_with fail
                  go_meet
                  case rel => exact ⟨by rw [E0.out]; rfl, rfl⟩
              · have E0 := Lib.hid (show decide (0 < ta) = false by rw [HTO.out (by have := HTL.out; omega)]; rfl)
                go_wp2_with fail
                go_meet
                case rel => exact ⟨by rw [E0.out]; rfl, rfl⟩
            case rest =>
            obtain ⟨rfl, rfl⟩ := hcut
            have hsS : Hid (S.data.toList.length = fs + M) := Lib.hid (by rw [HSL.out]; split <;> simp [HLEN.out])
            go_upto_if 74 with fail
            go_cut [] (fun wc => BytesAt wc w1.heap.size S.data.toList ∧ Below w1.heap.size w2 wc)
            case first =>
              by_cases hc : 0 < ta ∧ 0 < M
              · have hSe : Hid (S.data.toList = l0.modify (fs + (ta / 256 % (M : Int)).toNat) fun c => c ^^^ UInt8.ofNat (ta % 256).toNat) := Lib.hid (by rw [HSL.out, if_pos hc])
                obtain ⟨ht0, hM0⟩ := hc
                have hq : ku < tn := by
                  have h1 := HTL.out
                  have h2 : ¬ turn.length ≤ ku := fun h => by have := HTO.out h; omega
                  omega
                have hX0 : 0 ≤ ta / 256 % (M : Int) := Int.emod_nonneg _ (by omega)
                have hX1 : ta / 256 % (M : Int) < M := Int.emod_lt_of_pos _ (by omega)
                obtain ⟨X, hX⟩ : ∃ X : Nat, ta / 256 % (M : Int) = (X : Int) := ⟨_, (Int.toNat_of_nonneg hX0).symm⟩
                rw [hX] at hX1
                have hXt : (ta.tdiv 256).tmod (M : Int) = (X : Int) := by
                  rw [Int.tdiv_eq_ediv_of_nonneg (by omega), Int.tmod_eq_emod_of_nonneg (by omega)]; exact hX
                have HX := Lib.hid hX
                have HXT := Lib.hid hXt
                have hdd : (decide (0 < ta) && decide (0 < M)) = true := by simp; omega
                have hlx : fs + X < l0.length := by rw [HLEN.out]; omega
                obtain ⟨hb, hbf⟩ := HBY.out (fs + X) hlx
                have HLX := Lib.hid hlx
                obtain ⟨p', c', hv, hl1, hcs⟩ := HIT2.out
                injection hv with hv1 hv2 hv3
                obtain ⟨g1, o1, hp, hgb1, hgm1, hcc⟩ := hcs.resolve_left (fun e => by rw [e] at hv2; simp at hv2; omega)
                have hc0 := hcc ku (by omega)
                rw [← hv1] at hp
                subst hp
                rw [← HTA.out] at hc0
                clear hcc hcs hv1 hv2 hv3 hX hXt hX0 hlx
                generalize hcb : l0.getD (fs + X) 0 = cb0 at *
                have HCB0 := Lib.hid hcb
                clear hcb
                have hMi : (0 : Int) < (M : Int) := by omega
                have hMn : ¬ M = 0 := by omega
                have hqi : (ku : Int) < (tn : Int) := by omega
                have hq0 : (0 : Int) ≤ (ku : Int) := by omega
                have hMb : ((M : Int) == 0) = false := by simp; omega
                rw [hdd]
                go_upto_region 12 with fail
                have hw1 := IntWalk.i64_in (ta.tdiv 256) (by rw [Int.tdiv_eq_ediv_of_nonneg (by omega)]; omega)
                have r1 : (IntKind.i64.wrap (ta.tdiv 256)).tmod (M : Int) = (X : Int) := by rw [hw1]; exact HXT.out
                have r2 := IntWalk.i64_in ((fs : Int) + (X : Int)) (by omega)
                clear hw1
                go_still_tail 11, (by kernel_rfl)
                change wpList _ _ _ _ _ w2.drew
                have hc2 : w2.drew.cell? ⟨g1, o1 + ku, none⟩ = some (.int .i64 ta) := hc0
                have hb2 : w2.drew.cell? ⟨w1.heap.size, fs + X, none⟩ = some (.int .u8 (cb0.toNat : Int)) := hb
                have hbf2 : w2.drew.frozen? ⟨w1.heap.size, fs + X, none⟩ = false := hbf
                have k3 : w2.drew.cell? ⟨w.heap.size, 1, none⟩ = some (.slice (some ⟨g1, o1, none⟩) tn tc) := k2
                have HBY3 := Lib.hid (HBY.out.of_block (w' := w2.drew) rfl)
                have HBL3 := Lib.hid ((Below.refl w1.heap.size w2).drew)
                clear r1 r2 hc0 hb hbf k2 y2
                generalize w2.drew = w3 at *
                go_upto_region 13 with fail
                have r3 : ((fs : Int) + (X : Int)).toNat = fs + X := by omega
                have r4 : (0 : Int) ≤ (fs : Int) + (X : Int) := by omega
                have r5 : (fs : Int) + (X : Int) < ((fs + M : Nat) : Int) := by omega
                go_still_tail 15, (by kernel_rfl)
                change wpList _ _ _ _ _ w3.drew
                have hbf4 : w3.drew.frozen? ⟨w1.heap.size, fs + X, none⟩ = false := hbf2
                have hb4 : w3.drew.cell? ⟨w1.heap.size, fs + X, none⟩ = some (.int .u8 (cb0.toNat : Int)) := hb2
                have HBY4 := Lib.hid (HBY3.out.of_block (w' := w3.drew) rfl)
                have HBL4 := Lib.hid (HBL3.out.drew)
                clear hc2 hb2 hbf2 k3
                generalize w3.drew = w4 at *
                go_wp2_with fail
                go_meet
                case rel =>
                  refine ⟨?_, HBL4.out.setCell (p := ⟨w1.heap.size, fs + X, none⟩) (Nat.le_refl _) _⟩
                  have h9 := HBY4.out.set HLX.out (cb0 ^^^ UInt8.ofNat (ta % 256).toNat)
                  rw [hSe.out, HX.out, Int.toNat_natCast]
                  rw [show (bits BinOp.xor IntKind.u8 (cb0.toNat : Int) (ta % 256)) = ((cb0 ^^^ UInt8.ofNat (ta % 256).toNat).toNat : Int) from xor_u8 cb0 (ta % 256) (by omega) (by omega)]
                  have he : l0.modify (fs + X) (fun c => c ^^^ UInt8.ofNat (ta % 256).toNat) = l0.set (fs + X) (cb0 ^^^ UInt8.ofNat (ta % 256).toNat) := by
                    rw [← HCB0.out]
                    refine List.ext_getElem? fun j => ?_
                    rw [List.getElem?_modify, List.getElem?_set]
                    by_cases hj : fs + X = j
                    · subst hj
                      simp [List.getD_eq_getElem?_getD, HLX.out]
                    · simp [hj]
                  rw [he]
                  exact h9
              · have hSe : Hid (S.data.toList = l0) := Lib.hid (by rw [HSL.out, if_neg hc])
                have hdd : (decide (0 < ta) && decide (0 < M)) = false := by
                    rw [Bool.and_eq_false_iff]; simp only [decide_eq_false_iff_not]; omega
                clear hc
                rw [hdd]
                go_wp2_with fail
                go_meet
                case rel => exact ⟨by rw [hSe.out]; exact HBY.out, Below.refl _ _⟩
            case rest =>
              obtain ⟨hby, hbl⟩ := hcut
              have hd3 := HD2.out.of (hbl.block b (by omega)) (hbl.block g (by omega))
              have HK3 := Lib.hid (Kp.belowNew HK2.out hbl (by omega)).drew
              obtain ⟨c3, x3, hgb3, a0, a1, a2, e1, e2⟩ := hd3.file (i := i) (f := ⟨fn, fb, fs⟩) HGET.out
              have hcl : ({ d with L := crashP keep turn d.L i } : Dk).L.length = n := by show (crashP keep turn d.L i).length = n; rw [crashP_len]; exact HN.out
              rw [hcl] at x3
              have hconv := (hby.of_block (w' := wc.drew) rfl).back (fs + M) cb hsS.out
              have hSS : (⟨S.data.toList.toArray⟩ : ByteArray) = S := by simp
              rw [hSS] at hconv
              have HD4 := Lib.hid (RAt.set_bytes (RAt.drew hd3) (i := i) (f := ⟨fn, fb, fs⟩) HGET.out S)
              have hli : (i : Int) < (n : Int) := by omega
              have hi0 : (0 : Int) ≤ (i : Int) := by omega
              simp only at a1
              clear hd3 hby hbl a0 a2 e2 hcl hSS k2 y2
              go_upto_region 14 with fail
              go_still_tail 9, (by kernel_rfl)
              change wpList _ _ _ _ _ wc.drew
              have b1 : wc.drew.cell? ⟨g, i * 3 + 1, none⟩ = some (.string fb) := a1
              have f1 : wc.drew.frozen? ⟨g, i * 3 + 1, none⟩ = false := e1
              clear x3 a1 e1
              generalize wc.drew = w4 at *
              go_wp2_with fail
              go_meet
              case rel => exact ⟨by rw [if_pos HU.out]; go_num, by rw [if_pos HU.out]; exact HD4.out, HK3.out.set2 _ _⟩
        · have hu2 : ¬ (0 : Int) < (fb.size : Int) - (fs : Int) := by omega
          have HU := Lib.hid hu
          have HSET := Lib.hid (List.set_getElem?_self' HGET.out)
          clear hu
          go_wp2_with fail
          go_meet
          case rel => exact ⟨by rw [if_neg HU.out]; rfl, by rw [if_neg HU.out, HSET.out]; exact HD1.out, HK1.out⟩
      case rest =>
        obtain ⟨rfl, hd3, hk3⟩ := hcut
        have hil : i < (crashP keep turn d.L i).length := (List.getElem?_eq_some_iff.1 HGET.out).1
        generalize hS' : (if fs < fb.size then staysB ⟨fn, fb, fs⟩ (atL keep ku) (atL turn ku) else fb) = S' at *
        have hget3 : ((crashP keep turn d.L i).set i ⟨fn, S', fs⟩)[i]? = some ⟨fn, S', fs⟩ := by rw [List.getElem?_set_self hil]
        obtain ⟨c3, x3, hgb3, a0, a1, a2, e1, e2⟩ := hd3.file (i := i) (f := ⟨fn, S', fs⟩) hget3
        have hcl : ({ d with L := (crashP keep turn d.L i).set i ⟨fn, S', fs⟩ } : Dk).L.length = n := by show ((crashP keep turn d.L i).set i ⟨fn, S', fs⟩).length = n; rw [List.length_set, crashP_len]; exact HN.out
        rw [hcl] at x3
        simp only at a1 a2
        have HD4 := Lib.hid (RAt.set_safe (RAt.drew hd3) (i := i) (f := ⟨fn, S', fs⟩) hget3 S'.size)
        have HK4 := Lib.hid hk3.drew
        have HC1 : Hid (crash1 keep turn ku ⟨fn, fb, fs⟩ = ⟨fn, S', S'.size⟩) := Lib.hid (by
          unfold crash1
          by_cases hu : fs < fb.size
          · rw [if_pos hu] at hS' ⊢; rw [hS']
          · rw [if_neg hu] at hS' ⊢; rw [hS'])
        have hli : (i : Int) < (n : Int) := by omega
        have hi0 : (0 : Int) ≤ (i : Int) := by omega
        clear hd3 hk3 a0 e1 hS' hget3 hcl hil
        go_upto_region 16 with fail
        go_still_tail 16, (by kernel_rfl)
        change wpList _ _ _ _ _ wc.drew
        have b2 : wc.drew.cell? ⟨g, i * 3 + 2, none⟩ = some (.int .i64 (fs : Int)) := a2
        have f2 : wc.drew.frozen? ⟨g, i * 3 + 2, none⟩ = false := e2
        clear x3 a1 a2 e2 k0 k1
        generalize wc.drew = w4 at *
        go_wp2_with fail
        go_roundw
        case rel =>
          refine ⟨i + 1, by omega, by go_num, by rw [HUN.out]; rfl, ?_, HK4.out.set2 _ _⟩
          have h9 := HD4.out
          rw [List.set_set] at h9
          rw [← HSTEP.out, HC1.out]
          exact h9
        case measure => simp [intOf]; omega
    · obtain rfl : i = n := by omega
      obtain ⟨lv, hc, hr⟩ := HD.out
      have c3 := hc.c3
      have c2 := hc.c2
      have f3 := hc.f3
      have f2 := hc.f2
      have HC := Lib.hid hc
      have HR := Lib.hid hr
      have HALL := Lib.hid (show crashP keep turn d.L i = crashL keep turn 0 d.L by rw [← HN.out]; exact crashP_all keep turn d.L)
      clear hc hr
      go_wp2_with fail
      go_end0
      refine ⟨rfl, ROut.same ?_ (((Kp.of_below HB0.out).trans HKP.out).setCell 3 _ |>.setCell 2 _)⟩
      have h9 := (HC.out.set3 false).set2 (-1)
      refine ⟨lv, h9, ?_⟩
      have hr := HR.out
      simp only [HALL.out] at hr
      exact (hr.of (w' := wr.setCell ⟨b, 3, none⟩ (.bool false)) fun hgb => Below.heap_setCell _ _ _ _ hgb).of fun hgb => Below.heap_setCell _ _ _ _ hgb
end Go.Proofs.YtnpgjlhnlakgpaaGreatDoor
