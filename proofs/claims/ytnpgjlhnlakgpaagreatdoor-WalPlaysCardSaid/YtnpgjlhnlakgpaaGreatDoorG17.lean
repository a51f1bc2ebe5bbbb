/- The document's log: First, Next, Safe, last. The document's log: Sync. The document's log: Trim. The document's log: Read; and the number of a name. -/
import Derived.Test.YtnpgjlhnlakgpaaGreatDoorG16
import Derived.Test.YtnpgjlhnlakgpaaGreatDoorG08
import Derived.Deep.RegionHeld3
import Derived.Test.YtnpgjlhnlakgpaaGreatDoorG13
namespace Go.Proofs.YtnpgjlhnlakgpaaGreatDoor
open Go.RowKit Go.Maps

/-- The document's log's numbers are within bounds. -/
structure Rg.Ok (r : Rg) : Prop where
  nz : r.nums ≠ []
  bd : ∀ n ∈ r.nums, 0 < n ∧ n < 1000000000000
  next : r.next ≤ 1000000000000
  last : r.last ≤ 1000000000000
  seg : 1 ≤ r.seg ∧ r.seg ≤ 65536
  all : r.all.length ≤ 1000000000000
theorem Rg.Ok.head {r : Rg} (h : r.Ok) : r.nums[0]? = some r.first ∧ 0 < r.first ∧ r.first < 1000000000000 ∧ 0 < r.nums.length := by
  have h1 := h.nz
  have h2 := h.bd
  unfold Rg.first
  cases hn : r.nums with
  | nil => exact absurd hn h1
  | cons a t =>
    rw [hn] at h2
    exact ⟨rfl, (h2 a (by simp)).1, (h2 a (by simp)).2, by simp⟩
theorem Rg.Ok.lst {r : Rg} (h : r.Ok) : r.nums[r.nums.length - 1]? = some r.lastN ∧ 0 < r.lastN ∧ r.lastN < 1000000000000 := by
  have h1 := h.nz
  have h2 := h.bd
  unfold Rg.lastN
  have e : r.nums.getLastD 0 = r.nums.getLast h1 := by rw [List.getLastD_eq_getLast?, List.getLast?_eq_some_getLast h1]; rfl
  rw [e]
  refine ⟨?_, h2 _ (List.getLast_mem h1)⟩
  rw [← List.getLast?_eq_getElem?, List.getLast?_eq_some_getLast h1]

section
variable {w : World} {B mb rb g ga : Nat} {r : Rg}
set_option maxHeartbeats 2000000 in
theorem rfirst_any (h : RgW w B mb rb g ga r) (ho : r.Ok) : Calls Tryz.prog 39 #[.pointer (some ⟨mb, 0, none⟩)] w fun e w' => e = .returned (.int .i64 (r.first : Int)) ∧ w' = w := by
  obtain ⟨o, cap, c2, hn⟩ := h.c2
  obtain ⟨h0, _, _, hz⟩ := ho.head
  have n0 := hn.cell h0
  rw [Nat.add_zero] at n0
  obtain ⟨n, hnn⟩ : ∃ n, r.nums.length = n := ⟨_, rfl⟩
  rw [hnn] at c2 hz
  obtain ⟨F, hF⟩ : ∃ F, r.first = F := ⟨_, rfl⟩
  rw [hF] at n0 ⊢
  have hzi : (0 : Int) < (n : Int) := by omega
  clear h hn h0 hnn hF ho
  go_enter Tryz.func39, Tryz.ntmps39
  go_wp2_with fail
  go_ret
  exact ⟨rfl, rfl⟩
set_option maxHeartbeats 2000000 in
theorem rnext_any (h : RgW w B mb rb g ga r) (ho : r.Ok) : Calls Tryz.prog 40 #[.pointer (some ⟨mb, 0, none⟩)] w fun e w' => e = .returned (.int .i64 (r.next : Int)) ∧ Below w.heap.size w w' := by
  obtain ⟨o, cap, c2, hn⟩ := h.c2
  obtain ⟨h0, hf0, hf1, hz⟩ := ho.head
  have n0 := hn.cell h0
  rw [Nat.add_zero] at n0
  obtain ⟨v, c3, ha⟩ := h.c3
  obtain ⟨p, ca, rfl, _, _⟩ := ha.slice
  obtain ⟨n, hnn⟩ : ∃ n, r.nums.length = n := ⟨_, rfl⟩
  rw [hnn] at c2 hz
  have hal := ho.all
  obtain ⟨F, hF⟩ : ∃ F, r.first = F := ⟨_, rfl⟩
  obtain ⟨k, hk⟩ : ∃ k, r.all.length = k := ⟨_, rfl⟩
  have hN : (r.next : Int) = (F : Int) + (k : Int) := by unfold Rg.next; rw [hF, hk]; omega
  rw [hF] at n0 hf1
  rw [hk] at c3 hal
  rw [hN]
  have hzi : (0 : Int) < (n : Int) := by omega
  have q1 : IntKind.i64.wrap ((F : Int) + (k : Int)) = (F : Int) + (k : Int) := by rw [IntKind.wrap_i64]; omega
  clear h hn h0 hnn hF hk ho ha hN hf0 hf1 hal
  go_enter Tryz.func40, Tryz.ntmps40
  go_upto_region 1 with fail
  go_quiet (fail)
  go_wp2_with fail
  go_ret
  exact ⟨rfl, drN' (Below.refl _ _) _⟩
theorem RgW.below' {w' : World} (h : RgW w B mb rb g ga r) (hb : Below w.heap.size w w') : RgW w' B mb rb g ga r := by
  obtain ⟨h1, h2, h3⟩ := h.lt
  exact h.of (hb.block _ h1) (hb.block _ h2) (hb.block _ h3) hb.size
set_option maxHeartbeats 4000000 in
theorem rlast_any (h : RgW w B mb rb g ga r) (ho : r.Ok) : Calls Tryz.prog 57 #[.pointer (some ⟨mb, 0, none⟩)] w fun e w' => e = .returned (.string (nameN r.lastN)) ∧ Below w.heap.size w w' := by
  have hgn := GW.ne (Inv := fun W => Below w.heap.size w W) (Below.refl _ w)
  obtain ⟨o, cap, c2', hn⟩ := h.c2
  obtain ⟨h0, h1, h2⟩ := ho.lst
  obtain ⟨_, _, _, hz⟩ := ho.head
  have n0' := hn.cell h0
  have hlb := h.lt
  have hm := hn.le
  have hm2 := hn.max
  have c2 : ∀ u : GW (fun W => Below w.heap.size w W), u.w.cell? ⟨mb, 2, none⟩ = some (.slice (some ⟨g, o, none⟩) r.nums.length cap) := fun u => (u.h.cell (p := ⟨mb, 2, none⟩) hlb.1).trans c2'
  have n0 : ∀ u : GW (fun W => Below w.heap.size w W), u.w.cell? ⟨g, o + (r.nums.length - 1), none⟩ = some (.int .i64 (r.lastN : Int)) := fun u => (u.h.cell (p := ⟨g, o + (r.nums.length - 1), none⟩) hlb.2.1).trans n0'
  have NM : Hid (∀ u : GW (fun W => Below w.heap.size w W), Calls Tryz.prog 55 #[.int .i64 (r.lastN : Int)] u.w fun e w' => e = .returned (.string (nameN r.lastN)) ∧ Below u.w.heap.size u.w w') := fun u => rname_any r.lastN (by omega) u.w
  obtain ⟨S, hS⟩ : ∃ S, nameN r.lastN = S := ⟨_, rfl⟩
  rw [hS] at NM ⊢
  obtain ⟨n, hnn⟩ : ∃ n, r.nums.length = n + 1 := ⟨r.nums.length - 1, by omega⟩
  rw [hnn] at c2
  rw [show r.nums.length - 1 = n by omega] at n0
  rw [hnn] at hm
  unfold maxLen at hm2
  obtain ⟨F, hF⟩ : ∃ F, r.lastN = F := ⟨_, rfl⟩
  rw [hF] at n0 NM
  have q1 : IntKind.i64.wrap (((n + 1 : Nat) : Int) - 1) = (n : Int) := by rw [IntKind.wrap_i64]; omega
  have q2 : (n : Int) < ((n + 1 : Nat) : Int) := by omega
  have q3 : (0 : Int) ≤ (n : Int) := by omega
  clear h hn h0 hnn hF ho hS c2' n0' hlb hz h1 h2
  go_enter Tryz.func57, Tryz.ntmps57
  go_wp2_with fail
  refine wp_region_grow (fun W => Below w.heap.size w W) (by kernel_rfl) (by kernel_rfl) (Below.refl _ _).drew ?_
  repeat (go_big_quiet_step ((go_at_call 55; refine (NM.out _).mono ?_; rintro e w1 ⟨rfl, hb⟩; exact ⟨rfl, below_next _ hb⟩)))
  refine wpQuiet_nil ?_
  intro w4 hw'
  obtain ⟨⟨wx, h4⟩, hw''⟩ := hw'
  subst hw''
  go_wp2_with fail
  go_ret
  exact ⟨rfl, h4⟩
set_option maxHeartbeats 4000000 in
theorem rsafe_any (h : RgW w B mb rb g ga r) (ho : r.Ok) : Calls Tryz.prog 41 #[.pointer (some ⟨mb, 0, none⟩)] w fun e w' => e = .returned (.int .i64 (max r.last (r.first - 1) : Nat)) ∧ Below w.heap.size w w' := by
  have hgn := GW.ne (Inv := fun W => Below w.heap.size w W) (Below.refl _ w)
  have c5 : ∀ u : GW (fun W => Below w.heap.size w W), u.w.cell? ⟨mb, 4, none⟩ = some (.int .i64 (r.last : Int)) := fun u => (h.below' u.h).c4
  obtain ⟨_, hf0, hf1, _⟩ := ho.head
  have NM : Hid (∀ u : GW (fun W => Below w.heap.size w W), Calls Tryz.prog 39 #[.pointer (some ⟨mb, 0, none⟩)] u.w fun e w' => e = .returned (.int .i64 (r.first : Int)) ∧ Below u.w.heap.size u.w w') := fun u => (rfirst_any (h.below' u.h) ho).mono fun e w' ⟨h1, h2⟩ => ⟨h1, by rw [h2]; exact Below.refl _ _⟩
  have HT : Hid (((max r.last (r.first - 1) : Nat) : Int) = max (r.last : Int) ((r.first : Int) - 1)) := by show _ = _; omega
  obtain ⟨S, hS⟩ : ∃ S : Int, (r.last : Int) = S := ⟨_, rfl⟩
  obtain ⟨F, hF⟩ : ∃ F : Int, (r.first : Int) = F := ⟨_, rfl⟩
  obtain ⟨T, hT⟩ : ∃ T : Int, ((max r.last (r.first - 1) : Nat) : Int) = T := ⟨_, rfl⟩
  have q1 : IntKind.i64.wrap (F - 1) = F - 1 := by rw [IntKind.wrap_i64]; omega
  rw [hS] at c5
  rw [hF] at NM
  rw [hS, hF, hT] at HT
  rw [hT]
  clear h ho hf0 hf1 hS hF hT
  go_enter Tryz.func41, Tryz.ntmps41
  go_wp2_with fail
  refine wp_region_grow (fun W => Below w.heap.size w W) (by kernel_rfl) (by kernel_rfl) (Below.refl _ _).drew ?_
  repeat (go_big_quiet_step ((go_at_call 39; refine (NM.out _).mono ?_; rintro e w1 ⟨rfl, hb⟩; exact ⟨rfl, below_next _ hb⟩)))
  refine wpQuiet_nil ?_
  intro w4 hw'
  obtain ⟨⟨wx, h4⟩, hw''⟩ := hw'
  subst hw''
  go_wp2_with fail
  go_ret
  exact ⟨by rw [HT.out]; rfl, h4⟩
end
end Go.Proofs.YtnpgjlhnlakgpaaGreatDoor
namespace Go.Proofs.YtnpgjlhnlakgpaaGreatDoor
open Go.RowKit Go.Maps

theorem RgS.cellL {w w' : World} {B mb rb rg g ga : Nat} {r : Rg} {d : Dk} (h : RgS w B mb rb rg g ga r d) (hk : Kp rb rg w w') (j : Nat) : w'.cell? ⟨mb, j, none⟩ = w.cell? ⟨mb, j, none⟩ := hk.cell h.lt.1 h.ne.1 h.ne.2.1 j
set_option maxRecDepth 100000 in
set_option maxHeartbeats 8000000 in
theorem rsync_gen {w : World} {B mb rb rg g ga : Nat} {r : Rg} {d : Dk} (h : RgS w B mb rb rg g ga r d) (ho : r.Ok) (hok : d.Ok) (hs : d.steps < 4611686018427387904) :
    Calls Tryz.prog 33 #[.pointer (some ⟨mb, 0, none⟩)] w fun e w' => e = .returned (.int .i64 (rsyncW d r).1) ∧ RgOut w w' B mb rb rg g ga (rsyncW d r).2.2 (rsyncW d r).2.1 := by
  have HLA := Lib.hid (fun wx (h : RgW wx B mb rb g ga r) => rlast_any h ho)
  have HNX := Lib.hid (fun wx (h : RgW wx B mb rb g ga r) => rnext_any h ho)
  have HP := Lib.hid (show ∀ wx, RAt wx rb rg d → Calls Tryz.prog 59 #[.pointer (some ⟨rb, 0, none⟩), .string (nameN r.lastN)] wx fun e w' => e = .returned (.int .i64 (d.sync (nameN r.lastN)).1) ∧ ROut wx w' rb rg (d.sync (nameN r.lastN)).2 from fun wx h => ref_sync h hok hs _)
  have HS0 := Lib.hid h.drew
  have c0 := h.L.c0
  have hlt := h.lt.1
  have hn1 : 1 ≤ r.next := by have := ho.head; unfold Rg.next; omega
  have hn2 := ho.next
  have hww : IntKind.i64.wrap ((r.next : Int) - 1) = ((r.next - 1 : Nat) : Int) := by rw [IntKind.wrap_i64]; omega
  have HK0 := Lib.hid (KR.of_below (mb := mb) (rb := rb) (rg := rg) (g := g) (ga := ga) (Below.refl w.heap.size w).drew)
  unfold rsyncW
  obtain ⟨S, hS⟩ : ∃ S, nameN r.lastN = S := ⟨_, rfl⟩
  rw [hS] at HLA HP ⊢
  obtain ⟨D2, hD2⟩ : ∃ D2, (d.sync S).2 = D2 := ⟨_, rfl⟩
  obtain ⟨E, hE⟩ : ∃ E, (d.sync S).1 = E := ⟨_, rfl⟩
  simp only [hD2, hE] at HP ⊢
  obtain ⟨N1, hN1⟩ : ∃ N1, r.next - 1 = N1 := ⟨_, rfl⟩
  rw [hN1] at hww ⊢
  obtain ⟨NX, hNX⟩ : ∃ NX : Int, (r.next : Int) = NX := ⟨_, rfl⟩
  rw [hNX] at hww HNX
  clear h hok hs hS hD2 hE ho hn1 hn2 hN1 hNX
  by_cases hE0 : E = 0
  · subst hE0
    simp only [if_true]
    go_enter Tryz.func33, Tryz.ntmps33
    go_upto_region 1 with fail
    go_region_held3 (fun w' => ∀ j, w'.cell? ⟨mb, j, none⟩ = w.cell? ⟨mb, j, none⟩) ((first | assumption | (intro j; rfl)))
      (first
        | (go_at_call 57; (with_reducible refine (HLA.out _ HS0.out.L).mono ?_); rintro e w5 ⟨rfl, hb5⟩; have k5 : ∀ j, w5.cell? ⟨mb, j, none⟩ = w.cell? ⟨mb, j, none⟩ := fun j => (hb5.cell (p := ⟨mb, j, none⟩) hlt).trans rfl; have HS5 := Lib.hid (HS0.out.below hb5); have HK5 := Lib.hid (HK0.out.below hb5); clear hb5)
        | (go_at_call 59; (with_reducible refine (HP.out _ HS5.out.D).mono ?_); rintro e w6 ⟨rfl, ho6⟩; have k6 : ∀ j, w6.cell? ⟨mb, j, none⟩ = w.cell? ⟨mb, j, none⟩ := fun j => (HS5.out.cellL ho6.2 j).trans (k5 j); have HO6 := Lib.hid (HS5.out.rout ho6); clear ho6))
    obtain ⟨rg6, hs6, hg6, hk6⟩ := HO6.out
    have HS6 := Lib.hid hs6
    have HR : Hid (∀ W, Below w6.heap.size w6 W → RgOut w (W.setCell ⟨mb, 4, none⟩ (.int .i64 (N1 : Int))) B mb rb rg g ga { r with last := N1 } D2) := fun W hb =>
      ⟨rg6, g, ga, (hs6.below hb).setlast N1, ((HK5.out.trans hk6 (.inl rfl) (.inl rfl) (.inl rfl)).below hb).set _ _, hg6.imp id (fun h => h.imp id (fun h => Nat.le_trans HK5.out.size h)), .inl rfl, .inl rfl⟩
    clear hs6 hg6 hk6 HO6
    go_wp2_with (first
      | (go_at_call 40; (with_reducible refine (HNX.out _ HS6.out.L).mono ?_); rintro e w7 ⟨rfl, hb7⟩; have f4 := (HS6.out.below hb7).L.f4; have c4 := (HS6.out.below hb7).L.c4; have HB7 := Lib.hid hb7; clear hb7)
      | fail)
    go_ret
    exact ⟨rfl, HR.out _ HB7.out⟩
  · have hEb : (E == 0) = false := by simpa using hE0
    simp only [if_neg hE0]
    go_enter Tryz.func33, Tryz.ntmps33
    go_upto_region 1 with fail
    go_region_held3 (fun w' => ∀ j, w'.cell? ⟨mb, j, none⟩ = w.cell? ⟨mb, j, none⟩) ((first | assumption | (intro j; rfl)))
      (first
        | (go_at_call 57; (with_reducible refine (HLA.out _ HS0.out.L).mono ?_); rintro e w5 ⟨rfl, hb5⟩; have k5 : ∀ j, w5.cell? ⟨mb, j, none⟩ = w.cell? ⟨mb, j, none⟩ := fun j => (hb5.cell (p := ⟨mb, j, none⟩) hlt).trans rfl; have HS5 := Lib.hid (HS0.out.below hb5); have HK5 := Lib.hid (HK0.out.below hb5); clear hb5)
        | (go_at_call 59; (with_reducible refine (HP.out _ HS5.out.D).mono ?_); rintro e w6 ⟨rfl, ho6⟩; have k6 : ∀ j, w6.cell? ⟨mb, j, none⟩ = w.cell? ⟨mb, j, none⟩ := fun j => (HS5.out.cellL ho6.2 j).trans (k5 j); have HO6 := Lib.hid (HS5.out.rout ho6); clear ho6))
    obtain ⟨rg6, hs6, hg6, hk6⟩ := HO6.out
    have HR : Hid (RgOut w w6 B mb rb rg g ga r D2) := ⟨rg6, g, ga, hs6, HK5.out.trans hk6 (.inl rfl) (.inl rfl) (.inl rfl), hg6.imp id (fun h => h.imp id (fun h => Nat.le_trans HK5.out.size h)), .inl rfl, .inl rfl⟩
    clear hs6 hg6 hk6 HO6
    go_wp2_with fail
    go_ret
    exact ⟨rfl, HR.out⟩
end Go.Proofs.YtnpgjlhnlakgpaaGreatDoor
namespace Go.Proofs.YtnpgjlhnlakgpaaGreatDoor
open Go.RowKit Go.Maps

/-- Every segment's records are among the texts. -/
def TrimOk : List Nat → List (List UInt8) → Prop
  | a :: b :: t, all => a < b ∧ b - a ≤ all.length ∧ TrimOk (b :: t) (all.drop (b - a))
  | _, _ => True
theorem trimOk_of : ∀ (init : List (List (List UInt8))) (a : Nat) (lst : List (List UInt8)), (∀ rs ∈ init, 1 ≤ rs.length) → TrimOk (numsOf a init ++ [a + init.flatten.length]) (init.flatten ++ lst)
  | [], a, lst, _ => trivial
  | rs :: t, a, lst, h => by
    obtain ⟨rest, f1, f2⟩ := nums_two a rs t _ rfl
    have h1 := h rs (by simp)
    have hq : a + (rs :: t).flatten.length = a + rs.length + t.flatten.length := by simp [Nat.add_assoc]
    rw [f1]
    refine ⟨by omega, by rw [List.flatten_cons, List.length_append, List.length_append]; omega, ?_⟩
    rw [← f2, hq, List.flatten_cons, List.append_assoc, show a + rs.length - a = rs.length by omega, List.drop_left]
    exact trimOk_of t (a + rs.length) lst (fun q hq => h q (by simp [hq]))
theorem Pin.trimOk {d : Dk} {l : Lg} {r : Rg} {a : Nat} {init : List (List (List UInt8))} {lst : List (List UInt8)} (h : Pin d l r a init lst) : TrimOk r.nums r.all := by
  rw [h.rnums, h.nums, h.all]
  exact trimOk_of init a lst h.pos
theorem remove_stQ (d : Dk) (nm : ByteArray) : (d.remove nm).2.steps ≤ d.steps + 1 := by
  unfold Dk.remove
  split
  · show d.steps ≤ _; omega
  · split
    · show d.steps ≤ _; omega
    · unfold Dk.act
      split
      · show d.steps ≤ _; omega
      · show d.steps + 1 ≤ _; omega
/-- How many numbers the document's log has. -/
def rlenAt (w : World) (mb : Nat) : Nat := match w.cell? ⟨mb, 2, none⟩ with
  | some (.slice _ n _) => n
  | _ => 0
theorem RgW.lenAt {w : World} {B mb rb g ga : Nat} {r : Rg} (h : RgW w B mb rb g ga r) : rlenAt w mb = r.nums.length := by
  obtain ⟨o, cap, hc, _⟩ := h.c2
  unfold rlenAt
  rw [hc]
theorem AllW.dropped {w : World} {mb ga : Nat} {p : Option Addr} {n cap : Nat} {L : List (List UInt8)} (h : AllW w mb ga (.slice p n cap) L) {k : Nat} (hk : k ≤ L.length) (h1 : 0 < L.length) :
    ∃ o, p = some ⟨ga, o, none⟩ ∧ n = L.length ∧ n ≤ cap ∧ (cap = k → AllW w mb ga (.slice (some ⟨ga, o, none⟩) (n - k) (cap - k)) (L.drop k)) ∧ (cap ≠ k → AllW w mb ga (.slice (some ⟨ga, o + k, none⟩) (n - k) (cap - k)) (L.drop k)) := by
  rcases h with ⟨_, h2, _⟩ | ⟨hne, o, cap2, hv, hS⟩
  · rw [h2] at h1; simp at h1
  · injection hv with e1 e2 e3
    subst e1 e2 e3
    have hl := hS.le
    refine ⟨o, rfl, rfl, hl, fun e => ?_, fun _ => .inr ⟨hne, o + k, cap - k, by rw [List.length_drop], hS.drop k hk⟩⟩
    have e0 : L.drop k = [] := List.drop_eq_nil_of_le (by omega)
    refine .inr ⟨hne, o, cap - k, by rw [List.length_drop], ?_⟩
    rw [e0]
    exact ⟨hS.blk, fun i s hi => by simp at hi, fun i hi => by omega, by simp, by have := hS.max; omega⟩
theorem RgOut.step {w wr W : World} {B mb rb rg g ga rg1 g1 ga1 rg6 g6 ga6 : Nat} {r' : Rg} {d' : Dk} (hK : KR mb rb rg g ga w wr) (h1 : rg1 = rg ∨ rg1 = rb ∨ w.heap.size ≤ rg1) (h2 : g1 = g ∨ w.heap.size ≤ g1) (h3 : ga1 = ga ∨ w.heap.size ≤ ga1)
    (h : RgS W B mb rb rg6 g6 ga6 r' d') (hk : KR mb rb rg1 g1 ga1 wr W) (h6 : rg6 = rg1 ∨ rg6 = rb ∨ wr.heap.size ≤ rg6) (h7 : g6 = g1 ∨ wr.heap.size ≤ g6) (h8 : ga6 = ga1 ∨ wr.heap.size ≤ ga6) : RgOut w W B mb rb rg g ga r' d' := by
  have hz := hK.size
  refine ⟨rg6, g6, ga6, h, hK.trans hk h1 h2 h3, ?_, ?_, ?_⟩
  · rcases h6 with rfl | rfl | h6
    · exact h1
    · exact .inr (.inl rfl)
    · exact .inr (.inr (by omega))
  · rcases h7 with rfl | h7
    · exact h2
    · exact .inr (by omega)
  · rcases h8 with rfl | h8
    · exact h3
    · exact .inr (by omega)
set_option maxRecDepth 100000 in
set_option maxHeartbeats 16000000 in
theorem rtrim_gen {w : World} {B mb rb rg g ga : Nat} {r : Rg} {d : Dk} (h : RgS w B mb rb rg g ga r d) (ho : r.Ok) (hok : d.Ok) (hs : d.steps + r.nums.length < 4611686018427387904) (ht : TrimOk r.nums r.all) (n : Int) :
    Calls Tryz.prog 35 #[.pointer (some ⟨mb, 0, none⟩), .int .i64 n] w fun e w' => e = .returned (.int .i64 (rtrimW d r n).1) ∧ RgOut w w' B mb rb rg g ga (rtrimW d r n).2.2 (rtrimW d r n).2.1 := by
  have hbb := h.L.bel
  unfold rtrimW
  obtain ⟨R, hR⟩ : ∃ R, rtrimN n d r.nums r.all = R := ⟨_, rfl⟩
  rw [hR]
  have hal := ho.all
  have H0 : Hid (∃ (d' : Dk) (nums' : List Nat) (all' : List (List UInt8)), rtrimN n d' nums' all' = R ∧ RgOut w w B mb rb rg g ga { r with nums := nums', all := all' } d' ∧ nums' ≠ [] ∧ (∀ x ∈ nums', 0 < x ∧ x < 1000000000000) ∧ all'.length ≤ 1000000000000 ∧ TrimOk nums' all' ∧ d'.Ok ∧ d'.steps + nums'.length < 4611686018427387904) :=
    ⟨d, r.nums, r.all, hR, RgOut.same h (KR.refl _ _ _ _ _ _), ho.nz, ho.bd, hal, ht, hok, hs⟩
  clear hR h ho hok hs ht hal
  go_enter Tryz.func35, Tryz.ntmps35
  go_wp2_with fail
  go_loopw [] (fun wr => ∃ (d' : Dk) (nums' : List Nat) (all' : List (List UInt8)), rtrimN n d' nums' all' = R ∧ RgOut w wr B mb rb rg g ga { r with nums := nums', all := all' } d' ∧ nums' ≠ [] ∧ (∀ x ∈ nums', 0 < x ∧ x < 1000000000000) ∧ all'.length ≤ 1000000000000 ∧ TrimOk nums' all' ∧ d'.Ok ∧ d'.steps + nums'.length < 4611686018427387904) (fun wr => rlenAt wr mb)
  case atStart => exact H0.out
  case round =>
    obtain ⟨d', nums', all', hT, hO, hnz, hbd, hal, htr, hDo, hst⟩ := hrel
    have HO := Lib.hid hO
    obtain ⟨rg1, g1, ga1, hS, hK, hg1, hg2, hg3⟩ := hO
    have hlt := hS.lt
    match nums', hnz with
    | [], hnz => exact absurd rfl hnz
    | [a], _ =>
      obtain ⟨o, cap, c2, _⟩ := hS.L.c2
      have hT' : R = (0, d', [a], all') := hT.symm
      subst hT'
      simp only [List.length_singleton] at c2
      clear hS hT hK hbd htr
      go_wp2_with fail
      go_ret
      exact ⟨rfl, HO.out⟩
    | a :: b :: t, _ =>
      obtain ⟨o, cap, c2, hnm⟩ := hS.L.c2
      have n0 := hnm.cell (i := 0) (n := a) rfl
      have n1 := hnm.cell (i := 1) (n := b) rfl
      have hle := hnm.le
      have hmx := hnm.max
      rw [Nat.add_zero] at n0
      obtain ⟨ha0, ha1⟩ := hbd a (by simp)
      obtain ⟨hb0, hb1⟩ := hbd b (by simp)
      obtain ⟨hab, hba, htr'⟩ := htr
      obtain ⟨v, c3, hA⟩ := hS.L.c3
      simp only at c3 hA
      obtain ⟨p, ca, rfl, hca, _⟩ := hA.slice
      obtain ⟨oa, rfl, _, _, hAy, hAn⟩ := hA.dropped hba (by omega)
      have HNT := Lib.hid hnm.tail
      have c0 := hS.L.c0
      have f2 := hS.L.f2
      have f3 := hS.L.f3
      have HS := Lib.hid hS
      have HTR := Lib.hid htr'
      have HBD := Lib.hid (show ∀ x ∈ b :: t, 0 < x ∧ x < 1000000000000 from fun x hx => hbd x (List.mem_cons_of_mem _ hx))
      obtain ⟨k, hk⟩ : ∃ k, t.length = k := ⟨_, rfl⟩
      obtain ⟨N, hN⟩ : ∃ N, all'.length = N := ⟨_, rfl⟩
      have HNN := Lib.hid hN
      obtain ⟨K, hKK⟩ : ∃ K, b - a = K := ⟨_, rfl⟩
      simp only [List.length_cons, hk] at c2 hle hst
      rw [hN] at c3 hca hba hAy hAn
      rw [hKK] at hba hAy hAn HTR
      unfold maxLen at hmx
      have q1 : IntKind.i64.wrap ((b : Int) - 1) = (b : Int) - 1 := by rw [IntKind.wrap_i64]; omega
      have q2 : (1 : Int) < (k : Int) + 1 + 1 := by omega
      have q3 : (0 : Int) < (k : Int) + 1 + 1 := by omega
      have q4 : IntKind.i64.wrap ((b : Int) - (a : Int)) = (K : Int) := by rw [IntKind.wrap_i64]; omega
      by_cases hc : (b : Int) - 1 ≤ n
      · have HN := Lib.hid (fun W => rname_any a (by omega) W)
        have HP := Lib.hid (show ∀ wx, RAt wx rb rg1 d' → Calls Tryz.prog 71 #[.pointer (some ⟨rb, 0, none⟩), .string (nameN a)] wx fun e w' => e = .returned (.int .i64 (d'.remove (nameN a)).1) ∧ ROut wx w' rb rg1 (d'.remove (nameN a)).2 from fun wx h => ref_remove h hDo (by omega) _)
        have hRe : R = if (d'.remove (nameN a)).1 = 0 then rtrimN n (d'.remove (nameN a)).2 (b :: t) (all'.drop K) else ((d'.remove (nameN a)).1, (d'.remove (nameN a)).2, a :: b :: t, all') := by rw [← hT, ← hKK]; exact if_pos hc
        have hok2 := hDo.remove (nameN a)
        have hst2 := remove_stQ d' (nameN a)
        obtain ⟨S, hSS⟩ : ∃ S, nameN a = S := ⟨_, rfl⟩
        rw [hSS] at HN HP hRe hok2 hst2
        obtain ⟨D2, hD2⟩ : ∃ D2, (d'.remove S).2 = D2 := ⟨_, rfl⟩
        obtain ⟨E, hE⟩ : ∃ E, (d'.remove S).1 = E := ⟨_, rfl⟩
        rw [hD2, hE] at HP hRe
        rw [hD2] at hok2 hst2
        have HRE := Lib.hid hRe
        have HST := Lib.hid (show D2.steps + (k + 1) < 4611686018427387904 by omega)
        have HOK := Lib.hid hok2
        have HAL := Lib.hid (show (all'.drop K).length ≤ 1000000000000 by rw [List.length_drop]; omega)
        have HAY := Lib.hid hAy
        have HAN := Lib.hid hAn
        have HNE := Lib.hid hS.ne
        have HLN := Lib.hid hS.L.ne
        have HBL := Lib.hid hS.L.bel
        have HLT := Lib.hid hlt
        have HKW := Lib.hid hK
        have HGS := Lib.hid (show (rg1 = rg ∨ rg1 = rb ∨ w.heap.size ≤ rg1) ∧ (g1 = g ∨ w.heap.size ≤ g1) ∧ (ga1 = ga ∨ w.heap.size ≤ ga1) from ⟨hg1, hg2, hg3⟩)
        have hN0 : 0 < N := by omega
        have hm1 := hlt.1
        have hm2 := hlt.2.1
        clear hS hT hnm hSS hD2 hE hRe hDo hst hok2 hst2 hA hK hg1 hg2 hg3 hbd htr' hab hAy hAn hlt hal hN hKK
        go_upto_region 2 with fail
        have HSW := Lib.hid HS.out.drew
        go_region_held3 (fun w' => ∀ j, w'.cell? ⟨mb, j, none⟩ = wr.cell? ⟨mb, j, none⟩ ∧ w'.cell? ⟨g1, j, none⟩ = wr.cell? ⟨g1, j, none⟩) ((first | assumption | (intro j; exact ⟨rfl, rfl⟩)))
          (first
            | (go_at_call 55; (with_reducible refine (HN.out _).mono ?_); rintro e w5 ⟨rfl, hb5⟩; have k5 : ∀ j, w5.cell? ⟨mb, j, none⟩ = wr.cell? ⟨mb, j, none⟩ ∧ w5.cell? ⟨g1, j, none⟩ = wr.cell? ⟨g1, j, none⟩ := fun j => ⟨(hb5.cell (p := ⟨mb, j, none⟩) hm1).trans rfl, (hb5.cell (p := ⟨g1, j, none⟩) hm2).trans rfl⟩; have HS5 := Lib.hid (HSW.out.below hb5); have HB5 := Lib.hid hb5; clear hb5)
            | (go_at_call 71; (with_reducible refine (HP.out _ HS5.out.D).mono ?_); rintro e w6 ⟨rfl, ho6⟩; have k6 : ∀ j, w6.cell? ⟨mb, j, none⟩ = wr.cell? ⟨mb, j, none⟩ ∧ w6.cell? ⟨g1, j, none⟩ = wr.cell? ⟨g1, j, none⟩ := fun j => ⟨(HS5.out.cellL ho6.2 j).trans (k5 j).1, (ho6.2.cell HS5.out.lt.2.1 HNE.out.2.2.1 HNE.out.2.2.2.1 j).trans (k5 j).2⟩; have HO6 := Lib.hid (HS5.out.rout ho6); have HKP := Lib.hid ho6.2; clear ho6))
        obtain ⟨rg6, hs6, hg6, hk6⟩ := HO6.out
        by_cases hE0 : E = 0
        · subst hE0
          have hRe : rtrimN n D2 (b :: t) (all'.drop K) = R := by rw [HRE.out]; rfl
          have HRe := Lib.hid hRe
          have e1 : ¬ cap = 1 := by omega
          have e2 : ((cap : Int) == 1) = false := by simp; omega
          have c62 := (k6 2).1.trans c2
          have c63 := (k6 3).1.trans c3
          have f62 := hs6.L.f2
          have f63 := hs6.L.f3
          have n60 := (k6 o).2.trans n0
          have n61 := (k6 (o + 1)).2.trans n1
          have HLO := Lib.hid HS.out.L.lenAt
          simp only [List.length_cons, hk] at HLO
          obtain ⟨v6, hv6, hA6⟩ := hs6.L.c3
          have hv7 := Option.some.inj (c63.symm.trans hv6)
          subst hv7
          obtain ⟨o6, cap6, hc6, hN6⟩ := hs6.L.c2
          have hc7 := c62.symm.trans hc6
          simp only [Option.some.injEq, Value.slice.injEq, Addr.mk.injEq, and_true, true_and, List.length_cons] at hc7
          obtain ⟨rfl, -, rfl⟩ := hc7
          have HFIN : Hid (∀ u, AllW w6 mb ga1 u (all'.drop K) → RgS ((w6.drew.setCell ⟨mb, 3, none⟩ u).setCell ⟨mb, 2, none⟩ (.slice (some ⟨g1, o + 1, none⟩) (k + 1) (cap - 1))) B mb rb rg6 g1 ga1 { r with nums := b :: t, all := all'.drop K } D2 ∧
              RgOut w ((w6.drew.setCell ⟨mb, 3, none⟩ u).setCell ⟨mb, 2, none⟩ (.slice (some ⟨g1, o + 1, none⟩) (k + 1) (cap - 1))) B mb rb rg g ga { r with nums := b :: t, all := all'.drop K } D2) := fun u hu => by
            have hn6 := hs6.ne
            have hb6 := hs6.L.bel
            have hx := hs6.drew.reall (v := u) (L := all'.drop K) (ga' := ga1) (hu.of_block fun _ => rfl) hs6.L.ne.2 hb6.2.2.1 hn6.2.2.2.2.1 hn6.2.2.2.2.2
            have hnt : NumAt (w6.drew.setCell ⟨mb, 3, none⟩ u) g1 (o + 1) (cap - 1) (b :: t) := hN6.tail.of_block (Below.heap_setCell _ _ _ _ hs6.L.ne.1)
            have hy := hx.renum hnt hs6.L.ne.1 hs6.L.ne.2 hb6.2.1 hn6.2.2.1 hn6.2.2.2.1
            simp only [List.length_cons, hk] at hy
            refine ⟨hy, RgOut.step HKW.out HGS.out.1 HGS.out.2.1 HGS.out.2.2 hy ?_ ?_ (.inl rfl) (.inl rfl)⟩
            · exact (((((KR.of_below (Below.refl _ _).drew).below HB5.out).trans hk6 (.inl rfl) (.inl rfl) (.inl rfl)).below (Below.refl _ _).drew).set _ _).set _ _
            · exact hg6.imp id (fun h => h.imp id (fun h => Nat.le_trans HB5.out.size h))
          obtain ⟨oa6, eoa, -, -, hAy, hAn⟩ := hA6.dropped (k := K) (by simpa [HNN.out] using hba) (by rw [HNN.out]; exact hN0)
          obtain rfl : oa = oa6 := by simpa using eoa
          clear hRe hs6 hg6 hk6 hA6 hN6 hv6 hc6
          have k0 : (0 : Int) ≤ (K : Int) := by omega
          have k1 : (K : Int) ≤ (N : Int) := by omega
          have k2 : (N : Int) ≤ (ca : Int) := by omega
          by_cases hck : ca = K
          · have hap := hAy hck
            clear hAy hAn
            have hNK : N = K := by omega
            subst hck
            subst hNK
            rw [Nat.sub_self] at hap
            go_upto_region 5 with fail
            go_still_tail 21, (by kernel_rfl)
            change wpList _ _ _ _ _ w6.drew
            have c72 : w6.drew.cell? ⟨mb, 2, none⟩ = some (.slice (some ⟨g1, o, none⟩) (k + 1 + 1) cap) := c62
            have c73 : w6.drew.cell? ⟨mb, 3, none⟩ = some (.slice (some ⟨ga1, oa, none⟩) N N) := c63
            have f72 : w6.drew.frozen? ⟨mb, 2, none⟩ = false := f62
            have f73 : w6.drew.frozen? ⟨mb, 3, none⟩ = false := f63
            have HF := Lib.hid (HFIN.out _ hap)
            have HLN2 := Lib.hid HF.out.1.L.lenAt
            simp only [List.length_cons, hk] at HLN2
            clear c62 c63 f62 f63 n60 n61
            generalize w6.drew = w7 at *
            go_wp2_with fail
            go_roundw
            case rel => exact ⟨D2, b :: t, all'.drop N, HRe.out, HF.out.2, by simp, HBD.out, HAL.out, HTR.out, HOK.out, by simp only [List.length_cons, hk]; exact HST.out⟩
            case measure => rw [HLO.out]; exact Nat.lt_of_le_of_lt (Nat.le_of_eq HLN2.out) (by omega)
          · have e3 : ((ca : Int) == (K : Int)) = false := by simp; omega
            have hap := hAn hck
            clear hAy hAn
            go_upto_region 5 with fail
            go_still_tail 21, (by kernel_rfl)
            change wpList _ _ _ _ _ w6.drew
            have c72 : w6.drew.cell? ⟨mb, 2, none⟩ = some (.slice (some ⟨g1, o, none⟩) (k + 1 + 1) cap) := c62
            have c73 : w6.drew.cell? ⟨mb, 3, none⟩ = some (.slice (some ⟨ga1, oa, none⟩) N ca) := c63
            have f72 : w6.drew.frozen? ⟨mb, 2, none⟩ = false := f62
            have f73 : w6.drew.frozen? ⟨mb, 3, none⟩ = false := f63
            have HF := Lib.hid (HFIN.out _ hap)
            have HLN2 := Lib.hid HF.out.1.L.lenAt
            simp only [List.length_cons, hk] at HLN2
            clear c62 c63 f62 f63 n60 n61
            generalize w6.drew = w7 at *
            go_wp2_with fail
            go_roundw
            case rel => exact ⟨D2, b :: t, all'.drop K, HRe.out, HF.out.2, by simp, HBD.out, HAL.out, HTR.out, HOK.out, by simp only [List.length_cons, hk]; exact HST.out⟩
            case measure => rw [HLO.out]; exact Nat.lt_of_le_of_lt (Nat.le_of_eq HLN2.out) (by omega)
        · have hEb : (E != 0) = true := by simpa using hE0
          have hRe : R = (E, D2, a :: b :: t, all') := by rw [HRE.out, if_neg hE0]
          subst hRe
          have HF : Hid (RgOut w w6 B mb rb rg g ga { r with nums := a :: b :: t, all := all' } D2) := RgOut.step HKW.out HGS.out.1 HGS.out.2.1 HGS.out.2.2 hs6 (((KR.of_below (Below.refl _ _).drew).below HB5.out).trans hk6 (.inl rfl) (.inl rfl) (.inl rfl)) (hg6.imp id (fun h => h.imp id (fun h => Nat.le_trans HB5.out.size h))) (.inl rfl) (.inl rfl)
          clear hs6 hg6 hk6
          go_wp2_with fail
          go_ret
          exact ⟨rfl, HF.out⟩
      · have hRe : R = (0, d', a :: b :: t, all') := by rw [← hT]; exact if_neg hc
        subst hRe
        clear hS hT hnm hA hK hbd htr'
        go_wp2_with fail
        go_ret
        exact ⟨rfl, HO.out⟩
end Go.Proofs.YtnpgjlhnlakgpaaGreatDoor
namespace Go.Proofs.YtnpgjlhnlakgpaaGreatDoor
open Go.RowKit Go.Maps

set_option maxRecDepth 100000 in
set_option maxHeartbeats 8000000 in
/-- Read from a number that may not be. -/
theorem rread_bad {w : World} {B mb rb rg g ga : Nat} {r : Rg} {d : Dk} (h : RgS w B mb rb rg g ga r d) (ho : r.Ok) (n : Int) (hn : n < (r.first : Int) ∨ (r.next : Int) < n) :
    Calls Tryz.prog 37 #[.pointer (some ⟨mb, 0, none⟩), .int .i64 n] w fun e w' => e = .returned (.tuple #[.slice none 0 0, .int .i64 1]) ∧ Below w.heap.size w w' := by
  have HF := Lib.hid (fun wx (h : RgW wx B mb rb g ga r) => rfirst_any h ho)
  have HX := Lib.hid (fun wx (h : RgW wx B mb rb g ga r) => rnext_any h ho)
  have HS := Lib.hid h
  obtain ⟨F, hF⟩ : ∃ F : Int, (r.first : Int) = F := ⟨_, rfl⟩
  obtain ⟨X, hX⟩ : ∃ X : Int, (r.next : Int) = X := ⟨_, rfl⟩
  rw [hF] at HF hn
  rw [hX] at HX hn
  clear h ho hF hX
  by_cases h1 : n < F
  · go_enter Tryz.func37, Tryz.ntmps37
    go_wp2_with (first | (go_at_call 39; (with_reducible refine (HF.out _ HS.out.L).mono ?_); rintro e w1 ⟨rfl, hw1⟩; rw [hw1]; clear hw1) | fail)
    go_ret2
    exact ⟨rfl, Below.refl _ _⟩
  · have h2 : X < n := by omega
    go_enter Tryz.func37, Tryz.ntmps37
    go_wp2_with (first | (go_at_call 39; (with_reducible refine (HF.out _ HS.out.L).mono ?_); rintro e w1 ⟨rfl, hw1⟩; rw [hw1]; clear hw1) | (go_at_call 40; (with_reducible refine (HX.out _ HS.out.L).mono ?_); rintro e w1 ⟨rfl, hb1⟩; have HB1 := Lib.hid hb1; clear hb1) | fail)
    go_ret2
    exact ⟨rfl, HB1.out⟩
set_option maxRecDepth 100000 in
set_option maxHeartbeats 16000000 in
theorem rread_gen {w : World} {B mb rb rg g ga : Nat} {r : Rg} {d : Dk} (h : RgS w B mb rb rg g ga r d) (ho : r.Ok) (n : Nat) (h1 : r.first ≤ n) (h2 : n ≤ r.next) :
    Calls Tryz.prog 37 #[.pointer (some ⟨mb, 0, none⟩), .int .i64 (n : Int)] w fun e w' => ∃ v, e = .returned (.tuple #[v, .int .i64 (rreadW d r n).2]) ∧ TxtAt w' v (rreadW d r n).1 ∧ Below w.heap.size w w' := by
  have HF := Lib.hid (fun wx (h : RgW wx B mb rb g ga r) => rfirst_any h ho)
  have HF5 : Hid (∀ wx, RgW wx B mb rb g ga r → Calls Tryz.prog 39 #[.pointer (some ⟨mb, 0, none⟩)] wx fun e w' => e = .returned (.int .i64 (r.first : Int)) ∧ Below wx.heap.size wx w') := fun wx h => (rfirst_any h ho).mono fun e w' ⟨a, b⟩ => ⟨a, by rw [b]; exact Below.refl _ _⟩
  have HX := Lib.hid (fun wx (h : RgW wx B mb rb g ga r) => rnext_any h ho)
  obtain ⟨v, c3, hA⟩ := h.L.c3
  obtain ⟨p, ca, rfl, hca, _⟩ := hA.slice
  obtain ⟨_, hf0, hf1, _⟩ := ho.head
  have hal := ho.all
  have hm0 := h.lt.1
  have hxe : r.next = r.first + r.all.length := rfl
  have HS := Lib.hid h
  have HRD : Hid (rreadW d r n = if d.off = true ∧ n < r.next then ([], 143) else (r.all.drop (n - r.first), 0)) := rfl
  obtain ⟨N, hN⟩ : ∃ N, r.all.length = N := ⟨_, rfl⟩
  rw [hN] at c3 hca hal hxe
  obtain ⟨F, hF⟩ : ∃ F, r.first = F := ⟨_, rfl⟩
  obtain ⟨X, hX⟩ : ∃ X, r.next = X := ⟨_, rfl⟩
  obtain ⟨K, hK⟩ : ∃ K, n - F = K := ⟨_, rfl⟩
  rw [hF] at HF HF5 h1 hxe hf1 HRD
  rw [hX] at HX h2 hxe HRD
  rw [hK] at HRD
  have q1 : ¬ (n : Int) < (F : Int) := by omega
  have q2 : ¬ (X : Int) < (n : Int) := by omega
  have q3 : IntKind.i64.wrap ((n : Int) - (F : Int)) = (K : Int) := by rw [IntKind.wrap_i64]; omega
  have hKN : K ≤ N := by omega
  obtain ⟨O, hO⟩ : ∃ O, d.off = O := ⟨_, rfl⟩
  have HOFF := Lib.hid hO
  rw [hO] at HRD
  by_cases hoff : O = true ∧ n < X
  · have HR : Hid (rreadW d r n = ([], 143)) := by show _ = _; rw [HRD.out, if_pos hoff]
    obtain ⟨hO1, hnx⟩ := hoff
    subst hO1
    have q4 : (n : Int) < (X : Int) := by omega
    clear h ho h1 hA hf0 hf1 hal hxe hN hF hX hK hO hnx
    go_enter Tryz.func37, Tryz.ntmps37
    go_wp2_with (first | (go_at_call 39; (with_reducible refine (HF.out _ HS.out.L).mono ?_); rintro e w1 ⟨rfl, hw1⟩; rw [hw1]; clear hw1) | (go_at_call 40; (with_reducible refine (HX.out _ HS.out.L).mono ?_); rintro e w1 ⟨rfl, hb1⟩; have HS1 := Lib.hid (HS.out.below hb1); have HB1 := Lib.hid hb1; have c0 := HS1.out.L.c0; have d3 := HS1.out.D.c3; rw [HOFF.out] at d3; clear hb1) | (go_at_call 40; (with_reducible refine (HX.out _ HS1.out.L).mono ?_); rintro e w2 ⟨rfl, hb2⟩; have HS2 := Lib.hid (HS1.out.below hb2); have HB2 := Lib.hid (HB1.out.trans (hb2.mono HB1.out.size)); clear hb2) | fail)
    go_ret2
    rw [HR.out]
    exact ⟨_, rfl, ⟨none, 0, rfl, .inl rfl⟩, HB2.out⟩
  · have HR : Hid (rreadW d r n = (r.all.drop K, 0)) := by show _ = _; rw [HRD.out, if_neg hoff]
    have k0 : (0 : Int) ≤ (K : Int) := by omega
    have k1 : (K : Int) ≤ (N : Int) := by omega
    have k2 : (N : Int) ≤ (ca : Int) := by omega
    have dd : O = true → ¬ (n : Int) < (X : Int) := fun hd hx => hoff ⟨hd, by omega⟩
    rcases hA with ⟨hv, hl, _⟩ | ⟨hne, o, cap2, hv, hSt⟩
    · injection hv with e1 e2 e3
      have hN0 : N = 0 := by rw [← hN, hl]; rfl
      have hK0 : K = 0 := by omega
      subst e1 e3 hN0 hK0
      have HT2 : Hid (TxtAt w (.slice none 0 0) (r.all.drop 0)) := by
        refine ⟨none, 0, ?_, .inl ?_⟩
        · rw [hl]; rfl
        · rw [hl]; rfl
      clear h ho h1 hf0 hf1 hal hxe hN hF hX hK hO HRD
      cases O with
      | true =>
        have q4 := dd rfl
        clear dd hoff
        go_enter Tryz.func37, Tryz.ntmps37
        go_upto_region 5 with (first
          | (go_at_call 39; (with_reducible refine (HF.out _ HS.out.L).mono ?_); rintro e w1 ⟨rfl, hw1⟩; rw [hw1]; clear hw1)
          | (go_at_call 40; (with_reducible refine (HX.out _ HS.out.L).mono ?_); rintro e w1 ⟨rfl, hb1⟩; have HS1 := Lib.hid (HS.out.below hb1); have HB1 := Lib.hid hb1; have c0 := HS1.out.L.c0; have d3 := HS1.out.D.c3; rw [HOFF.out] at d3; clear hb1)
          | (go_at_call 40; (with_reducible refine (HX.out _ HS1.out.L).mono ?_); rintro e w2 ⟨rfl, hb2⟩; have HS2 := Lib.hid (HS1.out.below hb2); have HB2 := Lib.hid (HB1.out.trans (hb2.mono HB1.out.size)); clear hb2)
          | fail)
        have HSd := Lib.hid HS2.out.drew
        have hm := HS2.out.lt.1
        have c3 := (HB2.out.cell (p := ⟨mb, 3, none⟩) hm0).trans c3
        go_region_held3 (fun w' => ∀ j, w'.cell? ⟨mb, j, none⟩ = w2.cell? ⟨mb, j, none⟩) ((first | assumption | (intro j; rfl)))
          (first | (go_at_call 39; (with_reducible refine (HF5.out _ HSd.out.L).mono ?_); rintro e w5 ⟨rfl, hb5⟩; have k5 : ∀ j, w5.cell? ⟨mb, j, none⟩ = w2.cell? ⟨mb, j, none⟩ := fun j => (hb5.cell (p := ⟨mb, j, none⟩) hm).trans rfl; have HB5 := Lib.hid ((HB2.out.drew).trans (hb5.mono HB2.out.size)); clear hb5))
        go_wp2_with fail
        go_ret2
        rw [HR.out]
        exact ⟨_, rfl, HT2.out.below HB5.out, HB5.out⟩
      | false =>
        clear dd hoff
        go_enter Tryz.func37, Tryz.ntmps37
        go_upto_region 5 with (first
          | (go_at_call 39; (with_reducible refine (HF.out _ HS.out.L).mono ?_); rintro e w1 ⟨rfl, hw1⟩; rw [hw1]; clear hw1)
          | (go_at_call 40; (with_reducible refine (HX.out _ HS.out.L).mono ?_); rintro e w1 ⟨rfl, hb1⟩; have HS1 := Lib.hid (HS.out.below hb1); have HB1 := Lib.hid hb1; have c0 := HS1.out.L.c0; have d3 := HS1.out.D.c3; rw [HOFF.out] at d3; clear hb1)
          | fail)
        have HSd := Lib.hid HS1.out.drew
        have hm := HS1.out.lt.1
        have c3 := (HB1.out.cell (p := ⟨mb, 3, none⟩) hm0).trans c3
        go_region_held3 (fun w' => ∀ j, w'.cell? ⟨mb, j, none⟩ = w1.cell? ⟨mb, j, none⟩) ((first | assumption | (intro j; rfl)))
          (first | (go_at_call 39; (with_reducible refine (HF5.out _ HSd.out.L).mono ?_); rintro e w5 ⟨rfl, hb5⟩; have k5 : ∀ j, w5.cell? ⟨mb, j, none⟩ = w1.cell? ⟨mb, j, none⟩ := fun j => (hb5.cell (p := ⟨mb, j, none⟩) hm).trans rfl; have HB5 := Lib.hid ((HB1.out.drew).trans (hb5.mono HB1.out.size)); clear hb5))
        go_wp2_with fail
        go_ret2
        rw [HR.out]
        exact ⟨_, rfl, HT2.out.below HB5.out, HB5.out⟩
    · injection hv with e1 e2 e3
      subst e1 e3
      have hSd := hSt.drop K (by omega)
      have hSm := hSt.le
      by_cases e : ca = K
      · have hl0 : r.all.drop K = [] := List.drop_eq_nil_of_le (by omega)
        have hNK : N = K := by omega
        subst e hNK
        have HT2 : Hid (TxtAt w (.slice (some ⟨ga, o, none⟩) 0 0) (r.all.drop N)) := by
          refine ⟨some ⟨ga, o, none⟩, 0, ?_, .inl hl0⟩
          rw [hl0]
          rfl
        clear h ho h1 hf0 hf1 hal hxe hN hF hX hK hSd hSm hSt hO HRD
        cases O with
        | true =>
          have q4 := dd rfl
          clear dd hoff
          go_enter Tryz.func37, Tryz.ntmps37
          go_upto_region 5 with (first
            | (go_at_call 39; (with_reducible refine (HF.out _ HS.out.L).mono ?_); rintro e w1 ⟨rfl, hw1⟩; rw [hw1]; clear hw1)
            | (go_at_call 40; (with_reducible refine (HX.out _ HS.out.L).mono ?_); rintro e w1 ⟨rfl, hb1⟩; have HS1 := Lib.hid (HS.out.below hb1); have HB1 := Lib.hid hb1; have c0 := HS1.out.L.c0; have d3 := HS1.out.D.c3; rw [HOFF.out] at d3; clear hb1)
            | (go_at_call 40; (with_reducible refine (HX.out _ HS1.out.L).mono ?_); rintro e w2 ⟨rfl, hb2⟩; have HS2 := Lib.hid (HS1.out.below hb2); have HB2 := Lib.hid (HB1.out.trans (hb2.mono HB1.out.size)); clear hb2)
            | fail)
          have HSd := Lib.hid HS2.out.drew
          have hm := HS2.out.lt.1
          have c3 := (HB2.out.cell (p := ⟨mb, 3, none⟩) hm0).trans c3
          go_region_held3 (fun w' => ∀ j, w'.cell? ⟨mb, j, none⟩ = w2.cell? ⟨mb, j, none⟩) ((first | assumption | (intro j; rfl)))
            (first | (go_at_call 39; (with_reducible refine (HF5.out _ HSd.out.L).mono ?_); rintro e w5 ⟨rfl, hb5⟩; have k5 : ∀ j, w5.cell? ⟨mb, j, none⟩ = w2.cell? ⟨mb, j, none⟩ := fun j => (hb5.cell (p := ⟨mb, j, none⟩) hm).trans rfl; have HB5 := Lib.hid ((HB2.out.drew).trans (hb5.mono HB2.out.size)); clear hb5))
          go_wp2_with fail
          go_ret2
          rw [HR.out]
          exact ⟨_, rfl, HT2.out.below HB5.out, HB5.out⟩
        | false =>
          clear dd hoff
          go_enter Tryz.func37, Tryz.ntmps37
          go_upto_region 5 with (first
            | (go_at_call 39; (with_reducible refine (HF.out _ HS.out.L).mono ?_); rintro e w1 ⟨rfl, hw1⟩; rw [hw1]; clear hw1)
            | (go_at_call 40; (with_reducible refine (HX.out _ HS.out.L).mono ?_); rintro e w1 ⟨rfl, hb1⟩; have HS1 := Lib.hid (HS.out.below hb1); have HB1 := Lib.hid hb1; have c0 := HS1.out.L.c0; have d3 := HS1.out.D.c3; rw [HOFF.out] at d3; clear hb1)
            | fail)
          have HSd := Lib.hid HS1.out.drew
          have hm := HS1.out.lt.1
          have c3 := (HB1.out.cell (p := ⟨mb, 3, none⟩) hm0).trans c3
          go_region_held3 (fun w' => ∀ j, w'.cell? ⟨mb, j, none⟩ = w1.cell? ⟨mb, j, none⟩) ((first | assumption | (intro j; rfl)))
            (first | (go_at_call 39; (with_reducible refine (HF5.out _ HSd.out.L).mono ?_); rintro e w5 ⟨rfl, hb5⟩; have k5 : ∀ j, w5.cell? ⟨mb, j, none⟩ = w1.cell? ⟨mb, j, none⟩ := fun j => (hb5.cell (p := ⟨mb, j, none⟩) hm).trans rfl; have HB5 := Lib.hid ((HB1.out.drew).trans (hb5.mono HB1.out.size)); clear hb5))
          go_wp2_with fail
          go_ret2
          rw [HR.out]
          exact ⟨_, rfl, HT2.out.below HB5.out, HB5.out⟩
      · have e2 : ((ca : Int) == (K : Int)) = false := by simp; omega
        have HT2 : Hid (TxtAt w (.slice (some ⟨ga, o + K, none⟩) (N - K) (ca - K)) (r.all.drop K)) := by
          refine ⟨_, _, by rw [List.length_drop, hN], .inr ⟨ga, o + K, rfl, hSd.cells⟩⟩
        clear h ho h1 hf0 hf1 hal hxe hN hF hX hK hSd hSm hSt hO HRD
        cases O with
        | true =>
          have q4 := dd rfl
          clear dd hoff
          go_enter Tryz.func37, Tryz.ntmps37
          go_upto_region 5 with (first
            | (go_at_call 39; (with_reducible refine (HF.out _ HS.out.L).mono ?_); rintro e w1 ⟨rfl, hw1⟩; rw [hw1]; clear hw1)
            | (go_at_call 40; (with_reducible refine (HX.out _ HS.out.L).mono ?_); rintro e w1 ⟨rfl, hb1⟩; have HS1 := Lib.hid (HS.out.below hb1); have HB1 := Lib.hid hb1; have c0 := HS1.out.L.c0; have d3 := HS1.out.D.c3; rw [HOFF.out] at d3; clear hb1)
            | (go_at_call 40; (with_reducible refine (HX.out _ HS1.out.L).mono ?_); rintro e w2 ⟨rfl, hb2⟩; have HS2 := Lib.hid (HS1.out.below hb2); have HB2 := Lib.hid (HB1.out.trans (hb2.mono HB1.out.size)); clear hb2)
            | fail)
          have HSd := Lib.hid HS2.out.drew
          have hm := HS2.out.lt.1
          have c3 := (HB2.out.cell (p := ⟨mb, 3, none⟩) hm0).trans c3
          go_region_held3 (fun w' => ∀ j, w'.cell? ⟨mb, j, none⟩ = w2.cell? ⟨mb, j, none⟩) ((first | assumption | (intro j; rfl)))
            (first | (go_at_call 39; (with_reducible refine (HF5.out _ HSd.out.L).mono ?_); rintro e w5 ⟨rfl, hb5⟩; have k5 : ∀ j, w5.cell? ⟨mb, j, none⟩ = w2.cell? ⟨mb, j, none⟩ := fun j => (hb5.cell (p := ⟨mb, j, none⟩) hm).trans rfl; have HB5 := Lib.hid ((HB2.out.drew).trans (hb5.mono HB2.out.size)); clear hb5))
          go_wp2_with fail
          go_ret2
          rw [HR.out]
          exact ⟨_, rfl, HT2.out.below HB5.out, HB5.out⟩
        | false =>
          clear dd hoff
          go_enter Tryz.func37, Tryz.ntmps37
          go_upto_region 5 with (first
            | (go_at_call 39; (with_reducible refine (HF.out _ HS.out.L).mono ?_); rintro e w1 ⟨rfl, hw1⟩; rw [hw1]; clear hw1)
            | (go_at_call 40; (with_reducible refine (HX.out _ HS.out.L).mono ?_); rintro e w1 ⟨rfl, hb1⟩; have HS1 := Lib.hid (HS.out.below hb1); have HB1 := Lib.hid hb1; have c0 := HS1.out.L.c0; have d3 := HS1.out.D.c3; rw [HOFF.out] at d3; clear hb1)
            | fail)
          have HSd := Lib.hid HS1.out.drew
          have hm := HS1.out.lt.1
          have c3 := (HB1.out.cell (p := ⟨mb, 3, none⟩) hm0).trans c3
          go_region_held3 (fun w' => ∀ j, w'.cell? ⟨mb, j, none⟩ = w1.cell? ⟨mb, j, none⟩) ((first | assumption | (intro j; rfl)))
            (first | (go_at_call 39; (with_reducible refine (HF5.out _ HSd.out.L).mono ?_); rintro e w5 ⟨rfl, hb5⟩; have k5 : ∀ j, w5.cell? ⟨mb, j, none⟩ = w1.cell? ⟨mb, j, none⟩ := fun j => (hb5.cell (p := ⟨mb, j, none⟩) hm).trans rfl; have HB5 := Lib.hid ((HB1.out.drew).trans (hb5.mono HB1.out.size)); clear hb5))
          go_wp2_with fail
          go_ret2
          rw [HR.out]
          exact ⟨_, rfl, HT2.out.below HB5.out, HB5.out⟩
end Go.Proofs.YtnpgjlhnlakgpaaGreatDoor
