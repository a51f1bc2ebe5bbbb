/- LexTakes: the walk of the law. -/
import Derived.Test.YtnpgjlhnlakgpaaDoorLexG6
import Derived.Test.YtnpgjlhnlakgpaaDoorG07
import Derived.Test.YtnpgjlhnlakgpaaDoorG06
namespace Go.Proofs.YtnpgjlhnlakgpaaDoor
open Go.RowKit

theorem rlex_ok {s : ByteArray} {ts : List Tk} (h : lexF s.data.toList = .inr ts) (w : World) :
    Calls Tryd.prog 16 #[.string s] w fun e w' => ∃ g cap, e = .returned (.tuple #[.slice (some ⟨g, 0, none⟩) ts.length cap, .int .i64 0, .int .i64 0]) ∧ w.heap.size ≤ g ∧ g < w'.heap.size ∧ TCells w' g ts ∧ Below w.heap.size w w' :=
  (rLex_any w s).mono fun e w' hp => by
    unfold LexPost at hp
    rw [h] at hp
    obtain ⟨hB, v, rfl, ho⟩ := hp
    obtain ⟨g, cap, rfl, h1, h2, h3⟩ := row_tokens ho (lexF_ne h)
    exact ⟨g, cap, rfl, h1, h2, h3, hB⟩
theorem rlex_err {s : ByteArray} {er : Int} {p : Nat} (h : lexF s.data.toList = .inl (er, p)) (w : World) :
    Calls Tryd.prog 16 #[.string s] w fun e w' => e = .returned (.tuple #[.slice none 0 0, .int .i64 er, .int .i64 (p : Int)]) ∧ Below w.heap.size w w' :=
  (rLex_any w s).mono fun e w' hp => by
    unfold LexPost at hp
    rw [h] at hp
    exact ⟨hp.2, hp.1⟩

set_option maxRecDepth 100000 in
set_option maxHeartbeats 8000000 in
theorem takes_walk (s v : ByteArray) (w : World) (hA : Asc w) (hv : v.size ≤ 140737488351232) : Calls Tryd.prog 4 #[.string s, .string v] w fun e w' => e = .returned (.bool true) ∧ Below w.heap.size w w' := by
  have HA0 := Lib.hid hA
  have HB0 : Hid (Below w.heap.size w w) := Below.refl _ _
  obtain ⟨U, hUd⟩ : ∃ U : ByteArray, (⟨(v.data.toList.map upB).toArray⟩ : ByteArray) = U := ⟨_, rfl⟩
  have HU1 := Lib.hid (fun W => upper_any v W (by omega))
  have HU2 := Lib.hid (fun W => upper_any v W (by omega))
  rw [hUd] at HU1 HU2
  have hU : U.size ≤ 140737488351232 := by
    rw [← hUd]; show (v.data.toList.map upB).toArray.size ≤ _; simpa using hv
  obtain ⟨b1, hb1⟩ : ∃ b1, isWord v.data.toList = b1 := ⟨_, rfl⟩
  obtain ⟨b2, hb2⟩ : ∃ b2, isWord U.data.toList = b2 := ⟨_, rfl⟩
  have HV1 := Lib.hid hb1
  have HV2 := Lib.hid hb2
  clear hA hUd hb1 hb2
  cases hx : lexF s.data.toList with
  | inl e0 =>
    obtain ⟨er, p⟩ := e0
    have HX := Lib.hid hx
    clear hx
    go_enter Tryd.func4, Tryd.ntmps4
    go_wp2_with (first
      | (go_at_call 15; refine (lex_err HX.out _ HA0.out).mono ?_; rintro e w1 ⟨rfl, hb⟩; have HB1 := Lib.hid (HB0.out.trans (hb.mono HB0.out.size)); have HA1 := Lib.hid (HA0.out.below hb); clear hb)
      | (go_at_call 16; refine (rlex_err HX.out _).mono ?_; rintro e w2 ⟨rfl, hb⟩; have HB2 := Lib.hid (HB1.out.trans (hb.mono HB1.out.size)); have HA2 := Lib.hid (HA1.out.below hb); clear hb)
      | (go_at_call 17; refine (same_nil _ _).mono ?_; rintro e w3 ⟨rfl, hb⟩; have HB3 := Lib.hid (HB2.out.trans (hb.mono HB2.out.size)); have HA3 := Lib.hid (HA2.out.below hb); clear hb)
      | (go_at_call_of 18 (Value.string v); refine (Word_any _ HA3.out v (by unfold maxLen; omega)).mono ?_; rintro e w4 ⟨rfl, hb⟩; rw [HV1.out]; have HB4 := Lib.hid (HB3.out.trans (hb.mono HB3.out.size)); have HA4 := Lib.hid (HA3.out.below hb); clear hb) | (go_at_call_of 19 (Value.string v); refine (rWord_any v _ hv).mono ?_; rintro e w9 ⟨rfl, hw9⟩; rw [hw9, HV1.out]; clear hw9) | (go_at_call 20; refine (HU1.out _).mono ?_; clear HU1; rintro e w5 ⟨rfl, hb⟩; have HB5 := Lib.hid (HB4.out.trans (hb.mono HB4.out.size)); have HA5 := Lib.hid (HA4.out.below hb); clear hb) | (go_at_call_of 18 (Value.string U); refine (Word_any _ HA5.out U (by unfold maxLen; omega)).mono ?_; rintro e w6 ⟨rfl, hb⟩; rw [HV2.out]; have HB6 := Lib.hid (HB5.out.trans (hb.mono HB5.out.size)); have HA6 := Lib.hid (HA5.out.below hb); clear hb) | (go_at_call 20; refine (HU2.out _).mono ?_; rintro e w7 ⟨rfl, hb⟩; have HB7 := Lib.hid (HB6.out.trans (hb.mono HB6.out.size)); have HA7 := Lib.hid (HA6.out.below hb); clear hb) | (go_at_call_of 19 (Value.string U); refine (rWord_any U _ hU).mono ?_; rintro e w9 ⟨rfl, hw9⟩; rw [hw9, HV2.out]; clear hw9)
      | fail)
    go_ret
    exact ⟨rfl, HB7.out⟩
  | inr ts =>
    have HX := Lib.hid hx
    have hts : ts.length ≤ 1001 := (lexF_count hx).1
    clear hx
    go_enter Tryd.func4, Tryd.ntmps4
    go_wp2_with (first
      | (go_at_call 15; refine (lex_ok HX.out _ HA0.out).mono ?_; rintro e w1 ⟨g, cap, rfl, hg1, hg2, hT, hb⟩; have HT1 := Lib.hid hT; clear hT; have HB1 := Lib.hid (HB0.out.trans (hb.mono HB0.out.size)); have HA1 := Lib.hid (HA0.out.below hb); clear hb)
      | (go_at_call 16; refine (rlex_ok HX.out _).mono ?_; rintro e w2 ⟨g', cap', rfl, hg1', hg2', hT, hb⟩; have HT2 := Lib.hid (HT1.out.below hb hg2); have HT2' := Lib.hid hT; have hgg := Nat.lt_of_lt_of_le hg2 hb.size; clear hT; have HB2 := Lib.hid (HB1.out.trans (hb.mono HB1.out.size)); have HA2 := Lib.hid (HA1.out.below hb); clear hb)
      | (go_at_call 17; refine (same_any _ _ _ _ _ ts ts true hgg hg2' HT2.out HT2'.out (SameTk.refl ts) (fun _ => rfl) hts).mono ?_; rintro e w3 ⟨rfl, hb⟩; have HB3 := Lib.hid (HB2.out.trans (hb.mono HB2.out.size)); have HA3 := Lib.hid (HA2.out.below hb); clear hb)
      | (go_at_call_of 18 (Value.string v); refine (Word_any _ HA3.out v (by unfold maxLen; omega)).mono ?_; rintro e w4 ⟨rfl, hb⟩; rw [HV1.out]; have HB4 := Lib.hid (HB3.out.trans (hb.mono HB3.out.size)); have HA4 := Lib.hid (HA3.out.below hb); clear hb) | (go_at_call_of 19 (Value.string v); refine (rWord_any v _ hv).mono ?_; rintro e w9 ⟨rfl, hw9⟩; rw [hw9, HV1.out]; clear hw9) | (go_at_call 20; refine (HU1.out _).mono ?_; clear HU1; rintro e w5 ⟨rfl, hb⟩; have HB5 := Lib.hid (HB4.out.trans (hb.mono HB4.out.size)); have HA5 := Lib.hid (HA4.out.below hb); clear hb) | (go_at_call_of 18 (Value.string U); refine (Word_any _ HA5.out U (by unfold maxLen; omega)).mono ?_; rintro e w6 ⟨rfl, hb⟩; rw [HV2.out]; have HB6 := Lib.hid (HB5.out.trans (hb.mono HB5.out.size)); have HA6 := Lib.hid (HA5.out.below hb); clear hb) | (go_at_call 20; refine (HU2.out _).mono ?_; rintro e w7 ⟨rfl, hb⟩; have HB7 := Lib.hid (HB6.out.trans (hb.mono HB6.out.size)); have HA7 := Lib.hid (HA6.out.below hb); clear hb) | (go_at_call_of 19 (Value.string U); refine (rWord_any U _ hU).mono ?_; rintro e w9 ⟨rfl, hw9⟩; rw [hw9, HV2.out]; clear hw9)
      | fail)
    go_ret
    exact ⟨rfl, HB7.out⟩
end Go.Proofs.YtnpgjlhnlakgpaaDoor
