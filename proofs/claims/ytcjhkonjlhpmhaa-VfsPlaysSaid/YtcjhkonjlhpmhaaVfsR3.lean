/- Contracts of the reference's disk: Create, Remove (printed by gen_ref.py). -/
import Derived.Test.YtcjhkonjlhpmhaaVfsR2
namespace Go.Proofs.Ytcjhkonjlhpmhaa
open Go.RowKit Go.Maps

/-- What a call leaves of the reference's disk. -/
def ROut (w w' : World) (b g : Nat) (d : Dk) : Prop := (∃ g', RAt w' b g' d ∧ (g' = g ∨ g' = b ∨ w.heap.size ≤ g')) ∧ Kp b g w w'
theorem ROut.same {w w' : World} {b g : Nat} {d : Dk} (h : RAt w' b g d) (hk : Kp b g w w') : ROut w w' b g d := ⟨⟨g, h, .inl rfl⟩, hk⟩
theorem ROut.new {w w1 w' : World} {b g : Nat} {d : Dk} (hk : Kp b g w w1) (h : ∃ g', RAt w' b g' d ∧ (g' = b ∨ w1.heap.size ≤ g')) (hk2 : Kp b g w1 w') : ROut w w' b g d := by
  obtain ⟨g', h1, h2⟩ := h
  refine ⟨⟨g', h1, ?_⟩, hk.trans hk2⟩
  rcases h2 with h2 | h2
  · exact .inr (.inl h2)
  · exact .inr (.inr (Nat.le_trans hk.size h2))
theorem Kp.mono2 {b g g' : Nat} {w0 w w' : World} (hk : Kp b g w0 w) (h : Kp b g' w w') (hg : g' = g ∨ g' = b ∨ w0.heap.size ≤ g') : Kp b g w0 w' :=
  ⟨h.os.trans hk.os, h.tape.trans hk.tape, h.output.trans hk.output, Nat.le_trans hk.size h.size, fun k hlt h1 h2 =>
    (h.block k (Nat.lt_of_lt_of_le hlt hk.size) h1 (by rcases hg with rfl | rfl | hg <;> first | exact h2 | exact h1 | omega)).trans (hk.block k hlt h1 h2)⟩
theorem ROut.trans {w w1 w' : World} {b g : Nat} {d d' : Dk} (h : ROut w w1 b g d) (k : ∀ g', RAt w1 b g' d → ROut w1 w' b g' d') : ROut w w' b g d' := by
  obtain ⟨⟨g1, h1, h2⟩, hk⟩ := h
  obtain ⟨⟨g2, h3, h4⟩, hk2⟩ := k g1 h1
  refine ⟨⟨g2, h3, ?_⟩, hk.mono2 hk2 h2⟩
  have hz := hk.size
  rcases h4 with rfl | h4 | h4
  · exact h2
  · exact .inr (.inl h4)
  · exact .inr (.inr (by omega))
theorem Kp.set2 {b g : Nat} {w0 w : World} (h : Kp b g w0 w) (o : Nat) (u : Value) : Kp b g w0 (w.setCell ⟨g, o, none⟩ u) :=
  h.trans ⟨rfl, rfl, rfl, by simp [World.setCell], fun k _ _ h2 => Below.heap_setCell _ _ _ _ h2⟩
theorem RAt.c0 {w : World} {b g : Nat} {d : Dk} (h : RAt w b g d) : w.cell? ⟨b, 0, none⟩ = some (.int .i64 (d.room : Int)) := by obtain ⟨lv, h, _⟩ := h; exact h.c0
theorem RAt.c3 {w : World} {b g : Nat} {d : Dk} (h : RAt w b g d) : w.cell? ⟨b, 3, none⟩ = some (.bool d.off) := by obtain ⟨lv, h, _⟩ := h; exact h.c3
theorem RAt.c4 {w : World} {b g : Nat} {d : Dk} (h : RAt w b g d) : w.cell? ⟨b, 4, none⟩ = some (.int .i64 (d.steps : Int)) := by obtain ⟨lv, h, _⟩ := h; exact h.c4
/-- The list as a slice. -/
theorem RAt.c1 {w : World} {b g : Nat} {d : Dk} (h : RAt w b g d) : ∃ p c, w.cell? ⟨b, 1, none⟩ = some (.slice p d.L.length c) := by
  obtain ⟨lv, h, r⟩ := h
  obtain ⟨p, c, rfl, -, -⟩ := r.files
  exact ⟨p, c, h.c1⟩
/-- One file of the list: its cells, and that they may be written. -/
theorem RAt.file {w : World} {b g : Nat} {d : Dk} (h : RAt w b g d) {i : Nat} {f : Fl} (hi : d.L[i]? = some f) :
    ∃ c, w.cell? ⟨b, 1, none⟩ = some (.slice (some ⟨g, 0, none⟩) d.L.length c) ∧ g ≠ b ∧ w.cell? ⟨g, i * 3, none⟩ = some (.string f.name) ∧ w.cell? ⟨g, i * 3 + 1, none⟩ = some (.string f.bytes) ∧ w.cell? ⟨g, i * 3 + 2, none⟩ = some (.int .i64 (f.safe : Int)) ∧ w.frozen? ⟨g, i * 3 + 1, none⟩ = false ∧ w.frozen? ⟨g, i * 3 + 2, none⟩ = false := by
  obtain ⟨lv, h, r⟩ := h
  obtain ⟨p, c, rfl, -, hf⟩ := r.files
  obtain ⟨rfl, hg, hc⟩ := hf.resolve_left (fun e => by rw [e] at hi; simp at hi)
  have hne := r.ne (j := g) rfl
  have hr := r.1
  obtain ⟨a0, a1, a2⟩ := hc i f hi
  exact ⟨c, h.c1, by omega, a0, a1, a2, hr.frozenAt _, hr.frozenAt _⟩
theorem RAt.set_bytes {w : World} {b g : Nat} {d : Dk} (h : RAt w b g d) {i : Nat} {f : Fl} (hi : d.L[i]? = some f) (nb : ByteArray) : RAt (w.setCell ⟨g, i * 3 + 1, none⟩ (.string nb)) b g { d with L := d.L.set i { f with bytes := nb } } := by
  obtain ⟨lv, h, r⟩ := h
  obtain ⟨p, c, rfl, -, hf⟩ := r.files
  obtain ⟨rfl, hg, hc⟩ := hf.resolve_left (fun e => by rw [e] at hi; simp at hi)
  have hne := r.ne (j := g) rfl
  have hr := (r.1.stored (i * 3 + 1) (.string nb)).1
  rw [fileCells_bytes hi] at hr
  refine ⟨_, h.of_block (Below.heap_setCell _ _ _ _ (by show b ≠ g; omega)), ?_, r.2⟩
  rw [show ({ d with L := d.L.set i { f with bytes := nb } } : Dk).L.length = d.L.length from List.length_set]
  exact hr
theorem RAt.set_safe {w : World} {b g : Nat} {d : Dk} (h : RAt w b g d) {i : Nat} {f : Fl} (hi : d.L[i]? = some f) (ns : Nat) : RAt (w.setCell ⟨g, i * 3 + 2, none⟩ (.int .i64 (ns : Int))) b g { d with L := d.L.set i { f with safe := ns } } := by
  obtain ⟨lv, h, r⟩ := h
  obtain ⟨p, c, rfl, -, hf⟩ := r.files
  obtain ⟨rfl, hg, hc⟩ := hf.resolve_left (fun e => by rw [e] at hi; simp at hi)
  have hne := r.ne (j := g) rfl
  have hr := (r.1.stored (i * 3 + 2) (.int .i64 (ns : Int))).1
  rw [fileCells_safe hi] at hr
  refine ⟨_, h.of_block (Below.heap_setCell _ _ _ _ (by show b ≠ g; omega)), ?_, r.2⟩
  rw [show ({ d with L := d.L.set i { f with safe := ns } } : Dk).L.length = d.L.length from List.length_set]
  exact hr
theorem ref_at_miss {d : Dk} {w : World} {b g : Nat} (h : RAt w b g d) (hm : d.L.length ≤ 64) {nm : ByteArray} (hf : findF nm.data.toList d.L = none) :
    Calls Try.prog 57 #[.pointer (some ⟨b, 0, none⟩), .string nm] w fun e w' => e = .returned (.int .i64 (-1)) ∧ Below w.heap.size w w' :=
  (ref_at h hm nm).mono fun e w' h => by rw [idx_none hf] at h; exact h
theorem ref_at_hit {d : Dk} {w : World} {b g : Nat} (h : RAt w b g d) (hm : d.L.length ≤ 64) {nm : ByteArray} {i : Nat} (hf : idxI nm d.L = (i : Int)) :
    Calls Try.prog 57 #[.pointer (some ⟨b, 0, none⟩), .string nm] w fun e w' => e = .returned (.int .i64 (i : Int)) ∧ Below w.heap.size w w' :=
  (ref_at h hm nm).mono fun e w' h => by rw [hf] at h; exact h

set_option maxRecDepth 100000 in
set_option maxHeartbeats 8000000 in
theorem ref_create {d : Dk} {w : World} {b g : Nat} (h : RAt w b g d) (hok : d.Ok) (hs : d.steps < 4611686018427387904) (nm : ByteArray) (hn : nm.size ≤ maxLen) :
    Calls Try.prog 42 #[.pointer (some ⟨b, 0, none⟩), .string nm] w fun e w' => e = .returned (.int .i64 (d.create nm).1) ∧ ROut w w' b g (d.create nm).2 := by
  have H := Lib.hid h
  have HOK := Lib.hid hok
  have hm := hok.many
  have hl := hok.left
  have hus := hok.used
  have hrm := hok.room
  unfold maxLen at *
  clear hok h
  by_cases ho : d.off = true
  · have HO := Lib.hid ho
    have E := Lib.hid (show d.create nm = (143, d) by simp [Dk.create, ho])
    clear ho
    rw [E.out]
    have c3 := H.out.c3
    rw [HO.out] at c3
    go_enter Try.func42, Try.ntmps42
    go_wp2_with fail
    go_ret
    exact ⟨rfl, ROut.same H.out (Kp.refl _ _ _)⟩
  · have ho' : d.off = false := by simpa using ho
    have HO := Lib.hid ho'
    have c3 := H.out.c3
    rw [HO.out] at c3
    by_cases hqn : nm.size < 1
    · have E := Lib.hid (show d.create nm = (144, d) by have : namedB nm = false := by { unfold namedB; simp; omega }; simp [Dk.create, ho', this])
      clear ho ho'
      rw [E.out]
      go_enter Try.func42, Try.ntmps42
      go_wp2_with fail
      go_ret
      exact ⟨rfl, ROut.same H.out (Kp.refl _ _ _)⟩
    by_cases hq2 : 20 < nm.size
    · have E := Lib.hid (show d.create nm = (144, d) by have : namedB nm = false := by { unfold namedB; simp; omega }; simp [Dk.create, ho', this])
      clear ho ho'
      rw [E.out]
      go_enter Try.func42, Try.ntmps42
      go_wp2_with fail
      go_ret
      exact ⟨rfl, ROut.same H.out (Kp.refl _ _ _)⟩
    have hnb : namedB nm = true := by unfold namedB; simp; omega
    have q1 : 1 ≤ nm.size := by omega
    have q2 : nm.size ≤ 20 := by omega
    clear hqn hq2
    cases hf : findF nm.data.toList d.L with
    | some f =>
      obtain ⟨i, hix, -⟩ := idx_some hf
      have HI := Lib.hid hix
      have E := Lib.hid (show d.create nm = (141, d) by simp [Dk.create, ho', hnb, hf])
      clear ho ho' hf hix hnb
      rw [E.out]
      go_enter Try.func42, Try.ntmps42
      go_wp2_with fail
      refine (ref_at_hit H.out hm HI.out).mono ?_
      rintro e w1 ⟨rfl, hB1⟩
      have HD1 := Lib.hid (H.out.below hB1)
      have HK1 := Lib.hid (Kp.of_below (b := b) (m := g) hB1)
      have hz1 := hB1.size
      have c3 := HD1.out.c3
      rw [HO.out] at c3
      clear hB1
      go_wp2_with fail
      go_ret
      exact ⟨rfl, ROut.same HD1.out HK1.out⟩
    | none =>
      have HF := Lib.hid hf
      by_cases h64 : 64 ≤ d.L.length
      · have E := Lib.hid (show d.create nm = (2, d) by simp [Dk.create, ho', hnb, hf, h64])
        clear ho ho' hf hnb
        rw [E.out]
        go_enter Try.func42, Try.ntmps42
        go_wp2_with fail
        refine (ref_at_miss H.out hm HF.out).mono ?_
        rintro e w1 ⟨rfl, hB1⟩
        have HD1 := Lib.hid (H.out.below hB1)
        have HK1 := Lib.hid (Kp.of_below (b := b) (m := g) hB1)
        have hz1 := hB1.size
        have c3 := HD1.out.c3
        rw [HO.out] at c3
        clear hB1
        obtain ⟨lp, lc, c1⟩ := HD1.out.c1
        generalize d.L.length = n at *
        go_wp2_with fail
        go_ret
        exact ⟨rfl, ROut.same HD1.out HK1.out⟩
      · cases hr : d.refuses with
        | true =>
          have HR := Lib.hid hr
          have E := Lib.hid (show d.create nm = (143, d.gone) by simp [Dk.create, ho', hnb, hf, h64, act_no hr])
          clear ho ho' hf hr hnb
          rw [E.out]
          go_enter Try.func42, Try.ntmps42
          go_wp2_with fail
          refine (ref_at_miss H.out hm HF.out).mono ?_
          rintro e w1 ⟨rfl, hB1⟩
          have HD1 := Lib.hid (H.out.below hB1)
          have HK1 := Lib.hid (Kp.of_below (b := b) (m := g) hB1)
          have hz1 := hB1.size
          have c3 := HD1.out.c3
          rw [HO.out] at c3
          clear hB1
          obtain ⟨lp, lc, c1⟩ := HD1.out.c1
          have h64' : d.L.length < 64 := by omega
          generalize hnn : d.L.length = n at *
          have HNN := Lib.hid hnn
          clear hnn
          go_wp2_with fail
          refine (ref_step_no HD1.out HR.out).mono ?_
          rintro e w2 ⟨rfl, hd2, hk2⟩
          have HD2 := Lib.hid hd2
          have HK2 := Lib.hid (HK1.out.trans hk2)
          clear hd2 hk2
          go_wp2_with fail
          go_ret
          exact ⟨rfl, ROut.same HD2.out HK2.out⟩
        | false =>
          have HR := Lib.hid hr
          have E := Lib.hid (show d.create nm = (0, { d.stepped with L := insF ⟨nm, ⟨#[]⟩, 0⟩ d.L }) by simp [Dk.create, ho', hnb, hf, h64, act_go hr]; exact put_new (f := ⟨nm, ⟨#[]⟩, 0⟩) hf)
          clear ho ho' hf hr hnb
          rw [E.out]
          go_enter Try.func42, Try.ntmps42
          go_wp2_with fail
          refine (ref_at_miss H.out hm HF.out).mono ?_
          rintro e w1 ⟨rfl, hB1⟩
          have HD1 := Lib.hid (H.out.below hB1)
          have HK1 := Lib.hid (Kp.of_below (b := b) (m := g) hB1)
          have hz1 := hB1.size
          have c3 := HD1.out.c3
          rw [HO.out] at c3
          clear hB1
          obtain ⟨lp, lc, c1⟩ := HD1.out.c1
          have h64' : d.L.length < 64 := by omega
          generalize hnn : d.L.length = n at *
          have HNN := Lib.hid hnn
          clear hnn
          go_wp2_with fail
          refine (ref_step_go HD1.out HR.out hl hs).mono ?_
          rintro e w2 ⟨rfl, hd2, hk2⟩
          have HD2 := Lib.hid hd2
          have HK2 := Lib.hid (HK1.out.trans hk2)
          have hz2 := HK2.out.size
          clear hd2 hk2
          go_wp2_with fail
          refine (ref_put HD2.out (by show d.L.length ≤ 64; rw [HNN.out]; exact hm) ⟨nm, ⟨#[]⟩, 0⟩).mono ?_
          rintro e w3 ⟨rfl, hd3, hk3⟩
          have HD3 := Lib.hid hd3
          have HK3 := Lib.hid hk3
          clear hd3 hk3
          go_wp2_with fail
          go_ret
          refine ⟨rfl, ROut.new HK2.out HD3.out HK3.out⟩
set_option maxRecDepth 100000 in
set_option maxHeartbeats 8000000 in
theorem ref_remove {d : Dk} {w : World} {b g : Nat} (h : RAt w b g d) (hok : d.Ok) (hs : d.steps < 4611686018427387904) (nm : ByteArray) :
    Calls Try.prog 47 #[.pointer (some ⟨b, 0, none⟩), .string nm] w fun e w' => e = .returned (.int .i64 (d.remove nm).1) ∧ ROut w w' b g (d.remove nm).2 := by
  have H := Lib.hid h
  have HOK := Lib.hid hok
  have hm := hok.many
  have hl := hok.left
  have hus := hok.used
  have hrm := hok.room
  unfold maxLen at *
  clear hok h
  by_cases ho : d.off = true
  · have HO := Lib.hid ho
    have E := Lib.hid (show d.remove nm = (143, d) by simp [Dk.remove, ho])
    clear ho
    rw [E.out]
    go_enter Try.func47, Try.ntmps47
    go_wp2_with fail
    refine (ref_at H.out hm nm).mono ?_
    rintro e w1 ⟨rfl, hB1⟩
    have HD1 := Lib.hid (H.out.below hB1)
    have HK1 := Lib.hid (Kp.of_below (b := b) (m := g) hB1)
    have hz1 := hB1.size
    have c3 := HD1.out.c3
    rw [HO.out] at c3
    clear hB1
    go_wp2_with fail
    go_ret
    exact ⟨rfl, ROut.same HD1.out HK1.out⟩
  · have ho' : d.off = false := by simpa using ho
    have HO := Lib.hid ho'
    cases hf : findF nm.data.toList d.L with
    | none =>
      have HF := Lib.hid hf
      have E := Lib.hid (show d.remove nm = (140, d) by simp [Dk.remove, ho', hf])
      clear ho ho' hf
      rw [E.out]
      go_enter Try.func47, Try.ntmps47
      go_wp2_with fail
      refine (ref_at_miss H.out hm HF.out).mono ?_
      rintro e w1 ⟨rfl, hB1⟩
      have HD1 := Lib.hid (H.out.below hB1)
      have HK1 := Lib.hid (Kp.of_below (b := b) (m := g) hB1)
      have hz1 := hB1.size
      have c3 := HD1.out.c3
      rw [HO.out] at c3
      clear hB1
      go_wp2_with fail
      go_ret
      exact ⟨rfl, ROut.same HD1.out HK1.out⟩
    | some f =>
      obtain ⟨i, hix, hif⟩ := idx_some hf
      have HI := Lib.hid hix
      have HIF := Lib.hid hif
      have hil : i < d.L.length := (List.getElem?_eq_some_iff.1 hif).1
      have hfu := mem_used (List.mem_of_getElem? hif)
      have hfs := HOK.out.safe f (List.mem_of_getElem? hif)
      have hk : f.name = nm := ba_of_list (findF_key hf)
      have HKN := Lib.hid hk
      clear hix hif hk
      cases hr : d.refuses with
      | true =>
        have HR := Lib.hid hr
        have E := Lib.hid (show d.remove nm = (143, d.gone) by simp [Dk.remove, ho', hf, act_no hr])
        clear ho ho' hf hr 
        rw [E.out]
        go_enter Try.func47, Try.ntmps47
        go_wp2_with fail
        refine (ref_at_hit H.out hm HI.out).mono ?_
        rintro e w1 ⟨rfl, hB1⟩
        have HD1 := Lib.hid (H.out.below hB1)
        have HK1 := Lib.hid (Kp.of_below (b := b) (m := g) hB1)
        have hz1 := hB1.size
        have c3 := HD1.out.c3
        rw [HO.out] at c3
        clear hB1
        go_wp2_with fail
        refine (ref_step_no HD1.out HR.out).mono ?_
        rintro e w2 ⟨rfl, hd2, hk2⟩
        have HD2 := Lib.hid hd2
        have HK2 := Lib.hid (HK1.out.trans hk2)
        clear hd2 hk2
        go_wp2_with fail
        go_ret
        exact ⟨rfl, ROut.same HD2.out HK2.out⟩
      | false =>
        have HR := Lib.hid hr
        have E := Lib.hid (show d.remove nm = (0, { d.stepped with L := delF nm.data.toList d.L }) by simp [Dk.remove, ho', hf, act_go hr])
        clear ho ho' hf hr 
        rw [E.out]
        go_enter Try.func47, Try.ntmps47
        go_wp2_with fail
        refine (ref_at_hit H.out hm HI.out).mono ?_
        rintro e w1 ⟨rfl, hB1⟩
        have HD1 := Lib.hid (H.out.below hB1)
        have HK1 := Lib.hid (Kp.of_below (b := b) (m := g) hB1)
        have hz1 := hB1.size
        have c3 := HD1.out.c3
        rw [HO.out] at c3
        clear hB1
        go_wp2_with fail
        refine (ref_step_go HD1.out HR.out hl hs).mono ?_
        rintro e w2 ⟨rfl, hd2, hk2⟩
        have HD2 := Lib.hid hd2
        have HK2 := Lib.hid (HK1.out.trans hk2)
        have hz2 := HK2.out.size
        clear hd2 hk2
        go_wp2_with fail
        refine (ref_drop HD2.out hm i).mono ?_
        rintro e w3 ⟨rfl, hd3, hk3⟩
        have HD3 := Lib.hid hd3
        have HK3 := Lib.hid hk3
        clear hd3 hk3
        go_wp2_with fail
        go_ret
        refine ⟨rfl, ROut.new HK2.out ?_ HK3.out⟩
        have h9 := HD3.out
        rw [show d.stepped.L.eraseIdx i = delF nm.data.toList d.L by rw [← HKN.out]; exact (delF_erase HOK.out.rise HIF.out).symm] at h9
        exact h9
end Go.Proofs.Ytcjhkonjlhpmhaa
