/- The contract of the lexer's bytes. -/
import Derived.Test.YtnpgjlhnlakgpaaDoorLexF6
import Derived.Test.YtnpgjlhnlakgpaaDoorG03
import Derived.Test.YtnpgjlhnlakgpaaDoorU8
import Derived.Laws.BitsAllLaws
import Derived.Laws.OwnMore
namespace Go.Proofs.YtnpgjlhnlakgpaaDoor
open Go.RowKit

theorem K1.grown {b : Nat} {w0 w w' : World} {row : Option Nat} (h : K1 b w0 w) (hg : w.grownBy w' row) (hr : ∀ k, row = some k → w0.heap.size ≤ k) : K1 b w0 w' :=
  ⟨hg.os.trans h.os, hg.tape.trans h.tape, hg.output.trans h.output, Nat.le_trans h.size hg.size, fun k hk hb => (hg.block k (Nat.lt_of_lt_of_le hk h.size) (fun e => by have := hr k e.symm; omega)).trans (h.block k hk hb)⟩
/-- Where the walk of bytes stands: the lexer, the result's block, the row of bytes. -/
structure BS (w W : World) (b m : Nat) (s : ByteArray) (j : Nat) (v : Value) (L : List UInt8) : Prop where
  l : LX W b m s j
  k : K1 b w W
  hb : b < w.heap.size
  r : TB6 W w.heap.size (.int .i64 0) (.string ⟨#[]⟩) (.int .i64 0) (.int .i64 0) (.string ⟨#[]⟩) (.int .i64 0)
  o : W.ownsRow (w.heap.size + 1) 5 1 v L.length (u8s L)
section
variable {w W W' : World} {b m j j' : Nat} {s : ByteArray} {v : Value} {L : List UInt8}
theorem BS.below (h : BS w W b m s j v L) (hB : Below W.heap.size W W') : BS w W' b m s j v L :=
  ⟨h.l.below hB, h.k.step hB, h.hb, h.r.kept (b := b) (K1.of_below hB) (by have := h.hb; omega), h.o.kept ⟨hB.os, hB.tape, hB.output, hB.size, fun k hk _ => hB.block k hk⟩ (by
    cases hv : v.ownBlock with
    | none => exact .inl rfl
    | some k => exact .inr (by simp : some k ≠ none))⟩
theorem BS.place (h : BS w W b m s j v L) {x : Int} {k : Nat} (hx : x = (k : Int)) : BS w (W.setCell ⟨b, 1, none⟩ (.int .i64 x)) b m s k v L :=
  ⟨h.l.putv hx, h.k.setCell _ _, h.hb, h.r.far (by have := h.hb; omega) _ _, ownsRow_setCell_below h.o (by show b < _; have := h.hb; omega) _⟩
theorem BS.new (h : LX w b m s j) (t : TypeId) : BS w (w.alloc (.cells #[.int .i64 0, .string ⟨#[]⟩, .int .i64 0, .int .i64 0, .string ⟨#[]⟩, .int .i64 0] t)) b m s j (.slice none 0 0) [] :=
  ⟨h.alloc _, (K1.refl b w).alloc _, h.lt, TB6.new _ _ _ _ _ _ _ _, World.ownsRow_nil _ _ _ _⟩
theorem BS.grow {v' : Value} {L' : List UInt8} (h : BS w W b m s j v L) (hg : W.grownBy W' v.ownBlock) (ho : W'.ownsRow (w.heap.size + 1) 5 1 v' L'.length (u8s L')) : BS w W' b m s j v' L' := by
  have hlt : ∀ k, v.ownBlock = some k → w.heap.size + 1 ≤ k := fun k hk => (h.o.lt k hk).1
  have hne : ∀ k, k ≤ w.heap.size → some k ≠ v.ownBlock := fun k hk e => by have := hlt k e.symm; omega
  exact ⟨h.l.of_block (hg.block b h.l.lt (hne b (by have := h.hb; omega))), h.k.grown hg (fun k hk => by have := hlt k hk; omega), h.hb, h.r.of_block (hg.block _ h.r.lt (hne _ (Nat.le_refl _))), ho⟩
end
theorem hexidx_at {c : UInt8} {v : Int} (h : Lib.indexByte [48, 49, 50, 51, 52, 53, 54, 55, 56, 57, 97, 98, 99, 100, 101, 102] (c ||| 32) = v) {x : Int} (hx : x = ((c ||| 32).toNat : Int)) (w : World) :
    Calls Tryd.prog 78 #[.string ⟨#[48, 49, 50, 51, 52, 53, 54, 55, 56, 57, 97, 98, 99, 100, 101, 102]⟩, .int .u8 x] w fun e w' => e = .returned (.int .i64 v) ∧ w' = w := by
  subst hx
  rw [← h]
  refine (Tryd.strings_IndexByte _ _ w).mono ?_
  rintro e w' ⟨rfl, rfl⟩
  simp
theorem hexGo_step {s : ByteArray} {q : Nat} (h : q < s.size) {c : UInt8} (hc : s[q] = c) : hexGo (fromS s q) = if c = 39 then some (some []) else match hexv c with
    | none => some none
    | some d => (hexGo (fromS s (q + 1))).map fun o => o.map fun ds => d :: ds := by
  rw [from_lt h, hc]; rfl
/-- Bytes of their digits. -/
def bytesR : Option (Option (List Nat)) → Rs
  | none => .bad 41 0
  | some none => .bad 42 0
  | some (some ds) => if ds.length % 2 = 1 then .bad 42 0 else if 1000 < (pairsF ds).length then .bad 2 0 else .ok 3 ⟨#[]⟩ ⟨5, 0, ⟨(pairsF ds).toArray⟩⟩ (ds.length + 3)
theorem bytesF_of (l : List UInt8) : bytesF l = bytesR (hexGo (l.drop 2)) := by
  unfold bytesF bytesR
  cases hexGo (l.drop 2) with
  | none => rfl
  | some o => cases o <;> rfl

theorem cell_new1 (w : World) (a : Addr) (u x : Value) : ((w.setCell a u).alloc (.cells #[x] 5)).cell? ((⟨w.heap.size, 0, none⟩ : Addr).add 0) = some x := by
  have hz : (w.setCell a u).heap.size = w.heap.size := by simp [World.setCell]
  have := World.cell?_alloc_new (w.setCell a u) #[x] 5 0
  rw [hz] at this
  exact this
set_option maxRecDepth 100000 in
set_option maxHeartbeats 8000000 in
theorem bytes_any {w : World} {b m i : Nat} {s : ByteArray} (h : LX w b m s i) (hs : s.size ≤ 4000) (hi : i + 2 ≤ s.size) :
    Calls Tryd.prog 79 #[.pointer (some ⟨b, 0, none⟩)] w (TokPost b m s i (bytesF (fromS s i)) w) := by
  have H := Lib.hid h
  have hb := h.lt
  have lc0 := h.c0
  have lc1 := h.c1
  have lf1 := h.f1
  obtain ⟨G, hG⟩ : ∃ G, hexGo (fromS s (i + 2)) = G := ⟨_, rfl⟩
  have HB : Hid (bytesF (fromS s i) = bytesR G) := by show _ = _; rw [bytesF_of, from_from, hG]
  have HG := Lib.hid hG
  clear h hG
  obtain ⟨Rr, hRr⟩ : ∃ Rr, bytesF (fromS s i) = Rr := ⟨_, rfl⟩
  have HRr := Lib.hid hRr
  rw [hRr]
  clear hRr
  obtain ⟨i0, hi0, hz0, hz1, hz2⟩ := info_parts u8info
  go_enter Tryd.func79, Tryd.ntmps79
  go_wp2_with fail
  have HS0 : Hid (BS w ((w.setCell ⟨b, 1, none⟩ (.int .i64 ((i : Int) + 2))).alloc (.cells #[.int .i64 0, .string ⟨#[]⟩, .int .i64 0, .int .i64 0, .string ⟨#[]⟩, .int .i64 0] 30)) b m s (i + 2) (.slice none 0 0) []) := by
    have hz : (w.setCell ⟨b, 1, none⟩ (.int .i64 ((i : Int) + 2))).heap.size = w.heap.size := by simp [World.setCell]
    have hT := TB6.new (w.setCell ⟨b, 1, none⟩ (.int .i64 ((i : Int) + 2))) (.int .i64 0) (.string ⟨#[]⟩) (.int .i64 0) (.int .i64 0) (.string ⟨#[]⟩) (.int .i64 0) 30
    rw [hz] at hT
    exact ⟨(H.out.putv (j := i + 2) (by omega)).alloc _, ((K1.refl b w).setCell _ _).alloc _, hb, hT, World.ownsRow_nil _ _ _ _⟩
  generalize (w.setCell ⟨b, 1, none⟩ (.int .i64 ((i : Int) + 2))).alloc (.cells #[.int .i64 0, .string ⟨#[]⟩, .int .i64 0, .int .i64 0, .string ⟨#[]⟩, .int .i64 0] 30) = W0 at *
  clear lc0 lc1 lf1
  go_loopw [6, 7] (fun rv hv wr => ∃ (p : Nat) (ds : List Nat), i + 2 + p ≤ s.size ∧ ds.length = p ∧ hv = .bool (decide (p % 2 = 1)) ∧ BS w wr b m s (i + 2 + p) rv (hexB ds) ∧ (∀ x ∈ ds, x < 16) ∧
      Hid (G = (hexGo (fromS s (i + 2 + p))).map fun o => o.map fun r => ds ++ r)) (fun _ _ wr => s.size - plc wr b)
  case atStart =>
    refine ⟨0, [], hi, rfl, rfl, HS0.out, by simp, ?_⟩
    show _ = _
    rw [← HG.out]
    cases hexGo (fromS s (i + 2)) with
    | none => rfl
    | some o => cases o <;> rfl
  case round =>
    obtain ⟨p, ds, hp, hdl, rfl, hS, hd16, HGG⟩ := hrel
    have HS := Lib.hid hS
    have HD16 := Lib.hid hd16
    have lc0 := hS.l.c0
    have lc1 := hS.l.c1
    have lf1 := hS.l.f1
    have llt := hS.l.lt
    have hplc := hS.l.plc
    obtain ⟨N, hN⟩ : ∃ N, (hexB ds).length = N := ⟨_, rfl⟩
    obtain ⟨sp, sc, hsl⟩ := owns_sl2 hS.o
    rw [hN] at hsl
    subst hsl
    have hNl : N ≤ 4000 := by have := hexB_len ds; omega
    clear hS hd16
    obtain ⟨q, hq⟩ : ∃ q, i + 2 + p = q := ⟨_, rfl⟩
    rw [hq] at lc1 HS HGG hp hplc
    by_cases hlt : q < s.size
    · have q2 : decide ((s.size : Int) ≤ (q : Int)) = false := by simp; omega
      have hlti : (q : Int) < (s.size : Int) := by omega
      obtain ⟨c, hc⟩ : ∃ c, s[q] = c := ⟨_, rfl⟩
      have HST := Lib.hid (hexGo_step hlt hc)
      by_cases h39 : c = 39
      · have q39 : (((c).toNat : Int) == 39) = true := by rw [h39]; rfl
        have HGv : Hid (G = some (some ds)) := by
          show _ = _
          rw [HGG.out, HST.out, if_pos h39]
          simp
        by_cases hodd : p % 2 = 1
        · have HE : Hid (Rr = .bad 42 0) := by
            show _ = _
            rw [← HRr.out, HB.out, HGv.out, bytesR, if_pos (by rw [hdl]; exact hodd)]
          clear HGG HST HGv h39
          obtain ⟨⟨rc0, rc1, rc2, rc3, rc4, rc5⟩, rf0, rf1, rf2, rf3, rf4, rf5⟩ := HS.out.r; have rlt := World.block_lt_of_cell? _ _ rc0
          go_wp2_with fail
          go_quiet (fail)
          go_wp2_with fail
          go_quiet (fail)
          go_wp2_with fail
          refine bodyPost_ret (v := .tuple #[.agg #[.int .i64 0, .string ⟨#[]⟩, .int .i64 0, .int .i64 0, .string ⟨#[]⟩, .int .i64 0], .int .i64 42, .int .i64 (i : Int)]) (by simp [results, Tryd.results79, go_sem, rc0, rc1, rc2, rc3, rc4, rc5]) rfl ⟨by repeat' (first | with_reducible exact HS.out.k | with_reducible refine K1.drew ?_ | with_reducible refine K1.drewN ?_ _ | with_reducible refine K1.setCell ?_ _ _ | with_reducible refine K1.setNew ?_ (by omega) _ _), by rw [HE.out]; exact ⟨_, _, _, _, _, _, rfl⟩⟩
        · have hd2 : decide (p % 2 = 1) = false := by simpa using hodd
          have hpl := hexB_pairs ds (by omega)
          by_cases hbig : 1000 < N
          · have HE : Hid (Rr = .bad 2 0) := by
              show _ = _
              rw [← HRr.out, HB.out, HGv.out, bytesR, if_neg (by rw [hdl]; exact hodd), if_pos (by rw [← hpl, hN]; exact hbig)]
            clear HGG HST HGv h39 hpl
            have hbigi : (1000 : Int) < (N : Int) := by omega
            obtain ⟨⟨rc0, rc1, rc2, rc3, rc4, rc5⟩, rf0, rf1, rf2, rf3, rf4, rf5⟩ := HS.out.r; have rlt := World.block_lt_of_cell? _ _ rc0
            go_wp2_with fail
            go_quiet (fail)
            go_wp2_with fail
            go_quiet (fail)
            go_wp2_with fail
            refine bodyPost_ret (v := .tuple #[.agg #[.int .i64 0, .string ⟨#[]⟩, .int .i64 0, .int .i64 0, .string ⟨#[]⟩, .int .i64 0], .int .i64 2, .int .i64 (i : Int)]) (by simp [results, Tryd.results79, go_sem, rc0, rc1, rc2, rc3, rc4, rc5]) rfl ⟨by repeat' (first | with_reducible exact HS.out.k | with_reducible refine K1.drew ?_ | with_reducible refine K1.drewN ?_ _ | with_reducible refine K1.setCell ?_ _ _ | with_reducible refine K1.setNew ?_ (by omega) _ _), by rw [HE.out]; exact ⟨_, _, _, _, _, _, rfl⟩⟩
          · have HE : Hid (Rr = .ok 3 ⟨#[]⟩ ⟨5, 0, bs (hexB ds)⟩ (p + 3)) := by
              show _ = _
              rw [← HRr.out, HB.out, HGv.out, bytesR, if_neg (by rw [hdl]; exact hodd), if_neg (by rw [← hpl, hN]; exact hbig), hpl, hdl]; rfl
            obtain ⟨S, hS⟩ : ∃ S, bs (hexB ds) = S := ⟨_, rfl⟩
            have hcv : ∀ k, (convert 49 9 (.slice sp N sc)).run Tryd.prog ((wr.drewN k).setCell ⟨b, 1, none⟩ (.int .i64 ((q : Int) + 1))) = .ok (.string S) ((wr.drewN k).setCell ⟨b, 1, none⟩ (.int .i64 ((q : Int) + 1))) := by
              intro k
              rw [← hS]
              have h1 := ((HS.out.below (below_drewN k)).place (x := (q : Int) + 1) (k := q + 1) (by omega)).o
              rw [hN] at h1
              exact conv_all h1 hN.symm
            rw [hS] at HE
            clear HGG HST HGv h39 hpl hS
            have hbigi : ¬ (1000 : Int) < (N : Int) := by omega
            obtain ⟨⟨rc0, rc1, rc2, rc3, rc4, rc5⟩, rf0, rf1, rf2, rf3, rf4, rf5⟩ := HS.out.r; have rlt := World.block_lt_of_cell? _ _ rc0
            go_wp2_with fail
            go_quiet (fail)
            go_wp2_with fail
            go_quiet (fail)
            go_wp2_with fail
            refine bodyPost_ret (v := .tuple #[(⟨3, ⟨#[]⟩, ⟨5, 0, S⟩, i⟩ : Tk).v, .int .i64 0, .int .i64 0]) (by simp [results, Tryd.results79, go_sem, rc0, rc1, rc2, rc3, rc4, rc5]) rfl ⟨by repeat' (first | with_reducible exact HS.out.k | with_reducible refine K1.drew ?_ | with_reducible refine K1.drewN ?_ _ | with_reducible refine K1.setCell ?_ _ _ | with_reducible refine K1.setNew ?_ (by omega) _ _), by rw [HE.out]; exact ⟨rfl, by rw [show i + (p + 3) = q + 1 by omega]; repeat' (first | with_reducible exact HS.out.l | with_reducible refine LX.drew ?_ | with_reducible refine LX.drewN ?_ _ | with_reducible refine LX.far ?_ (by omega) _ _ | with_reducible refine LX.putv (i := q) ?_ (by omega))⟩⟩
      · have hn39 : (((c).toNat : Int) == 39) = false := by
          have : c.toNat ≠ 39 := fun h => h39 (UInt8.toNat_inj.1 h)
          simp; omega
        have HIX := Lib.hid (hex_idx c)
        obtain ⟨x, hx⟩ : ∃ x, Lib.indexByte [48, 49, 50, 51, 52, 53, 54, 55, 56, 57, 97, 98, 99, 100, 101, 102] (c ||| 32) = x := ⟨_, rfl⟩
        have HX := Lib.hid hx
        have hOr : bits BinOp.or IntKind.u8 (c.toNat : Int) 32 = ((c ||| 32).toNat : Int) := by
          have := u8_or_nat c.toNat 32 c.toNat_lt (by decide)
          rw [UInt8.toNat_or]; exact this
        cases hv : hexv c with
        | none =>
          have HE : Hid (Rr = .bad 42 0) := by
            show _ = _
            rw [← HRr.out, HB.out, HGG.out, HST.out, if_neg h39, hv]; rfl
          have hor : x < 0 ∨ (0 ≤ x ∧ (c.toNat : Int) < 48) := by
            have h1 := HIX.out
            rw [hx, hv] at h1
            split at h1
            · omega
            · cases h1
          clear hx HIX hv
          obtain ⟨⟨rc0, rc1, rc2, rc3, rc4, rc5⟩, rf0, rf1, rf2, rf3, rf4, rf5⟩ := HS.out.r; have rlt := World.block_lt_of_cell? _ _ rc0
          rcases hor with hx0 | ⟨hx0, hx1⟩ <;>
          (go_wp2_with fail
           go_quiet (fail)
           go_wp2_with fail
           go_quiet (fail)
           go_wp2_with (first | (go_at_call 78; refine (hexidx_at HX.out rfl _).mono ?_; rintro e w9 ⟨rfl, hw9⟩; rw [hw9]; clear hw9) | fail)
           refine bodyPost_ret (v := .tuple #[.agg #[.int .i64 0, .string ⟨#[]⟩, .int .i64 0, .int .i64 0, .string ⟨#[]⟩, .int .i64 0], .int .i64 42, .int .i64 (i : Int)]) (by simp [results, Tryd.results79, go_sem, rc0, rc1, rc2, rc3, rc4, rc5]) rfl ⟨by repeat' (first | with_reducible exact HS.out.k | with_reducible refine K1.drew ?_ | with_reducible refine K1.drewN ?_ _ | with_reducible refine K1.setCell ?_ _ _ | with_reducible refine K1.setNew ?_ (by omega) _ _), by rw [HE.out]; exact ⟨_, _, _, _, _, _, rfl⟩⟩)
        | some d =>
          have hd16 : d < 16 := hexv_lt c d hv
          have hxd : x = (d : Int) ∧ 48 ≤ (c.toNat : Int) := by
            have h1 := HIX.out
            rw [hx, hv] at h1
            split at h1
            · cases h1
            · simp at h1
              omega
          obtain ⟨rfl, hc48⟩ := hxd
          have HGn : Hid (G = (hexGo (fromS s (q + 1))).map fun o => o.map fun r => (ds ++ [d]) ++ r) := by
            show _ = _
            rw [HGG.out, HST.out, if_neg h39, hv]
            cases hexGo (fromS s (q + 1)) with
            | none => rfl
            | some o =>
              cases o with
              | none => rfl
              | some r => simp
          have HD2 : Hid (∀ x ∈ ds ++ [d], x < 16) := by
            intro x hx
            rcases List.mem_append.1 hx with hx | hx
            · exact HD16.out x hx
            · simp at hx; subst hx; exact hd16
          clear hx HIX HGG HST hv h39
          by_cases hodd : p % 2 = 1
          · have hd2 : decide (p % 2 = 1) = true := by simpa using hodd
            obtain ⟨M, hM⟩ : ∃ M, p / 2 = M := ⟨_, rfl⟩
            have hNM : N = M + 1 := by have := hexB_len ds; omega
            obtain ⟨a, ha16, hget, hset⟩ := hexB_odd ds d (by rw [hdl]; exact hodd) HD16.out hd16
            rw [hdl, hM] at hget hset
            obtain ⟨y, hy⟩ : ∃ y, 16 * a = y := ⟨_, rfl⟩
            obtain ⟨z, hz⟩ : ∃ z, 16 * a + d = z := ⟨_, rfl⟩
            have hy256 : y < 256 := by omega
            have hz256 : z < 256 := by omega
            have hOr2 : bits BinOp.or IntKind.u8 (y : Int) (d : Int) = (z : Int) := by
              rw [u8_or_nat y d (by omega) (by omega), ← hy, or_half ⟨a, ha16⟩ ⟨d, hd16⟩, hz]
            rw [hy] at hget
            rw [hz] at hset
            have ho0 := HS.out.o
            rw [hN] at ho0
            obtain ⟨g, rfl⟩ : ∃ g, sp = some ⟨g, 0, none⟩ := by
              rcases ho0.2 with ⟨h1, h2⟩ | ⟨g, cap, cur, h1, _⟩
              · omega
              · cases h1; exact ⟨g, rfl⟩
            have hgb : w.heap.size + 1 ≤ g ∧ g < wr.heap.size := ho0.lt g rfl
            obtain ⟨hgb1, hgb2⟩ := hgb
            have hcell : wr.cell? ⟨g, M, none⟩ = some (.int .u8 (y : Int)) := by
              rw [ho0.cellAt M (by omega)]
              show ((hexB ds).map _)[M]? = _
              rw [List.getElem?_map, hget]
              simp; omega
            have hfroz := ho0.frozenAt M
            have HP : Hid (∀ k, BS w (((wr.drewN k).setCell ⟨b, 1, none⟩ (.int .i64 ((q : Int) + 1))).setCell ⟨g, M, none⟩ (.int .u8 (z : Int))) b m s (q + 1) (.slice (some ⟨g, 0, none⟩) N sc) (hexB (ds ++ [d]))) := by
              intro k
              have h1 := (HS.out.below (below_drewN k)).place (x := (q : Int) + 1) (k := q + 1) (by omega)
              have h2 := h1.o
              rw [hN] at h2
              obtain ⟨h3, h4⟩ := h2.stored M (.int .u8 (z : Int))
              refine h1.grow h4 ?_
              have e1 : (hexB (ds ++ [d])).length = N := by rw [hset, List.length_set, hN]
              have e2 : u8s (hexB (ds ++ [d])) = (u8s (hexB ds)).set M (.int .u8 (z : Int)) := by
                rw [hset]
                unfold u8s
                rw [List.map_set]
                congr 1
                simp; omega
              rw [e1, e2]; exact h3
            have hMl : M ≤ 4000 := by omega
            subst hNM
            clear hget hset ho0 hz hy hM hd2 hNl
            go_wp2_with fail
            go_quiet (fail)
            go_wp2_with fail
            go_quiet (fail)
            go_wp2_with (first | (go_at_call 78; refine (hexidx_at HX.out rfl _).mono ?_; rintro e w9 ⟨rfl, hw9⟩; rw [hw9]; clear hw9) | fail)
            go_roundw
            case rel => exact ⟨p + 1, ds ++ [d], by omega, by simp [hdl], by simp; omega, by rw [show i + 2 + (p + 1) = q + 1 by omega]; exact HP.out _, HD2.out, by rw [show i + 2 + (p + 1) = q + 1 by omega]; exact HGn⟩
            case measure => rw [(HP.out _).l.plc, hplc]; omega
          · have hd2 : decide (p % 2 = 1) = false := by simpa using hodd
            have hb2 := hexB_even ds d (by omega)
            have HL2 : Hid ((hexB (ds ++ [d])).length = N + 1 ∧ u8s (hexB (ds ++ [d])) = u8s (hexB ds) ++ [.int .u8 ((d : Int) * 16)]) := by
              refine ⟨by rw [hb2]; simp [hN], ?_⟩
              rw [hb2, u8s_append]
              congr 1
              simp [u8s]; omega
            have HP : Hid (∀ k, BS w (((wr.drewN k).setCell ⟨b, 1, none⟩ (.int .i64 ((q : Int) + 1))).alloc (.cells #[.int .u8 ((d : Int) * 16)] 5)) b m s (q + 1) (.slice sp N sc) (hexB ds)) := by
              intro k
              have h1 := (HS.out.below (below_drewN k)).place (x := (q : Int) + 1) (k := q + 1) (by omega)
              exact h1.below ((Below.refl _ _).alloc (Nat.le_refl _) _)
            have HO : Hid (∀ k, (((wr.drewN k).setCell ⟨b, 1, none⟩ (.int .i64 ((q : Int) + 1))).alloc (.cells #[.int .u8 ((d : Int) * 16)] 5)).ownsRow (w.heap.size + 1) 5 1 (.slice sp N sc) N (u8s (hexB ds))) := by
              intro k
              have := (HP.out k).o
              rwa [hN] at this
            have hsz := HS.out.k.size
            have hrl := HS.out.r.lt
            clear hb2
            go_wp2_with fail
            go_quiet (fail)
            go_wp2_with fail
            go_quiet (fail)
            go_wp2_with (first
              | (go_at_call 78; refine (hexidx_at HX.out rfl _).mono ?_; rintro e w9 ⟨rfl, hw9⟩; rw [hw9]; clear hw9)
              | (at_builtin; refine wpList_append_own _ rfl _ _ 49 rfl (w.heap.size + 1) 5 i0 (.int .u8 0) 1 1 Tryd.underlying49 hi0 hz0 hz1 hz2 rfl (by decide) _ _ _ rfl (HO.out _) ⟨wr.heap.size, 0, none⟩ 1 1 [.int .u8 ((d : Int) * 16)] rfl rfl (fun j u hj => by match j, hj with | 0, hj => simp at hj; subst hj; exact cell_new1 _ _ _ _) (fun u hu => by simp at hu; subst hu; rfl) (by unfold maxLen; omega) (by omega) (by simp [World.setCell]; omega) ?_; intro v' w1 hown' hgrow _; have HOW := Lib.hid hown'; have HGR := Lib.hid hgrow; clear hown' hgrow)
              | fail)
            go_roundw
            case rel => exact ⟨p + 1, ds ++ [d], by omega, by simp [hdl], by simp; omega, by rw [show i + 2 + (p + 1) = q + 1 by omega]; exact (HP.out _).grow HGR.out (by rw [HL2.out.1, HL2.out.2]; exact HOW.out), HD2.out, by rw [show i + 2 + (p + 1) = q + 1 by omega]; exact HGn⟩
            case measure => rw [((HP.out _).grow HGR.out (L' := hexB (ds ++ [d])) (by rw [HL2.out.1, HL2.out.2]; exact HOW.out)).l.plc, hplc]; omega
    · have q2 : decide ((s.size : Int) ≤ (q : Int)) = true := by simp; omega
      have HE : Hid (Rr = .bad 41 0) := by
        show _ = _
        have : G = none := by rw [HGG.out, from_ge (s := s) (i := q) (by omega)]; rfl
        rw [← HRr.out, HB.out, this]; rfl
      obtain ⟨⟨rc0, rc1, rc2, rc3, rc4, rc5⟩, rf0, rf1, rf2, rf3, rf4, rf5⟩ := HS.out.r; have rlt := World.block_lt_of_cell? _ _ rc0
      go_wp2_with fail
      go_quiet (fail)
      go_wp2_with fail
      refine bodyPost_ret (v := .tuple #[.agg #[.int .i64 0, .string ⟨#[]⟩, .int .i64 0, .int .i64 0, .string ⟨#[]⟩, .int .i64 0], .int .i64 41, .int .i64 (i : Int)]) (by simp [results, Tryd.results79, go_sem, rc0, rc1, rc2, rc3, rc4, rc5]) rfl ⟨by repeat' (first | with_reducible exact HS.out.k | with_reducible refine K1.drew ?_ | with_reducible refine K1.drewN ?_ _ | with_reducible refine K1.setCell ?_ _ _ | with_reducible refine K1.setNew ?_ (by omega) _ _), by rw [HE.out]; exact ⟨_, _, _, _, _, _, rfl⟩⟩
end Go.Proofs.YtnpgjlhnlakgpaaDoor
