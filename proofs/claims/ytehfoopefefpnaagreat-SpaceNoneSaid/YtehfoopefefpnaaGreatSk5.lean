/- Words and contracts that the proofs of this set use; each part says what it holds. -/
import Derived.Laws.CopyOwn
import Derived.Test.YtehfoopefefpnaaGreatSk4
import Derived.Test.YtehfoopefefpnaaGreatSk3
import Derived.Test.YtehfoopefefpnaaGreatSk2
/- Package store: New. -/
set_option linter.unusedSimpArgs false
set_option linter.unusedVariables false
namespace Go.Proofs.YtehfoopefefpnaaGreat
open Go.RowKit

attribute [local go_sem ↓] Go.wp_at_zero Go.wp_at_succ
def nwSup (s : SuS) : SuS := ⟨s.sectors, s.epoch, s.gens + 1⟩
def nwNode (kind gens : Nat) (x : NoS) : NoS := ⟨kind, 1, gens + 1, 0, min (x.change + 1) 1073741824, 0, 0, 0, 0, 0, 0⟩
theorem nwNode_ok (kind gens : Nat) (x : NoS) (hk : kind = 1 ∨ kind = 2) (hg : gens < 1073741824) : (nwNode kind gens x).ok where
  gen := by show gens + 1 ≤ _; omega
  change := by show min (x.change + 1) 1073741824 ≤ _; omega
  q0 := rfl
  q1 := rfl
  q2 := rfl
  q3 := rfl
  q4 := rfl
  q5 := rfl
  kd := by
    rcases hk with rfl | rfl
    · exact .inr (.inl ⟨rfl, by show 1 ≤ 1; omega, by show 1 ≤ 255; omega, by show 0 ≤ 9728; omega⟩)
    · exact .inr (.inr ⟨rfl, rfl, by show 0 ≤ 9728; omega, rfl⟩)
theorem min_cast (a b : Nat) (A B : Int) (ha : (a : Int) = A) (hb : (b : Int) = B) : min A B = ((min a b : Nat) : Int) := by
  subst ha hb
  omega
/-- Another super is known. -/
def supSt (s : StS) (sup : SuS) : StS := ⟨s.d, sup, s.will⟩
theorem ST.sup {B : Nat} {p : StP} {s : StS} {w : World} (h : ST B p s w) (sup : SuS) :
    ST B p (supSt s sup) (((w.setCell ⟨p.k, 1, none⟩ (.int .i64 (sup.sectors : Int))).setCell ⟨p.k, 2, none⟩ (.int .i64 (sup.epoch : Int))).setCell ⟨p.k, 3, none⟩ (.int .i64 (sup.gens : Int))) ∧
    Keep (fun j => j = p.k) w (((w.setCell ⟨p.k, 1, none⟩ (.int .i64 (sup.sectors : Int))).setCell ⟨p.k, 2, none⟩ (.int .i64 (sup.epoch : Int))).setCell ⟨p.k, 3, none⟩ (.int .i64 (sup.gens : Int))) := by
  have F := h.far
  have hk : Keep (fun j => j = p.k) w (((w.setCell ⟨p.k, 1, none⟩ (.int .i64 (sup.sectors : Int))).setCell ⟨p.k, 2, none⟩ (.int .i64 (sup.epoch : Int))).setCell ⟨p.k, 3, none⟩ (.int .i64 (sup.gens : Int))) := ((keep_set _ _ 1 _).trans (keep_set _ _ 2 _) (fun _ _ h => h)).trans (keep_set _ _ 3 _) (fun _ _ h => h)
  have hb := blk_set (blk_set (blk_set h.blk (.int .i64 (sup.sectors : Int)) (j := 1)) (.int .i64 (sup.epoch : Int)) (j := 2)) (.int .i64 (sup.gens : Int)) (j := 3)
  exact ⟨⟨hb.trans rfl, h.drv.keep hk (fun e => F.kkd e.symm) (fun j e => by obtain rfl : p.g = j := Option.some.inj e; exact fun e => F.kg e.symm) (fun j e => by cases e), h.will.keep hk (fun e => F.bk e), fun e he => (h.data e he).keep hk (fun j ej e' => (F.data e he j ej).1 e'), h.newk, h.newb⟩, hk⟩
theorem supSt_ok {s : StS} (h : s.ok) {sup : SuS} (hs : sup.sectors = s.sup.sectors) : (supSt s sup).ok :=
  ⟨h.on, h.len, hs.trans h.secs, h.head, h.rise, h.few, h.each⟩
/-- Behind New. -/
def newN (s : StS) (m kind : Nat) (x : NoS) (d : List UInt8) (A : Option Addr) (c : Nat) (A' : Option Addr) (c' : Nat) : StS :=
  putSt (supSt (putSt s ⟨0, A, c, superE (nwSup s.sup)⟩) (nwSup s.sup)) ⟨35 + m / 4, A', c', splice d (32 * (m % 4)) (nodeE (nwNode kind s.sup.gens x))⟩
def NwP (B : Nat) (p : StP) (s : StS) (m kind : Nat) (x : NoS) (d : List UInt8) (w : World) (r : Ending) (w' : World) : Prop := ∃ A c A' c', r = .returned (.tuple #[.int .i64 (m : Int), .int .i64 0]) ∧ ST B p (newN s m kind x d A c A' c') w' ∧ Keep (fun j => j = p.b ∨ j = p.k) w w'
def NwI (m : Nat) (w : World) (v : Value) (W : World) : Prop := ∃ i : Nat, 1 ≤ i ∧ i ≤ m ∧ v = .int .i64 (i : Int) ∧ Below w.heap.size w W
set_option maxRecDepth 100000 in
set_option maxHeartbeats 8000000 in
theorem snew_walk (B : Nat) (p : StP) (s : StS) (w : World) (h : ST B p s w) (hs : s.ok) (m : Nat) (hm : 1 ≤ m) (hm2 : m < 32) (xs : Nat → NoS) (hxs : ∀ n, 1 ≤ n → n ≤ m → nodeAt s n (xs n)) (hne : ∀ n, 1 ≤ n → n < m → (xs n).kind ≠ 0) (h0 : (xs m).kind = 0) (hok : s.sup.ok) (hg : s.sup.gens < 1073741824) (h4 : s.will.length ≤ 22) (kind : Nat) (hkd : kind = 1 ∨ kind = 2) (d : List UInt8) (hd : viewS s (35 + m / 4) = some d) :
    Calls Tryz.prog 15 #[.pointer (some ⟨p.k, 0, none⟩), .int .i64 (kind : Int)] w (NwP B p s m kind (xs m) d w) := by
  have F := h.far
  have HL := Lib.hid (live_walk B p s w h)
  have HNODE : Hid (∀ n W, 1 ≤ n → n ≤ m → Below w.heap.size w W → Calls Tryz.prog 42 #[.pointer (some ⟨p.k, 0, none⟩), .int .i64 (n : Int)] W fun e w' => e = .returned (.tuple #[.agg #[.int .i64 ((xs n).kind : Int), .int .i64 ((xs n).links : Int), .int .i64 ((xs n).gen : Int), .int .i64 ((xs n).size : Int), .int .i64 ((xs n).change : Int), .int .i64 ((xs n).p0 : Int), .int .i64 ((xs n).p1 : Int), .int .i64 ((xs n).p2 : Int), .int .i64 ((xs n).p3 : Int), .int .i64 ((xs n).one : Int), .int .i64 ((xs n).two : Int)], .int .i64 0]) ∧ Below W.heap.size W w') := Lib.hid (fun n W h1 h2 hW => snode_walk B p s W (h.below hW) hs n (by omega) (xs n) (hxs n h1 h2))
  obtain ⟨chn, hchn⟩ : ∃ q : Nat, q = (xs m).change := ⟨_, rfl⟩
  have hch : chn ≤ 1073741824 := by
    obtain ⟨_, _, _, ho⟩ := hxs m hm (Nat.le_refl _)
    rw [hchn]; exact ho.change
  obtain ⟨s1, e1⟩ : ∃ q : Int, q = (s.sup.sectors : Int) := ⟨_, rfl⟩
  obtain ⟨s2, e2⟩ : ∃ q : Int, q = (s.sup.epoch : Int) := ⟨_, rfl⟩
  obtain ⟨s3, e3⟩ : ∃ q : Int, q = (s.sup.gens : Int) := ⟨_, rfl⟩
  obtain ⟨s4, e4⟩ : ∃ q : Int, q = ((s.sup.gens + 1 : Nat) : Int) := ⟨_, rfl⟩
  obtain ⟨ch, e5⟩ : ∃ q : Int, q = (chn : Int) := ⟨_, rfl⟩
  obtain ⟨t, e6⟩ : ∃ q : Int, q = ((min (chn + 1) 1073741824 : Nat) : Int) := ⟨_, rfl⟩
  have hCS : Hid (∀ W, Below w.heap.size w W → W.cell? ⟨p.k, 1, none⟩ = some (.int .i64 s1) ∧ W.cell? ⟨p.k, 2, none⟩ = some (.int .i64 s2) ∧ W.cell? ⟨p.k, 3, none⟩ = some (.int .i64 s3)) := Lib.hid (fun W hW => by
    have hb := (h.below hW).blk
    rw [e1, e2, e3]
    exact ⟨(blk_cells hb 1).trans rfl, (blk_cells hb 2).trans rfl, (blk_cells hb 3).trans rfl⟩)
  have hnok : (nwSup s.sup).ok := ⟨hok.1, hok.2.1, hok.2.2.1, by show s.sup.gens + 1 ≤ _; omega⟩
  have HE : Hid (∀ W, Calls Tryz.prog 43 #[.agg #[.int .i64 s1, .int .i64 s2, .int .i64 s4]] W fun e w' => ∃ A' d, d = superE (nwSup s.sup) ∧ e = .returned (.tuple #[.slice A' d.length d.length, .int .i64 0]) ∧ NB W.heap.size w' A' d.length d ∧ Below W.heap.size W w') := Lib.hid (fun W => by
    rw [e1, e2, e4]
    exact sencode_walk (nwSup s.sup) hnok W)
  have HPUT : Hid (∀ W A, Below w.heap.size w W → Sl W 1 (.slice A 128 128) 128 (bv (superE (nwSup s.sup))) → Calls Tryz.prog 36 #[.pointer (some ⟨p.k, 0, none⟩), .int .i64 0, .slice A 128 128] W (SpP B p s 0 (superE (nwSup s.sup)) W)) := Lib.hid (fun W A hW hsl =>
    sput_walk B p s W (h.below hW) hs 0 (by have := hs.len; omega) (.inl (by omega)) _ A 128 hsl (superE_len _) (.inr (by omega)))
  have hnd := nwNode_ok kind s.sup.gens (xs m) hkd hg
  obtain ⟨ki, hki⟩ : ∃ q : Int, q = (kind : Int) := ⟨_, rfl⟩
  have HSN : Hid (∀ W A c, ST B p (supSt (putSt s ⟨0, A, c, superE (nwSup s.sup)⟩) (nwSup s.sup)) W → Calls Tryz.prog 44 #[.pointer (some ⟨p.k, 0, none⟩), .int .i64 (m : Int), .agg #[.int .i64 ki, .int .i64 1, .int .i64 s4, .int .i64 0, .int .i64 t, .int .i64 0, .int .i64 0, .int .i64 0, .int .i64 0, .int .i64 0, .int .i64 0]] W (SpP B p (supSt (putSt s ⟨0, A, c, superE (nwSup s.sup)⟩) (nwSup s.sup)) (35 + m / 4) (splice d (32 * (m % 4)) (nodeE (nwNode kind s.sup.gens (xs m)))) W)) := Lib.hid (fun W A c hW => by
    have hk1 : (putSt s ⟨0, A, c, superE (nwSup s.sup)⟩).ok := putSt_ok hs (by show 0 < s.d.sure.length; have := hs.len; omega) (.inl (by show 0 < 1; omega)) (superE_len _) (.inr (by omega))
    have hl3 : (putSt s ⟨0, A, c, superE (nwSup s.sup)⟩).will.length < 24 := by
      show (insW _ s.will).length < 24
      rw [insW_len _ hs.rise]
      split <;> omega
    rw [e4, e6, hchn, hki]
    exact ssetnode_walk B p _ W hW (supSt_ok hk1 rfl) m hm2 (nwNode kind s.sup.gens (xs m)) hnd d (by
      show viewS (putSt s _) _ = _
      rw [view_put hs, if_neg (by show ¬ 0 = 35 + m / 4; omega)]
      exact hd) (.inr hl3))
  have HSUP : Hid (∀ W A c, ST B p (putSt s ⟨0, A, c, superE (nwSup s.sup)⟩) W → ST B p (supSt (putSt s ⟨0, A, c, superE (nwSup s.sup)⟩) (nwSup s.sup)) (((W.setCell ⟨p.k, 1, none⟩ (.int .i64 s1)).setCell ⟨p.k, 2, none⟩ (.int .i64 s2)).setCell ⟨p.k, 3, none⟩ (.int .i64 s4)) ∧ Keep (fun j => j = p.k) W (((W.setCell ⟨p.k, 1, none⟩ (.int .i64 s1)).setCell ⟨p.k, 2, none⟩ (.int .i64 s2)).setCell ⟨p.k, 3, none⟩ (.int .i64 s4))) := Lib.hid (fun W A c hW => by
    have := hW.sup (nwSup s.sup)
    rw [e1, e2, e4]
    exact this)
  have HCP : Hid (∀ W A c, ST B p (putSt s ⟨0, A, c, superE (nwSup s.sup)⟩) W → (W.cell? ⟨p.k, 1, none⟩ = some (.int .i64 s1) ∧ W.cell? ⟨p.k, 2, none⟩ = some (.int .i64 s2) ∧ W.cell? ⟨p.k, 3, none⟩ = some (.int .i64 s3)) ∧ W.frozen? ⟨p.k, 1, none⟩ = false ∧ W.frozen? ⟨p.k, 2, none⟩ = false ∧ W.frozen? ⟨p.k, 3, none⟩ = false) := Lib.hid (fun W A c hW => by
    rw [e1, e2, e3]
    exact ⟨⟨(blk_cells hW.blk 1).trans rfl, (blk_cells hW.blk 2).trans rfl, (blk_cells hW.blk 3).trans rfl⟩, blk_frees hW.blk 1, blk_frees hW.blk 2, blk_frees hW.blk 3⟩)
  have HSL := Lib.hid (superE_len (nwSup s.sup))
  have w1 : IntKind.i64.wrap (s3 + 1) = s4 := by rw [IntWalk.i64_in _ (by omega)]; omega
  have w2 : IntKind.i64.wrap (ch + 1) = ch + 1 := IntWalk.i64_in _ (by omega)
  have w3 : min (ch + 1) 1073741824 = t := by rw [e6]; exact min_cast _ _ _ _ (by rw [e5]; rfl) rfl
  have g3 : ¬ (1073741824 : Int) ≤ s3 := by omega
  have HCH : Hid (ch = ((xs m).change : Int)) := Lib.hid (by rw [e5, hchn])
  have HF := Lib.hid (show p.k < w.heap.size ∧ p.b < w.heap.size ∧ p.b ≠ p.k from ⟨F.k, F.b, F.bk⟩)
  have HNE := Lib.hid hne
  have H0 := Lib.hid h0
  clear h hs hxs hne h0 hok hg h4 hd F hchn hch e1 e2 e3 e4 e5 e6 hnok hnd
  rw [← hki]
  have hkd : ki = 1 ∨ ki = 2 := by omega
  clear hki
  rcases hkd with rfl | rfl
  all_goals
    go_enter Tryz.func15, Tryz.ntmps15
    go_wp2_with fail
    refine HL.out.mono ?_
    rintro r' w' ⟨rfl, rfl⟩
    go_wp2_with fail
    go_loopw [7] (fun v wr => NwI m w' v wr) (fun v _ => 32 - (intOf v).toNat)
    case atStart => exact ⟨1, Nat.le_refl _, hm, rfl, Below.refl _ _⟩
    case round =>
      obtain ⟨i, hi1, hi, rfl, hbw⟩ := hrel
      have HBW := Lib.hid hbw
      have HNO := HNODE.out i wr hi1 hi hbw
      have ga : (i : Int) < 32 := by omega
      by_cases hlt : i < m
      · have hne := HNE.out i hi1 hlt
        obtain ⟨x, hx⟩ : ∃ x, x = xs i := ⟨_, rfl⟩
        rw [← hx] at HNO hne
        have HNO := Lib.hid HNO
        have kb : ((x.kind : Int) == 0) = false := beq_eq_false_iff_ne.2 (by omega)
        have kc : ¬ (x.kind : Int) = 0 := by omega
        have gc : IntKind.i64.wrap ((i : Int) + 1) = (i : Int) + 1 := IntWalk.i64_in _ (by omega)
        clear hx hbw hne
        go_wp2_with fail
        refine HNO.out.mono ?_
        rintro r' w2 ⟨rfl, hb2⟩
        have HR : Hid (NwI m w' (.int .i64 ((i : Int) + 1)) (w2.alloc (.cells x.cells 69))) := Lib.hid ⟨i + 1, by omega, hlt, by rw [Int.natCast_add]; rfl, (bstep HBW.out hb2).alloc (bstep HBW.out hb2).size _⟩
        clear hb2
        unfold NoS.cells at HR
        go_wp2_with fail
        go_roundw
        case rel => exact HR.out
        case measure => simp only [intOf]; omega
      · obtain rfl : i = m := by omega
        have HNO := Lib.hid HNO
        have hk0 : ((xs i).kind : Int) = 0 := by have := H0.out; omega
        rw [hk0, ← HCH.out] at HNO
        generalize ((xs i).links : Int) = a1 at HNO
        generalize ((xs i).gen : Int) = a2 at HNO
        generalize ((xs i).size : Int) = a3 at HNO
        generalize ((xs i).p0 : Int) = a5 at HNO
        generalize ((xs i).p1 : Int) = a6 at HNO
        generalize ((xs i).p2 : Int) = a7 at HNO
        generalize ((xs i).p3 : Int) = a8 at HNO
        generalize ((xs i).one : Int) = a9 at HNO
        generalize ((xs i).two : Int) = a10 at HNO
        clear hlt hbw
        go_wp2_with fail
        refine HNO.out.mono ?_
        rintro r' w1' ⟨rfl, hb1⟩
        obtain ⟨W2, hW2⟩ : ∃ W2, W2 = w1'.alloc (.cells #[.int .i64 0, .int .i64 a1, .int .i64 a2, .int .i64 a3, .int .i64 ch, .int .i64 a5, .int .i64 a6, .int .i64 a7, .int .i64 a8, .int .i64 a9, .int .i64 a10] 69) := ⟨_, rfl⟩
        have hn2 := blk_new w1' (.cells #[.int .i64 0, .int .i64 a1, .int .i64 a2, .int .i64 a3, .int .i64 ch, .int .i64 a5, .int .i64 a6, .int .i64 a7, .int .i64 a8, .int .i64 a9, .int .i64 a10] 69)
        have hb2 : Below w1'.heap.size w1' W2 := by rw [hW2]; exact (Below.refl _ w1').alloc (Nat.le_refl _) _
        rw [← hW2] at hn2
        have x0 := (blk_cells hn2 0).trans (show _ = some (.int .i64 0) from rfl)
        have HN2 := Lib.hid hn2
        have hB2 := bstep (bstep HBW.out hb1) hb2
        have HB1 := Lib.hid (bstep HBW.out hb1)
        have HB2 := Lib.hid hB2
        obtain ⟨c1, c2, c3⟩ := hCS.out W2 hB2
        have HW2 := Lib.hid hW2
        clear hb1 hb2 hn2 hB2 hW2
        go_upto_region 10 with fail
        rw [← HW2.out]
        go_upto_region 15 with fail
        obtain ⟨W3, hW3⟩ : ∃ W3, W3 = W2.alloc (.cells #[.int .i64 s1, .int .i64 s2, .int .i64 s3] 88) := ⟨_, rfl⟩
        have hn3 := blk_new W2 (.cells #[.int .i64 s1, .int .i64 s2, .int .i64 s3] 88)
        have hb3 : Below W2.heap.size W2 W3 := by rw [hW3]; exact (Below.refl _ W2).alloc (Nat.le_refl _) _
        rw [← hW3] at hn3
        have q2 := (blk_cells hn3 2).trans (show _ = some (.int .i64 s3) from rfl)
        have f2 := blk_frees hn3 2
        have HN3 := Lib.hid hn3
        have HX3 := Lib.hid ((Keep.of_below (S := fun _ => False) hb3).blk HN2.out id)
        have HB3 := Lib.hid (bstep HB2.out hb3)
        rw [← hW3]
        clear hn3 hb3 hW3 c1 c2 c3 x0
        go_upto_region 16 with fail
        obtain ⟨W4, hW4⟩ : ∃ W4, W4 = W3.setCell ⟨W2.heap.size, 2, none⟩ (.int .i64 s4) := ⟨_, rfl⟩
        have hn4 := (blk_set HN3.out (.int .i64 s4) (j := 2)).trans (show _ = some (.cells #[.int .i64 s1, .int .i64 s2, .int .i64 s4] 88 (0, 0)) from rfl)
        have hk4 := keep_set W3 W2.heap.size 2 (.int .i64 s4)
        rw [← hW4] at hn4 hk4 ⊢
        have HLT : Hid (w'.heap.size ≤ w1'.heap.size ∧ w1'.heap.size < W2.heap.size) := Lib.hid ⟨HB1.out.size, blk_lt HN2.out⟩
        have r0 := (blk_cells hn4 0).trans (show _ = some (.int .i64 s1) from rfl)
        have r1 := (blk_cells hn4 1).trans (show _ = some (.int .i64 s2) from rfl)
        have r2 := (blk_cells hn4 2).trans (show _ = some (.int .i64 s4) from rfl)
        have HN4 := Lib.hid hn4
        have HX4 := Lib.hid (hk4.blk HX3.out (by have := HLT.out; omega))
        have HB4 := Lib.hid (HB3.out.trans (hk4.below (fun j (e : j = W2.heap.size) => by have := HLT.out; omega) HB3.out.size))
        clear hn4 hk4 hW4 q2 f2
        go_wp2_with fail
        refine (HE.out _).mono ?_
        rintro r' W5 ⟨A5, d5, hd5, rfl, hnb5, hb5⟩
        have hdl : d5.length = 128 := by rw [hd5]; exact HSL.out
        have hsl := hnb5.sl
        rw [hdl, hd5] at hsl
        rw [hdl]
        have HP := Lib.hid (HPUT.out W5 A5 (bstep HB4.out hb5) hsl)
        have HB5 := Lib.hid (bstep HB4.out hb5)
        have HN5 := Lib.hid ((Keep.of_below (S := fun _ => False) hb5).blk HN4.out id)
        have HX5 := Lib.hid ((Keep.of_below (S := fun _ => False) hb5).blk HX4.out id)
        clear hdl hsl hnb5 hb5 hd5 r0 r1 r2
        go_wp2_with fail
        refine HP.out.mono ?_
        rintro r' W6 ⟨A6, c6, rfl, hst6, hk6⟩
        obtain ⟨⟨c1, c2, c3⟩, f1, f2, f3⟩ := HCP.out W6 A6 c6 hst6
        obtain ⟨hst7, hk7⟩ := HSUP.out W6 A6 c6 hst6
        have HST7 := Lib.hid hst7
        have HK7 := Lib.hid hk7
        have hn6 := hk6.blk HN5.out (fun e => by have := HLT.out; have := HF.out; have e : W2.heap.size = p.b := e; omega)
        have HX6 := Lib.hid (hk6.blk HX5.out (fun e => by have := HLT.out; have := HF.out; have e : w1'.heap.size = p.b := e; omega))
        have HN6 := Lib.hid hn6
        have m0 := (blk_cells hn6 0).trans (show _ = some (.int .i64 s1) from rfl)
        have m1 := (blk_cells hn6 1).trans (show _ = some (.int .i64 s2) from rfl)
        have m2 := (blk_cells hn6 2).trans (show _ = some (.int .i64 s4) from rfl)
        have HK6 := Lib.hid ((Keep.of_below HB5.out).trans hk6 (fun _ _ h => h))
        clear hst6 hk6 hst7 hk7 hn6
        go_upto_region 21 with fail
        obtain ⟨W7, hW7⟩ : ∃ W7, W7 = ((W6.setCell ⟨p.k, 1, none⟩ (.int .i64 s1)).setCell ⟨p.k, 2, none⟩ (.int .i64 s2)).setCell ⟨p.k, 3, none⟩ (.int .i64 s4) := ⟨_, rfl⟩
        rw [← hW7] at HST7 HK7 ⊢
        have hn7 := HK7.out.blk HN6.out (fun e => by have := HLT.out; have := HF.out; have e : W2.heap.size = p.k := e; omega)
        have hx7 := HK7.out.blk HX6.out (fun e => by have := HLT.out; have := HF.out; have e : w1'.heap.size = p.k := e; omega)
        have k2 := (blk_cells hn7 2).trans (show _ = some (.int .i64 s4) from rfl)
        have x4 := (blk_cells hx7 4).trans (show _ = some (.int .i64 ch) from rfl)
        have HSN7 := Lib.hid (HSN.out W7 A6 c6 HST7.out)
        clear c1 c2 c3 f1 f2 f3 m0 m1 m2 hn7 hx7 hW7
        go_wp2_with fail
        refine HSN7.out.mono ?_
        rintro r' W8 ⟨A8, c8, rfl, hst8, hk8⟩
        have HQ : Hid (NwP B p s i kind (xs i) d w' (.returned (.tuple #[.int .i64 (i : Int), .int .i64 0])) W8) := Lib.hid ⟨A6, c6, A8, c8, rfl, hst8, ((HK6.out.mono (T := fun j => j = p.b ∨ j = p.k) (fun j _ h => .inl h)).trans HK7.out (fun j _ h => .inr h)).trans hk8 (fun j _ h => .inl h)⟩
        clear hst8 hk8 k2 x4
        go_wp2
        go_ret2
        exact HQ.out
end Go.Proofs.YtehfoopefefpnaaGreat
/- Package store: blank. -/
set_option linter.unusedSimpArgs false
set_option linter.unusedVariables false
namespace Go.Proofs.YtehfoopefefpnaaGreat
open Go.RowKit

attribute [local go_sem ↓] Go.wp_at_zero Go.wp_at_succ
/-- The first sectors that are taken. -/
def mkB : Nat → List UInt8
  | 0 => List.replicate 128 0
  | n + 1 => setP (mkB n) n true
theorem mkB_len (n : Nat) : (mkB n).length = 128 := by
  induction n with
  | zero => unfold mkB; rw [List.length_replicate]
  | succ n ih => unfold mkB; rw [setP_len]; exact ih
theorem onP_zero (m : Nat) : onP (List.replicate 128 0) m = false := by
  rw [onP_bit]
  have : (List.replicate 128 (0 : UInt8)).getD (m / 8) 0 = 0 := by
    rw [List.getD_eq_getElem?_getD, List.getElem?_replicate]
    split <;> rfl
  rw [this]
  simp
theorem onP_mkB (n : Nat) (hn : n ≤ 1024) (m : Nat) : onP (mkB n) m = decide (m < n) := by
  induction n with
  | zero => rw [mkB, onP_zero, decide_eq_false (by omega)]
  | succ n ih =>
    rw [mkB, onP_set _ (mkB_len n) n (by omega) true m, ih (by omega)]
    by_cases h : m = n
    · rw [if_pos h, decide_eq_true (by omega)]
    · rw [if_neg h]
      by_cases h2 : m < n
      · rw [decide_eq_true h2, decide_eq_true (by omega)]
      · rw [decide_eq_false h2, decide_eq_false (by omega)]
def rootN : NoS := ⟨2, 1, 0, 0, 0, 0, 0, 0, 0, 0, 0⟩
theorem rootN_ok : rootN.ok := ⟨by decide, by decide, rfl, rfl, rfl, rfl, rfl, rfl, .inr (.inr ⟨rfl, rfl, by decide, rfl⟩)⟩
def zero128 : List UInt8 := List.replicate 128 0
theorem zero128_len : zero128.length = 128 := List.length_replicate ..
def nodeL (k : Nat) : List UInt8 := if k = 0 then splice zero128 32 (nodeE rootN) else zero128
theorem nodeL_len (k : Nat) : (nodeL k).length = 128 := by
  unfold nodeL
  split
  · rw [length_splice _ _ _ (by rw [nodeE_len, zero128_len]; decide)]; exact zero128_len
  · exact zero128_len
def bl0 (n : Nat) : List (Nat × List UInt8) := [(0, superE ⟨n, 0, 0⟩), (1, headE [])]
def blS (i : Nat) : List (Nat × List UInt8) := (List.range i).map fun k => (26 + k, seatE ⟨0, 0, []⟩)
def blN (i : Nat) : List (Nat × List UInt8) := (List.range i).map fun k => (35 + k, nodeL k)
def blankL (n : Nat) : List (Nat × List UInt8) := bl0 n ++ blS 8 ++ [(34, mkB 43)] ++ blN 8
theorem blS_succ (i : Nat) : blS (i + 1) = blS i ++ [(26 + i, seatE ⟨0, 0, []⟩)] := by unfold blS; rw [List.range_succ, List.map_append]; rfl
theorem blN_succ (i : Nat) : blN (i + 1) = blN i ++ [(35 + i, nodeL i)] := by unfold blN; rw [List.range_succ, List.map_append]; rfl
/-- A list of writes that grows. -/
def BkL (w : World) (L : List (Nat × List UInt8)) (v : Value) (W : World) : Prop := ∃ (es : List WE) (A : Option Addr) (c : Nat), esW es = L ∧ v = .slice A es.length c ∧ NR w.heap.size 100 2 W (.slice A es.length c) es.length (es.flatMap WE.cells) ∧ (∀ e ∈ es, NB w.heap.size W e.A e.c e.d) ∧ Below w.heap.size w W
theorem BkL.below {w W W' : World} {L : List (Nat × List UInt8)} {v : Value} (h : BkL w L v W) (hb : Below W.heap.size W W') : BkL w L v W' := by
  obtain ⟨es, A, c, h1, h2, h3, h4, h5⟩ := h
  exact ⟨es, A, c, h1, h2, h3.below hb, fun e he => (h4 e he).below hb, bstep h5 hb⟩
theorem BkL.app {w W W' : World} {es : List WE} {A : Option Addr} {c : Nat} {v' : Value} {L : List (Nat × List UInt8)} (h1 : esW es = L) (h3 : NR w.heap.size 100 2 W (.slice A es.length c) es.length (es.flatMap WE.cells)) (h4 : ∀ e ∈ es, NB w.heap.size W e.A e.c e.d) (h5 : Below w.heap.size w W) (x : WE) (hx : NB w.heap.size W x.A x.c x.d) (hl : x.d.length = 128)
    (g4 : W'.ownsRow 0 100 2 v' (es.length + 1) (es.flatMap WE.cells ++ [.int .i64 (x.at_ : Int), .slice x.A 128 x.c])) (g5 : Keep (fun k => (Value.slice A es.length c).ownBlock = some k) (W.alloc (.cells #[.int .i64 (x.at_ : Int), .slice x.A 128 x.c] 100)) W') (g6 : v'.ownBlock = (Value.slice A es.length c).ownBlock ∨ v'.ownBlock = some (W.alloc (.cells #[.int .i64 (x.at_ : Int), .slice x.A 128 x.c] 100)).heap.size) : BkL w (L ++ [(x.at_, x.d)]) v' W' ∧ ∀ A c d, NB w.heap.size W A c d → NB w.heap.size W' A c d := by
  have hb1 : Below W.heap.size W (W.alloc (.cells #[.int .i64 (x.at_ : Int), .slice x.A 128 x.c] 100)) := (Below.refl _ W).alloc (Nat.le_refl _) _
  have hG := (h3.below hb1).grown rfl (bstep h5 hb1) g4 g5 g6
  obtain ⟨A', c', rfl, _⟩ := Rd.of_own g4
  have hlen : (es ++ [x]).length = es.length + 1 := by simp
  have hd : ∀ A c d, NB w.heap.size W A c d → NB w.heap.size W' A c d := fun A c d he => by
    have he1 := he.below hb1
    refine he1.keep g5 (fun j ej hj => ?_)
    obtain ⟨_, cs, fr, hq⟩ := he1.fresh j ej
    exact own_ne_blk (h3.below hb1).own hq (by decide) hj rfl
  refine ⟨⟨es ++ [x], A', c', ?_, by rw [hlen], ?_, ?_, hG.2⟩, hd⟩
  · unfold esW at h1 ⊢
    rw [List.map_append, h1]
    rfl
  · rw [hlen, List.flatMap_append]
    have : [x].flatMap WE.cells = [.int .i64 (x.at_ : Int), .slice x.A 128 x.c] := by simp [WE.cells, hl]
    rw [this]
    exact hG.1
  · intro e he
    rcases List.mem_append.1 he with he | he
    · exact hd _ _ _ (h4 e he)
    · obtain rfl : e = x := by simpa using he
      exact hd _ _ _ hx
def B1I (w : World) (n : Nat) (v7 v35 : Value) (W : World) : Prop := ∃ i : Nat, i ≤ 8 ∧ v35 = .int .i64 (i : Int) ∧ BkL w (bl0 n ++ blS i) v7 W
def B2I (N : Nat) (w : World) (v11 v47 : Value) (W : World) : Prop := ∃ (i : Nat) (A : Option Addr), i ≤ 43 ∧ v47 = .int .i64 (i : Int) ∧ v11 = .slice A 128 128 ∧ NB N W A 128 (mkB i) ∧ Below w.heap.size w W
def B3I (w : World) (n : Nat) (v7 v62 : Value) (W : World) : Prop := ∃ i : Nat, i ≤ 8 ∧ v62 = .int .i64 (i : Int) ∧ BkL w (bl0 n ++ blS 8 ++ [(34, mkB 43)] ++ blN i) v7 W
def BkP (n : Nat) (w : World) (r : Ending) (w' : World) : Prop := ∃ v, r = .returned v ∧ BkL w (blankL n) v w'
theorem seat0_ok : (⟨0, 0, []⟩ : SeS).ok := by decide
set_option maxRecDepth 100000 in
set_option maxHeartbeats 8000000 in
theorem blank_walk (n : Nat) (h1 : 64 ≤ n) (h2 : n ≤ 1024) (w : World) : Calls Tryz.prog 54 #[.int .i64 (n : Int)] w (BkP n w) := by
  have HSE : Hid (Calls Tryz.prog 43 #[.agg #[.int .i64 (n : Int), .int .i64 0, .int .i64 0]] w fun e w' => ∃ A' d, d = superE ⟨n, 0, 0⟩ ∧ e = .returned (.tuple #[.slice A' d.length d.length, .int .i64 0]) ∧ NB w.heap.size w' A' d.length d ∧ Below w.heap.size w w') := Lib.hid (sencode_walk ⟨n, 0, 0⟩ ⟨h1, h2, by show 0 ≤ 1073741824; omega, by show 0 ≤ 1073741824; omega⟩ w)
  have HH := Lib.hid (fun W => head_walk [] none 0 W (sl_nilv W) good_nil)
  have HST : Hid (∀ W, Calls Tryz.prog 91 #[.agg #[.int .i64 0, .int .i64 0, .slice none 0 0]] W fun e w' => ∃ A' d, d = seatE ⟨0, 0, []⟩ ∧ e = .returned (.tuple #[.slice A' d.length d.length, .int .i64 0]) ∧ NB W.heap.size w' A' d.length d ∧ Below W.heap.size W w') := Lib.hid (fun W => seatencode_walk ⟨0, 0, []⟩ seat0_ok none 0 W ⟨none, 0, rfl, .inl rfl, fun _ => ⟨rfl, rfl⟩, Nat.le_refl _, rfl⟩)
  have HSL := Lib.hid (superE_len ⟨n, 0, 0⟩)
  have HHL := Lib.hid (headE_len [] (by decide))
  have HEL := Lib.hid (seatE_len ⟨0, 0, []⟩ seat0_ok)
  clear h1 h2
  go_enter Tryz.func54, Tryz.ntmps54
  go_wp2_with fail
  refine HSE.out.mono ?_
  rintro r' w1 ⟨A1, d1, hd1, rfl, hn1, hb1⟩
  have hl1 : d1.length = 128 := by rw [hd1]; exact HSL.out
  rw [hl1]
  rw [hl1, hd1] at hn1
  have HN1 := Lib.hid hn1
  have HB1 := Lib.hid hb1
  clear hd1 hl1 hn1 hb1
  go_wp2_with fail
  refine (HH.out w1).mono ?_
  rintro r' w2 ⟨A2, d2, hd2, rfl, hn2, hb2⟩
  have hl2 : d2.length = 128 := by rw [hd2]; exact HHL.out
  rw [hl2]
  rw [hl2, hd2] at hn2
  have hx1 := HN1.out.below hb2
  have hx2 := hn2.mono HB1.out.size
  have hB2 := bstep HB1.out hb2
  have HBK : Hid (BkL w (bl0 n) (.slice (some ⟨w2.heap.size, 0, none⟩) 2 2) (w2.alloc (.cells #[.int .i64 0, .slice A1 128 128, .int .i64 1, .slice A2 128 128] 100))) := Lib.hid (by
    have ha : Below w2.heap.size w2 (w2.alloc (.cells #[.int .i64 0, .slice A1 128 128, .int .i64 1, .slice A2 128 128] 100)) := (Below.refl _ w2).alloc (Nat.le_refl _) _
    refine ⟨[⟨0, A1, 128, superE ⟨n, 0, 0⟩⟩, ⟨1, A2, 128, headE []⟩], _, _, rfl, rfl, ⟨?_, fun j e => ?_⟩, fun e he => ?_, bstep hB2 ha⟩
    · have hc : [(⟨0, A1, 128, superE ⟨n, 0, 0⟩⟩ : WE), ⟨1, A2, 128, headE []⟩].flatMap WE.cells = [.int .i64 0, .slice A1 128 128, .int .i64 1, .slice A2 128 128] := by
        simp only [List.flatMap_cons, List.flatMap_nil, WE.cells, HSL.out, HHL.out]
        rfl
      rw [hc]
      exact own_new w2 #[.int .i64 0, .slice A1 128 128, .int .i64 1, .slice A2 128 128] 100 2 2 rfl (by decide)
    · obtain rfl := Option.some.inj e
      exact hB2.size
    · rcases List.mem_cons.1 he with rfl | he
      · exact hx1.below ha
      · obtain rfl : e = ⟨1, A2, 128, headE []⟩ := by simpa using he
        exact hx2.below ha)
  clear hd2 hl2 hn2 hb2 hx1 hx2 hB2
  go_wp2_with fail
  refine (HST.out _).mono ?_
  rintro r' w3 ⟨A3, d3, hd3, rfl, hn3, hb3⟩
  have hl3 : d3.length = 128 := by rw [hd3]; exact HEL.out
  rw [hl3]
  rw [hl3, hd3] at hn3
  have hbk3 := HBK.out.below hb3
  have HBK3 := Lib.hid hbk3
  have HN3 : Hid (NB w.heap.size w3 A3 128 (seatE ⟨0, 0, []⟩)) := Lib.hid (hn3.mono (by obtain ⟨_, _, _, _, _, _, _, hb⟩ := HBK.out; exact hb.size))
  clear hd3 hl3 hn3 hb3 hbk3
  go_wp2_with fail
  go_loopw [7, 35] (fun v7 v35 wr => B1I w n v7 v35 wr ∧ NB w.heap.size wr A3 128 (seatE ⟨0, 0, []⟩)) (fun _ v _ => 8 - (intOf v).toNat)
  case atStart => exact ⟨⟨0, Nat.zero_le _, rfl, by unfold blS; rw [List.range_zero, List.map_nil, List.append_nil]; exact HBK3.out⟩, HN3.out⟩
  case round =>
    obtain ⟨⟨i, hi, rfl, hbk⟩, hn3⟩ := hrel
    have HN3r := Lib.hid hn3
    by_cases hlt : i < 8
    · obtain ⟨es, A6, c6, hL, rfl, hnr, hall, hb⟩ := hbk
      obtain ⟨q, hq⟩ : ∃ q : Nat, q = 26 + i := ⟨_, rfl⟩
      have gd : IntKind.i64.wrap (26 + (i : Int)) = (q : Int) := by rw [IntWalk.i64_in _ (by omega)]; omega
      have gc : IntKind.i64.wrap ((i : Int) + 1) = (i : Int) + 1 := IntWalk.i64_in _ (by omega)
      have ga : (i : Int) < 8 := by omega
      have hle : es.length ≤ 100 := by
        have := congrArg List.length hL
        unfold esW bl0 blS at this
        simp at this
        omega
      have HN6 := Lib.hid (hnr.below ((Below.refl _ wr).alloc (Nat.le_refl _) (.cells #[.int .i64 (q : Int), .slice A3 128 128] 100)))
      have HAPP := Lib.hid (fun v' W' => BkL.app (W' := W') (v' := v') hL hnr hall hb ⟨q, A3, 128, seatE ⟨0, 0, []⟩⟩ hn3 HEL.out)
      have HQ := Lib.hid hq
      obtain ⟨el, hel⟩ : ∃ z, z = es.length := ⟨_, rfl⟩
      clear hL hnr hall hb hn3 hq
      go_wp2_with (at_builtin; go_must (refine wpList_app rfl eltWr rfl rfl rfl (n := es.length) (m := 1) HN6.out.own (Sl.of_own (own_new wr #[.int .i64 (q : Int), .slice A3 128 128] 100 2 1 rfl (by decide))) (by simp [Value.oneCell']) (by omega) (by simp only [maxLen]; omega) ?_))
      intro v5 w5 g4 g5 g6 g7
      clear g7
      obtain ⟨hG, hN⟩ := HAPP.out v5 w5 g4 g5 (g6.imp id (fun h => h.trans (by rw [World.size_alloc])))
      have HR : Hid (B1I w n v5 (.int .i64 ((i : Int) + 1)) w5 ∧ NB w.heap.size w5 A3 128 (seatE ⟨0, 0, []⟩)) := Lib.hid ⟨⟨i + 1, hlt, by rw [Int.natCast_add]; rfl, by rw [blS_succ, ← List.append_assoc, ← HQ.out]; exact hG⟩, hN _ _ _ HN3r.out⟩
      clear hG hN g4 g5 g6
      go_wp2_with fail
      go_roundw
      case rel => exact HR.out
      case measure => simp only [intOf]; omega
    · obtain rfl : i = 8 := by omega
      have ga : ¬ (8 : Int) < 8 := by omega
      have HBK8 := Lib.hid hbk
      obtain ⟨Z, hZ⟩ : ∃ Z : Array Value, Z = (bv (List.replicate 128 0)).toArray := ⟨_, rfl⟩
      have hmk : ∀ W : World, (Instr.makeSlice 22 (.int .i64 128) (.int .i64 128)).run Tryz.prog W = .ok (.slice (some ⟨W.heap.size, 0, none⟩) 128 128) (W.alloc (.cells Z 5)) := fun W => by rw [hZ]; exact make128 W
      have HMK := Lib.hid hZ
      clear hbk hn3 hZ
      go_upto_region 11 with fail
      obtain ⟨W9, hW9⟩ : ∃ W9, W9 = wr.alloc (.cells Z 5) := ⟨_, rfl⟩
      have hb9 : Below wr.heap.size wr W9 := by rw [hW9]; exact (Below.refl _ wr).alloc (Nat.le_refl _) _
      have hn9 := const_nb wr.heap.size wr (List.replicate 128 0) (0, 0) (Nat.le_refl _)
      rw [← HMK.out, ← hW9, List.length_replicate] at hn9
      have HBK9 := Lib.hid (HBK8.out.below hb9)
      have HW9 : Hid (w.heap.size ≤ wr.heap.size) := Lib.hid (by obtain ⟨_, _, _, _, _, _, _, hb⟩ := HBK8.out; exact hb.size)
      have HN9 : Hid (NB w.heap.size W9 (some ⟨wr.heap.size, 0, none⟩) 128 (mkB 0)) := Lib.hid (hn9.mono HW9.out)
      rw [← hW9]
      clear hb9 hn9 hW9
      go_wp2_with fail
      go_loopw [11, 47] (fun v11 v47 wx => B2I w.heap.size W9 v11 v47 wx) (fun _ v _ => 43 - (intOf v).toNat)
      case atStart => exact ⟨0, _, Nat.zero_le _, rfl, rfl, HN9.out, Below.refl _ _⟩
      case round =>
        obtain ⟨j, A11, hj, rfl, rfl, hnb, hbx⟩ := hrel
        have HBX := Lib.hid hbx
        by_cases hlt2 : j < 43
        · have gd : (j : Int) < 43 := by omega
          have ge : IntKind.i64.wrap ((j : Int) + 1) = (j : Int) + 1 := IntWalk.i64_in _ (by omega)
          have hsl := hnb.sl
          rw [mkB_len] at hsl
          have HS := Lib.hid (set_walk (mkB j) A11 128 j true (mkB_len j) (by omega) wr (by rw [mkB_len]; exact hsl))
          have HS9 : Hid (w.heap.size ≤ wr.heap.size) := Lib.hid (Nat.le_trans (by obtain ⟨_, _, _, _, _, _, _, hb⟩ := HBK9.out; exact hb.size) hbx.size)
          clear hnb hbx hsl
          go_wp2_with fail
          refine HS.out.mono ?_
          rintro r' w6 ⟨A12, rfl, hn6, hb6⟩
          have HR : Hid (B2I w.heap.size W9 (.slice A12 128 128) (.int .i64 ((j : Int) + 1)) w6) := Lib.hid ⟨j + 1, A12, hlt2, by rw [Int.natCast_add]; rfl, rfl, hn6.mono HS9.out, bstep HBX.out hb6⟩
          clear hn6 hb6
          go_wp2_with fail
          go_roundw
          case rel => exact HR.out
          case measure => simp only [intOf]; omega
        · obtain rfl : j = 43 := by omega
          have gd : ¬ (43 : Int) < 43 := by omega
          obtain ⟨es, A6, c6, hL, hv6, hnr, hall, hb⟩ := HBK9.out.below HBX.out
          subst hv6
          have hle : es.length ≤ 100 := by
            have := congrArg List.length hL
            unfold esW bl0 blS at this
            simp at this
            omega
          have HN6 := Lib.hid (hnr.below ((Below.refl _ wr).alloc (Nat.le_refl _) (.cells #[.int .i64 34, .slice A11 128 128] 100)))
          have HAPP := Lib.hid (fun v' W' => BkL.app (W' := W') (v' := v') hL hnr hall hb ⟨34, A11, 128, mkB 43⟩ hnb (mkB_len 43))
          clear hL hnr hall hb hnb hbx
          go_wp2_with (at_builtin; go_must (refine wpList_app rfl eltWr rfl rfl rfl (n := es.length) (m := 1) HN6.out.own (Sl.of_own (own_new wr #[.int .i64 34, .slice A11 128 128] 100 2 1 rfl (by decide))) (by simp [Value.oneCell']) (by omega) (by simp only [maxLen]; omega) ?_))
          intro v5 w5 g4 g5 g6 g7
          clear g7
          obtain ⟨hG, hN⟩ := HAPP.out v5 w5 g4 g5 (g6.imp id (fun h => h.trans (by rw [World.size_alloc])))
          have HR : Hid (B3I w n v5 (.int .i64 0) w5) := Lib.hid ⟨0, Nat.zero_le _, rfl, by unfold blN; rw [List.range_zero, List.map_nil, List.append_nil]; exact hG⟩
          clear hG hN g4 g5 g6
          go_wp2_with fail
          go_loopw [7, 62] (fun v7 v62 wy => B3I w n v7 v62 wy) (fun _ v _ => 8 - (intOf v).toNat)
          case atStart => exact HR.out
          case round =>
            obtain ⟨k, hk, rfl, hbk⟩ := hrel
            have HBKr := Lib.hid hbk
            by_cases hlt3 : k < 8
            · obtain ⟨q, hq⟩ : ∃ q : Nat, q = 35 + k := ⟨_, rfl⟩
              have gd : IntKind.i64.wrap (35 + (k : Int)) = (q : Int) := by rw [IntWalk.i64_in _ (by omega)]; omega
              have gc : IntKind.i64.wrap ((k : Int) + 1) = (k : Int) + 1 := IntWalk.i64_in _ (by omega)
              have ga : (k : Int) < 8 := by omega
              have HQ := Lib.hid hq
              obtain ⟨W9, hW9⟩ : ∃ W9, W9 = wr.alloc (.cells Z 5) := ⟨_, rfl⟩
              have hb9 : Below wr.heap.size wr W9 := by rw [hW9]; exact (Below.refl _ wr).alloc (Nat.le_refl _) _
              have hn9 := const_nb wr.heap.size wr (List.replicate 128 0) (0, 0) (Nat.le_refl _)
              rw [← HMK.out, ← hW9, List.length_replicate] at hn9
              have HW9 := Lib.hid hW9
              have HS9 : Hid (w.heap.size ≤ wr.heap.size) := Lib.hid (by obtain ⟨_, _, _, _, _, _, _, hb⟩ := hbk; exact hb.size)
              have hbk9 := hbk.below hb9
              clear hbk hq hW9
              by_cases hz : k = 0
              · subst hz
                have hsl := hn9.sl
                rw [List.length_replicate] at hsl
                have HNP : Hid (Calls Tryz.prog 76 #[.slice (some ⟨wr.heap.size, 0, none⟩) 128 128, .int .i64 1, .agg #[.int .i64 2, .int .i64 1, .int .i64 0, .int .i64 0, .int .i64 0, .int .i64 0, .int .i64 0, .int .i64 0, .int .i64 0, .int .i64 0, .int .i64 0]] W9 fun e w' => ∃ A', e = .returned (.tuple #[.slice A' 128 128, .int .i64 0]) ∧ NB W9.heap.size w' A' 128 (nodeL 0) ∧ Below W9.heap.size W9 w') := Lib.hid (nput_walk rootN rootN_ok zero128 zero128_len 1 (by decide) (some ⟨wr.heap.size, 0, none⟩) 128 W9 (by rw [zero128_len]; exact hsl))
                have HS10 : Hid (w.heap.size ≤ W9.heap.size) := Lib.hid (Nat.le_trans HS9.out hb9.size)
                have HBK9 := Lib.hid hbk9
                clear hsl hbk9 hn9 hb9
                go_upto_region 22 with fail
                rw [← HW9.out]
                go_wp2_with fail
                refine HNP.out.mono ?_
                rintro r' W10 ⟨A10, rfl, hn10, hb10⟩
                obtain ⟨es, A6, c6, hL, hv6, hnr, hall, hb⟩ := HBK9.out.below hb10
                subst hv6
                have hle : es.length ≤ 100 := by
                  have := congrArg List.length hL
                  unfold esW bl0 blS blN at this
                  simp at this
                  omega
                have HN6 := Lib.hid (hnr.below ((Below.refl _ W10).alloc (Nat.le_refl _) (.cells #[.int .i64 35, .slice A10 128 128] 100)))
                have HAPP := Lib.hid (fun v' W' => BkL.app (W' := W') (v' := v') hL hnr hall hb ⟨35, A10, 128, nodeL 0⟩ (hn10.mono HS10.out) (nodeL_len 0))
                clear hL hnr hall hb hn10 hb10
                go_wp2_with (at_builtin; go_must (refine wpList_app rfl eltWr rfl rfl rfl (n := es.length) (m := 1) HN6.out.own (Sl.of_own (own_new W10 #[.int .i64 35, .slice A10 128 128] 100 2 1 rfl (by decide))) (by simp [Value.oneCell']) (by omega) (by simp only [maxLen]; omega) ?_))
                intro v5 w5 g4 g5 g6 g7
                clear g7
                obtain ⟨hG, hN⟩ := HAPP.out v5 w5 g4 g5 (g6.imp id (fun h => h.trans (by rw [World.size_alloc])))
                have HR : Hid (B3I w n v5 (.int .i64 1) w5) := Lib.hid ⟨1, by omega, rfl, by rw [blN_succ, ← List.append_assoc]; exact hG⟩
                clear hG hN g4 g5 g6
                go_wp2_with fail
                go_roundw
                case rel => exact HR.out
                case measure => simp only [intOf]; omega
              · have kb : ((k : Int) == 0) = false := beq_eq_false_iff_ne.2 (by omega)
                have kc : ¬ (k : Int) = 0 := by omega
                obtain ⟨es, A6, c6, hL, hv6, hnr, hall, hb⟩ := hbk9
                subst hv6
                have hle : es.length ≤ 100 := by
                  have := congrArg List.length hL
                  unfold esW bl0 blS blN at this
                  simp at this
                  omega
                have hnl : nodeL k = List.replicate 128 0 := by unfold nodeL; rw [if_neg hz]; rfl
                have HN6 := Lib.hid (hnr.below ((Below.refl _ W9).alloc (Nat.le_refl _) (.cells #[.int .i64 (q : Int), .slice (some ⟨wr.heap.size, 0, none⟩) 128 128] 100)))
                have HAPP := Lib.hid (fun v' W' => BkL.app (W' := W') (v' := v') hL hnr hall hb ⟨q, some ⟨wr.heap.size, 0, none⟩, 128, nodeL k⟩ (by rw [hnl]; exact hn9.mono HS9.out) (nodeL_len k))
                clear hL hnr hall hb hn9 hb9 hz hnl
                go_upto_region 21 with fail
                rw [← HW9.out]
                go_wp2_with (at_builtin; go_must (refine wpList_app rfl eltWr rfl rfl rfl (n := es.length) (m := 1) HN6.out.own (Sl.of_own (own_new W9 #[.int .i64 (q : Int), .slice (some ⟨wr.heap.size, 0, none⟩) 128 128] 100 2 1 rfl (by decide))) (by simp [Value.oneCell']) (by omega) (by simp only [maxLen]; omega) ?_))
                intro v5 w5 g4 g5 g6 g7
                clear g7
                obtain ⟨hG, hN⟩ := HAPP.out v5 w5 g4 g5 (g6.imp id (fun h => h.trans (by rw [World.size_alloc])))
                have HR : Hid (B3I w n v5 (.int .i64 ((k : Int) + 1)) w5) := Lib.hid ⟨k + 1, hlt3, by rw [Int.natCast_add]; rfl, by rw [blN_succ, ← List.append_assoc, ← HQ.out]; exact hG⟩
                clear hG hN g4 g5 g6
                go_wp2_with fail
                go_roundw
                case rel => exact HR.out
                case measure => simp only [intOf]; omega
            · obtain rfl : k = 8 := by omega
              have ga : ¬ (8 : Int) < 8 := by omega
              go_wp2
              go_ret
              exact ⟨_, rfl, HBKr.out⟩
end Go.Proofs.YtehfoopefefpnaaGreat
/- Package store: Make; what a drive has that was made ready. -/
set_option linter.unusedSimpArgs false
set_option linter.unusedVariables false
namespace Go.Proofs.YtehfoopefefpnaaGreat
open Go.RowKit

attribute [local go_sem ↓] Go.wp_at_zero Go.wp_at_succ
def blankM (M : List UInt8) (n : Nat) : List (Nat × List UInt8) := bl0 n ++ blS 8 ++ [(34, M)] ++ blN 8
theorem blankM_eq (n : Nat) : blankL n = blankM (mkB 43) n := rfl
theorem blankM_len (M : List UInt8) (n : Nat) : (blankM M n).length = 19 := rfl
theorem blankM_mem {M : List UInt8} (hM : M.length = 128) {n : Nat} {p : Nat × List UInt8} (h : p ∈ blankM M n) : p.1 < 43 ∧ p.2.length = 128 := by
  unfold blankM bl0 blS blN at h
  rcases List.mem_append.1 h with h | h
  · rcases List.mem_append.1 h with h | h
    · rcases List.mem_append.1 h with h | h
      · rcases List.mem_cons.1 h with e | h
        · rw [e]; exact ⟨by show 0 < 43; omega, superE_len _⟩
        · have e := List.mem_singleton.1 h
          rw [e]; exact ⟨by show 1 < 43; omega, headE_len [] (by decide)⟩
      · obtain ⟨k, hk, e⟩ := List.mem_map.1 h
        have := List.mem_range.1 hk
        rw [← e]; exact ⟨by show 26 + k < 43; omega, seatE_len _ seat0_ok⟩
    · have e := List.mem_singleton.1 h
      rw [e]; exact ⟨by show 34 < 43; omega, hM⟩
  · obtain ⟨k, hk, e⟩ := List.mem_map.1 h
    have := List.mem_range.1 hk
    rw [← e]; exact ⟨by show 35 + k < 43; omega, nodeL_len k⟩
structure MkM (M : List UInt8) : Prop where
  len : M.length = 128
  on : ∀ m, onP M m = decide (m < 43)
theorem mkB_ok : MkM (mkB 43) := ⟨mkB_len 43, onP_mkB 43 (by omega)⟩
def MkP (B k : Nat) (s : DrS) (g c : Nat) (w : World) (r : Ending) (w' : World) : Prop := ∃ M, MkM M ∧ WrP B k s g c (blankM M s.sure.length) w r w'
set_option maxHeartbeats 1000000 in
theorem make_walk (B k : Nat) (s : DrS) (w : World) (g c : Nat) (h : DR B k s w (some ⟨g, 0, none⟩) c none 0) (hs : s.on) (h64 : 64 ≤ s.sure.length) :
    Calls Tryz.prog 22 #[.pointer (some ⟨k, 0, none⟩)] w (MkP B k s g c w) := by
  have HSE := Lib.hid (sectors_walk B k s w _ c none 0 h)
  have HB := Lib.hid (blank_walk s.sure.length h64 hs.ok.len w)
  have HD := Lib.hid h
  have HS := Lib.hid hs
  have H64 := Lib.hid h64
  obtain ⟨m, hm⟩ : ∃ m, m = s.sure.length := ⟨_, rfl⟩
  unfold MkP
  have hHB : ∃ M, MkM M ∧ Calls Tryz.prog 54 #[.int .i64 (m : Int)] w fun r w' => ∃ v, r = .returned v ∧ BkL w (blankM M m) v w' := ⟨mkB 43, mkB_ok, by rw [hm]; exact HB.out⟩
  clear HB
  obtain ⟨M, hM, hHB⟩ := hHB
  have HB := Lib.hid hHB
  have HMM := Lib.hid hM
  rw [← hm] at HSE H64 ⊢
  have HM := Lib.hid hm
  clear h hs h64 hm hM hHB
  go_enter Tryz.func22, Tryz.ntmps22
  go_wp2_with fail
  refine HSE.out.mono ?_
  rintro r' w' ⟨rfl, rfl⟩
  go_wp2_with fail
  refine HB.out.mono ?_
  rintro r' w1 ⟨v, rfl, es, A, cx, hL, rfl, hnr, hall, hb⟩
  have hmem : ∀ e ∈ es, e.at_ < 43 ∧ e.d.length = 128 := fun e he => by
    have : (e.at_, e.d) ∈ blankM M m := by rw [← hL]; exact List.mem_map.2 ⟨e, he, rfl⟩
    exact blankM_mem HMM.out.len this
  have hlen : es.length = 19 := by
    have := congrArg List.length hL
    rw [blankM_len] at this
    unfold esW at this
    rw [List.length_map] at this
    exact this
  have h1 : ∀ e ∈ es, e.at_ < s.sure.length ∧ e.d.length = 128 := fun e he => ⟨by have := (hmem e he).1; have := H64.out; have := HM.out; omega, (hmem e he).2⟩
  have HH1 := Lib.hid h1
  have HPU := Lib.hid (dput_walk B k s A cx es (some ⟨g, 0, none⟩) c 0 w1 (HD.out.below hb) HS.out.ok HS.out.list HS.out.fuse HS.out.dead ⟨Sl.of_own hnr.own, fun e he => (hall e he).sl⟩ (by omega) h1)
  have HL := Lib.hid hL
  have HLN := Lib.hid hlen
  have HB1 := Lib.hid hb
  clear hL hnr hall hb hmem hlen h1
  go_wp2_with fail
  refine HPU.out.mono ?_
  rintro r' w3 ⟨L, lc, rfl, hd3, _, hk3⟩
  have HF := Lib.hid (put_flush (w := w') HS.out HH1.out (by have := HLN.out; omega) hd3 ((Keep.of_below (S := fun j => j = k ∨ w'.heap.size ≤ j) HB1.out).trans hk3 (fun j _ h => h.imp id (fun h => Nat.le_trans HB1.out.size h))))
  clear hd3 hk3
  go_wp2_with fail
  refine HF.out.mono ?_
  intro r' w4 hq
  rw [HL.out] at hq
  have HQ := Lib.hid hq
  obtain ⟨rfl, _, _⟩ := hq
  go_wp2
  go_ret
  exact ⟨M, HMM.out, HQ.out⟩
/-! ### what such a drive has -/
def weL (L : List (Nat × List UInt8)) : List WE := L.map fun p => ⟨p.1, none, 0, p.2⟩
theorem weL_es (L : List (Nat × List UInt8)) : esW (weL L) = L := by
  unfold esW weL
  rw [List.map_map]
  conv => rhs; rw [← List.map_id L]
  rfl
theorem weL_rise (M : List UInt8) (n : Nat) : Rising (weL (blankM M n)) := by
  unfold Rising
  have h : ((weL (blankM M n)).map (·.at_)).Pairwise (· < ·) := by
    have : (weL (blankM M n)).map (·.at_) = [0, 1, 26, 27, 28, 29, 30, 31, 32, 33, 34, 35, 36, 37, 38, 39, 40, 41, 42] := rfl
    rw [this]
    decide
  rw [List.pairwise_map] at h
  exact h
theorem weL_mem {M : List UInt8} (hM : M.length = 128) {n : Nat} {e : WE} (h : e ∈ weL (blankM M n)) : e.at_ < 43 ∧ e.d.length = 128 := by
  obtain ⟨p, hp, rfl⟩ := List.mem_map.1 h
  exact blankM_mem hM hp
theorem getW_nil {es : List WE} {n : Nat} (h : ∀ e ∈ es, e.at_ ≠ n) : getW n es = none := by
  cases hc : getW n es with
  | none => rfl
  | some y =>
    obtain ⟨hy, ha⟩ := getW_mem hc
    exact absurd ha (h y hy)
def freshD (M : List UInt8) (n : Nat) : DrS := wrS (newS n) (blankM M n)
theorem newS_on (n : Nat) (hn : n ≤ 1024) : (newS n).on := ⟨newS_ok n hn, rfl, rfl, rfl⟩
theorem freshD_on {M : List UInt8} (hM : MkM M) (n : Nat) (hn : n ≤ 1024) : (freshD M n).on :=
  wrS_on (newS_on n hn) (fun p hp => (blankM_mem hM.len hp).2)
theorem wrS_sure (s : DrS) (ws : List (Nat × List UInt8)) : (wrS s ws).sure = flF s.sure ws := rfl
theorem freshD_sure (M : List UInt8) (n : Nat) : (freshD M n).sure = flF (newS n).sure (blankM M n) := by
  unfold freshD
  rw [wrS_sure]
theorem freshD_len (M : List UInt8) (n : Nat) : (freshD M n).sure.length = n := by
  rw [freshD_sure, flF_len]
  exact List.length_replicate ..
theorem flM_get {M : List UInt8} (hM : M.length = 128) (n : Nat) (hn : 64 ≤ n) (i : Nat) : (flF (newS n).sure (blankM M n))[i]? = match getW i (weL (blankM M n)) with | some e => some e.d | none => (newS n).sure[i]? := by
  have := flF_get (weL_rise M n) (newS n).sure i (fun e he => by
    have := (weL_mem hM he).1
    show e.at_ < (List.replicate n _).length
    rw [List.length_replicate]
    omega)
  rw [weL_es] at this
  exact this
structure FrM (M : List UInt8) (n : Nat) (l : List (List UInt8)) : Prop where
  f0 : l[0]? = some (superE ⟨n, 0, 0⟩)
  f1 : l[1]? = some (headE [])
  f34 : l[34]? = some M
  fS : ∀ i, i < 8 → l[26 + i]? = some (seatE ⟨0, 0, []⟩)
  fN : ∀ i, i < 8 → l[35 + i]? = some (nodeL i)
  fZ : ∀ i, 43 ≤ i → i < n → l[i]? = some zero128
theorem frM {M : List UInt8} (hM : M.length = 128) (n : Nat) (hn : 64 ≤ n) : FrM M n (flF (newS n).sure (blankM M n)) where
  f0 := flM_get hM n hn 0
  f1 := flM_get hM n hn 1
  f34 := flM_get hM n hn 34
  fS := fun i hi => by
    rcases (by omega : i = 0 ∨ i = 1 ∨ i = 2 ∨ i = 3 ∨ i = 4 ∨ i = 5 ∨ i = 6 ∨ i = 7) with rfl | rfl | rfl | rfl | rfl | rfl | rfl | rfl
    · exact flM_get hM n hn 26
    · exact flM_get hM n hn 27
    · exact flM_get hM n hn 28
    · exact flM_get hM n hn 29
    · exact flM_get hM n hn 30
    · exact flM_get hM n hn 31
    · exact flM_get hM n hn 32
    · exact flM_get hM n hn 33
  fN := fun i hi => by
    rcases (by omega : i = 0 ∨ i = 1 ∨ i = 2 ∨ i = 3 ∨ i = 4 ∨ i = 5 ∨ i = 6 ∨ i = 7) with rfl | rfl | rfl | rfl | rfl | rfl | rfl | rfl
    · exact flM_get hM n hn 35
    · exact flM_get hM n hn 36
    · exact flM_get hM n hn 37
    · exact flM_get hM n hn 38
    · exact flM_get hM n hn 39
    · exact flM_get hM n hn 40
    · exact flM_get hM n hn 41
    · exact flM_get hM n hn 42
  fZ := fun i h1 h2 => by
    rw [flM_get hM n hn i, getW_nil (fun e he => by have := (weL_mem hM he).1; omega)]
    show (List.replicate n (List.replicate 128 0))[i]? = _
    rw [List.getElem?_replicate, if_pos h2]
    rfl
theorem fr {M : List UInt8} (hM : MkM M) (n : Nat) (hn : 64 ≤ n) : FrM M n (freshD M n).sure := by
  rw [freshD_sure]
  exact frM hM.len n hn
theorem freshD_ready {M : List UInt8} (hM : MkM M) (n : Nat) (h1 : 64 ≤ n) (h2 : n ≤ 1024) : Ready (freshD M n) ⟨n, 0, 0⟩ where
  zero := ⟨_, (fr hM n h1).f0, decS_enc _ ⟨h1, h2, by show 0 ≤ _; omega, by show 0 ≤ _; omega⟩⟩
  len := (freshD_len M n).symm
  seats := fun i hi => ⟨_, _, (fr hM n h1).fS i hi, decE_enc _ seat0_ok⟩
/-- What is seen behind Mount. -/
theorem mount_ok {d : DrS} {sup : SuS} (A : Option Addr) (h : d.on) (hr : Ready d sup) (hh : d.sure[1]? = some (headE [])) : (mountS d sup A).ok := by
  have hok := newSt_ok h hr hh
  exact comSt_ok (putSt_ok hok (x := ⟨0, A, 128, superE (nextS sup)⟩) (by show 0 < d.sure.length; have := hok.len; have h64 : 64 ≤ d.sure.length := this; omega) (.inl (by show 0 < 1; omega)) (superE_len _) (.inr (by show 0 < 24; omega)))
theorem view_mount {d : DrS} {sup : SuS} (A : Option Addr) (h : d.on) (hr : Ready d sup) (hh : d.sure[1]? = some (headE [])) {n : Nat} (hn : n < 1 ∨ 26 ≤ n) : viewS (mountS d sup A) n = if n = 0 then some (superE (nextS sup)) else d.sure[n]? := by
  have hok := newSt_ok h hr hh
  have hok2 := putSt_ok hok (x := ⟨0, A, 128, superE (nextS sup)⟩) (by show 0 < d.sure.length; have := hok.len; have h64 : 64 ≤ d.sure.length := this; omega) (.inl (by show 0 < 1; omega)) (superE_len _) (.inr (by show 0 < 24; omega))
  unfold mountS
  rw [view_com hok2 hn, view_put hok]
  by_cases h0 : n = 0
  · subst h0
    rw [if_pos rfl, if_pos rfl]
  · rw [if_neg (fun e => h0 e.symm), if_neg h0]
    rfl
theorem com_sup (s : StS) : (comSt s).sup = s.sup := rfl
theorem com_len (s : StS) : (comSt s).d.sure.length = s.d.sure.length := by
  unfold comSt
  split
  · rfl
  · exact flF_len _ _
end Go.Proofs.YtehfoopefefpnaaGreat
/- Package store: what is known of a store as a whole: its super, seats, marks and nodes. -/
set_option linter.unusedSimpArgs false
set_option linter.unusedVariables false
namespace Go.Proofs.YtehfoopefefpnaaGreat
open Go.RowKit

structure Kn (s : StS) (M : List UInt8) (xs : Nat → NoS) : Prop where
  ok : s.ok
  zero : ∃ b, viewS s 0 = some b ∧ decS b = some s.sup
  seats : ∀ i, i < 8 → ∃ b x, viewS s (26 + i) = some b ∧ decE b = some x
  marks : viewS s 34 = some M
  nodes : ∀ n, n < 32 → nodeAt s n (xs n)
theorem Kn.sup {s : StS} {M : List UInt8} {xs : Nat → NoS} (h : Kn s M xs) : s.sup.ok := by
  obtain ⟨b, _, hb⟩ := h.zero
  exact decS_ok hb
/-! ### marks up to T -/
structure MkT (M : List UInt8) (T : Nat) : Prop where
  len : M.length = 128
  on : ∀ m, onP M m = decide (m < T)
theorem MkM.t {M : List UInt8} (h : MkM M) : MkT M 43 := ⟨h.len, h.on⟩
theorem MkT.set {M : List UInt8} {T : Nat} (h : MkT M T) (hT : T < 1024) : MkT (setP M T true) (T + 1) where
  len := by rw [setP_len]; exact h.len
  on := fun m => by
    rw [onP_set M h.len T hT true m, h.on]
    by_cases hm : m = T
    · rw [if_pos hm, decide_eq_true (by omega)]
    · rw [if_neg hm]
      by_cases h2 : m < T
      · rw [decide_eq_true h2, decide_eq_true (by omega)]
      · rw [decide_eq_false h2, decide_eq_false (by omega)]
theorem MkT.count {M : List UInt8} {T : Nat} (h : MkT M T) (m k : Nat) : countP M m k = min (T - m) k := by
  induction k with
  | zero => simp [countP]
  | succ k ih =>
    rw [countP_snoc, ih, h.on]
    by_cases h2 : m + k < T
    · rw [decide_eq_true h2, if_pos rfl]; omega
    · rw [decide_eq_false h2, if_neg (by decide)]; omega
theorem MkT.first {M : List UInt8} {T : Nat} (h : MkT M T) (m k : Nat) (hm : m ≤ T) (hk : T < m + k) : firstP M m k = some T := by
  induction k generalizing m with
  | zero => omega
  | succ k ih =>
    rw [firstP, h.on]
    by_cases h2 : m < T
    · rw [decide_eq_true h2, if_pos rfl]
      exact ih (m + 1) (by omega) (by omega)
    · rw [decide_eq_false h2, if_neg (by decide)]
      congr 1
      omega
theorem MkT.none_ {M : List UInt8} {T : Nat} (h : MkT M T) (m k : Nat) (hk : m + k ≤ T) : firstP M m k = none := by
  induction k generalizing m with
  | zero => rfl
  | succ k ih =>
    rw [firstP, h.on, decide_eq_true (by omega), if_pos rfl]
    exact ih (m + 1) (by omega)
/-! ### steps -/
theorem Kn.put {s : StS} {M : List UInt8} {xs : Nat → NoS} (h : Kn s M xs) {x : WE} (h1 : x.at_ < s.d.sure.length) (h2 : 43 ≤ x.at_) (h3 : x.d.length = 128) (h4 : (getW x.at_ s.will).isSome = true ∨ s.will.length < 24) : Kn (putSt s x) M xs where
  ok := putSt_ok h.ok h1 (.inr (by omega)) h3 h4
  zero := by
    obtain ⟨b, hb, hd⟩ := h.zero
    exact ⟨b, by rw [view_put h.ok, if_neg (by omega)]; exact hb, hd⟩
  seats := fun i hi => by
    obtain ⟨b, y, hb, hd⟩ := h.seats i hi
    exact ⟨b, y, by rw [view_put h.ok, if_neg (by omega)]; exact hb, hd⟩
  marks := by rw [view_put h.ok, if_neg (by omega)]; exact h.marks
  nodes := fun n hn => nodeAt_put h.ok (by omega) (h.nodes n hn)
theorem Kn.mark {s : StS} {M M' : List UInt8} {xs : Nat → NoS} (h : Kn s M xs) {A : Option Addr} {c : Nat} (h3 : M'.length = 128) (h4 : (getW 34 s.will).isSome = true ∨ s.will.length < 24) : Kn (putSt s ⟨34, A, c, M'⟩) M' xs where
  ok := putSt_ok h.ok (by show 34 < s.d.sure.length; have := h.ok.len; omega) (.inr (by show 26 ≤ 34; omega)) h3 h4
  zero := by
    obtain ⟨b, hb, hd⟩ := h.zero
    exact ⟨b, by rw [view_put h.ok, if_neg (by show ¬ 34 = 0; omega)]; exact hb, hd⟩
  seats := fun i hi => by
    obtain ⟨b, y, hb, hd⟩ := h.seats i hi
    exact ⟨b, y, by rw [view_put h.ok, if_neg (by show ¬ 34 = 26 + i; omega)]; exact hb, hd⟩
  marks := by rw [view_put h.ok, if_pos rfl]
  nodes := fun n hn => nodeAt_put h.ok (by show 34 ≠ 35 + n / 4; omega) (h.nodes n hn)
theorem Kn.seat {s : StS} {M : List UInt8} {xs : Nat → NoS} (h : Kn s M xs) {k : Nat} (hk : k < 8) (y : SeS) (hy : y.ok) {A : Option Addr} {c : Nat} (h4 : (getW (26 + k) s.will).isSome = true ∨ s.will.length < 24) : Kn (putSt s ⟨26 + k, A, c, seatE y⟩) M xs where
  ok := putSt_ok h.ok (by show 26 + k < s.d.sure.length; have := h.ok.len; omega) (.inr (by show 26 ≤ 26 + k; omega)) (seatE_len y hy) h4
  zero := by
    obtain ⟨b, hb, hd⟩ := h.zero
    exact ⟨b, by rw [view_put h.ok, if_neg (by show ¬ 26 + k = 0; omega)]; exact hb, hd⟩
  seats := fun i hi => by
    by_cases e : i = k
    · subst e
      exact ⟨_, y, by rw [view_put h.ok, if_pos rfl], decE_enc y hy⟩
    · obtain ⟨b, z, hb, hd⟩ := h.seats i hi
      exact ⟨b, z, by rw [view_put h.ok, if_neg (by show ¬ 26 + k = 26 + i; omega)]; exact hb, hd⟩
  marks := by rw [view_put h.ok, if_neg (by show ¬ 26 + k = 34; omega)]; exact h.marks
  nodes := fun n hn => nodeAt_put h.ok (by show 26 + k ≠ 35 + n / 4; omega) (h.nodes n hn)
def updX (xs : Nat → NoS) (m : Nat) (y : NoS) : Nat → NoS := fun n => if n = m then y else xs n
theorem Kn.setn {s : StS} {M : List UInt8} {xs : Nat → NoS} (h : Kn s M xs) {m : Nat} (hm : m < 32) {y : NoS} (hy : y.ok) {d : List UInt8} (hd : viewS s (35 + m / 4) = some d) {A : Option Addr} {c : Nat} (h4 : (getW (35 + m / 4) s.will).isSome = true ∨ s.will.length < 24) : Kn (putSt s ⟨35 + m / 4, A, c, splice d (32 * (m % 4)) (nodeE y)⟩) M (updX xs m y) where
  ok := putSt_ok h.ok (by show 35 + m / 4 < s.d.sure.length; have := h.ok.len; omega) (.inr (by show 26 ≤ 35 + m / 4; omega)) (by
    show (splice d (32 * (m % 4)) (nodeE y)).length = 128
    rw [length_splice _ _ _ (by rw [nodeE_len, view_len h.ok hd]; omega)]
    exact view_len h.ok hd) h4
  zero := by
    obtain ⟨b, hb, hd⟩ := h.zero
    exact ⟨b, by rw [view_put h.ok, if_neg (by show ¬ 35 + m / 4 = 0; omega)]; exact hb, hd⟩
  seats := fun i hi => by
    obtain ⟨b, z, hb, hd⟩ := h.seats i hi
    exact ⟨b, z, by rw [view_put h.ok, if_neg (by show ¬ 35 + m / 4 = 26 + i; omega)]; exact hb, hd⟩
  marks := by rw [view_put h.ok, if_neg (by show ¬ 35 + m / 4 = 34; omega)]; exact h.marks
  nodes := fun n hn => by
    unfold updX
    by_cases e : n = m
    · subst e
      rw [if_pos rfl]
      exact nodeAt_same h.ok hd hy
    · rw [if_neg e]
      exact nodeAt_other h.ok hd e (h.nodes n hn)
theorem Kn.super {s : StS} {M : List UInt8} {xs : Nat → NoS} (h : Kn s M xs) {sup : SuS} (hs : sup.sectors = s.sup.sectors) (ho : sup.ok) {A : Option Addr} {c : Nat} (h4 : (getW 0 s.will).isSome = true ∨ s.will.length < 24) : Kn (supSt (putSt s ⟨0, A, c, superE sup⟩) sup) M xs := by
  have hok : (putSt s ⟨0, A, c, superE sup⟩).ok := putSt_ok h.ok (by show 0 < s.d.sure.length; have := h.ok.len; omega) (.inl (by show 0 < 1; omega)) (superE_len _) h4
  refine ⟨supSt_ok hok hs, ⟨superE sup, ?_, decS_enc _ ho⟩, fun i hi => ?_, ?_, fun n hn => ?_⟩
  · show viewS (putSt s _) 0 = _
    rw [view_put h.ok, if_pos rfl]
  · obtain ⟨b, z, hb, hd⟩ := h.seats i hi
    exact ⟨b, z, by show viewS (putSt s _) _ = _; rw [view_put h.ok, if_neg (by show ¬ 0 = 26 + i; omega)]; exact hb, hd⟩
  · show viewS (putSt s _) _ = _
    rw [view_put h.ok, if_neg (by show ¬ 0 = 34; omega)]
    exact h.marks
  · have := nodeAt_put h.ok (x := ⟨0, A, c, superE sup⟩) (by show 0 ≠ 35 + n / 4; omega) (h.nodes n hn)
    exact this
theorem put_len_le {s : StS} (h : s.ok) (x : WE) : (putSt s x).will.length ≤ s.will.length + 1 := by
  show (insW x s.will).length ≤ _
  rw [insW_len _ h.rise]
  split <;> omega
theorem Kn.new {s : StS} {M : List UInt8} {xs : Nat → NoS} (h : Kn s M xs) {m : Nat} (hm : m < 32) {kind : Nat} (hk : kind = 1 ∨ kind = 2) (hg : s.sup.gens < 1073741824) {d : List UInt8} (hd : viewS s (35 + m / 4) = some d) (h4 : s.will.length ≤ 22) (x : NoS) (A : Option Addr) (c : Nat) (A' : Option Addr) (c' : Nat) : Kn (newN s m kind x d A c A' c') M (updX xs m (nwNode kind s.sup.gens x)) := by
  have hs := h.sup
  have h1 := h.super (sup := nwSup s.sup) (A := A) (c := c) rfl ⟨hs.1, hs.2.1, hs.2.2.1, by show s.sup.gens + 1 ≤ _; omega⟩ (.inr (by omega))
  have hl : (putSt s ⟨0, A, c, superE (nwSup s.sup)⟩).will.length ≤ s.will.length + 1 := put_len_le h.ok _
  exact h1.setn hm (nwNode_ok kind s.sup.gens x hk hg) (d := d) (by
    show viewS (putSt s _) _ = _
    rw [view_put h.ok, if_neg (by show ¬ 0 = 35 + m / 4; omega)]
    exact hd) (.inr (by
    show (putSt s ⟨0, A, c, superE (nwSup s.sup)⟩).will.length < 24
    omega))
theorem new_view {s : StS} (h : s.ok) (m kind : Nat) (x : NoS) (d : List UInt8) (A : Option Addr) (c : Nat) (A' : Option Addr) (c' : Nat) (hd : (supSt (putSt s ⟨0, A, c, superE (nwSup s.sup)⟩) (nwSup s.sup)).ok) {i : Nat} (hi : 43 ≤ i) (hm : m < 32) : viewS (newN s m kind x d A c A' c') i = viewS s i := by
  unfold newN
  rw [view_put hd, if_neg (by show ¬ 35 + m / 4 = i; omega)]
  show viewS (putSt s _) i = _
  rw [view_put h, if_neg (by show ¬ 0 = i; omega)]
theorem Kn.com {s : StS} {M : List UInt8} {xs : Nat → NoS} (h : Kn s M xs) : Kn (comSt s) M xs where
  ok := comSt_ok h.ok
  zero := by
    obtain ⟨b, hb, hd⟩ := h.zero
    exact ⟨b, by rw [view_com h.ok (.inl (by omega))]; exact hb, hd⟩
  seats := fun i hi => by
    obtain ⟨b, z, hb, hd⟩ := h.seats i hi
    exact ⟨b, z, by rw [view_com h.ok (.inr (by omega))]; exact hb, hd⟩
  marks := by rw [view_com h.ok (.inr (by omega))]; exact h.marks
  nodes := fun n hn => by
    obtain ⟨d, hd, h1, h2⟩ := h.nodes n hn
    exact ⟨d, by rw [view_com h.ok (.inr (by omega))]; exact hd, h1, h2⟩
/-- Where nothing will be, what is seen is on the drive. -/
theorem view_nil {s : StS} (h : s.will = []) (n : Nat) : viewS s n = s.d.sure[n]? := by
  unfold viewS
  rw [h]
  rfl
theorem com_will (s : StS) : (comSt s).will = [] := rfl
theorem Kn.ready {s : StS} {M : List UInt8} {xs : Nat → NoS} (h : Kn s M xs) (h0 : s.will = []) : Ready s.d s.sup where
  zero := by
    obtain ⟨b, hb, hd⟩ := h.zero
    exact ⟨b, by rw [← view_nil h0]; exact hb, hd⟩
  len := h.ok.secs
  seats := fun i hi => by
    obtain ⟨b, z, hb, hd⟩ := h.seats i hi
    exact ⟨b, z, by rw [← view_nil h0]; exact hb, hd⟩
theorem Kn.mount {s : StS} {M : List UInt8} {xs : Nat → NoS} (h : Kn s M xs) (h0 : s.will = []) (he : s.sup.epoch < 1073741824) (A : Option Addr) : Kn (mountS s.d s.sup A) M xs where
  ok := mount_ok A h.ok.on (h.ready h0) h.ok.head
  zero := ⟨_, by rw [view_mount A h.ok.on (h.ready h0) h.ok.head (.inl (by omega)), if_pos rfl]; rfl, decS_enc _ (nextS_ok h.sup he)⟩
  seats := fun i hi => by
    obtain ⟨b, z, hb, hd⟩ := h.seats i hi
    exact ⟨b, z, by rw [view_mount A h.ok.on (h.ready h0) h.ok.head (.inr (by omega)), if_neg (by omega), ← view_nil h0]; exact hb, hd⟩
  marks := by rw [view_mount A h.ok.on (h.ready h0) h.ok.head (.inr (by omega)), if_neg (by omega), ← view_nil h0]; exact h.marks
  nodes := fun n hn => by
    obtain ⟨d, hd, h1, h2⟩ := h.nodes n hn
    exact ⟨d, by rw [view_mount A h.ok.on (h.ready h0) h.ok.head (.inr (by omega)), if_neg (by omega), ← view_nil h0]; exact hd, h1, h2⟩
theorem mount_view {s : StS} {M : List UInt8} {xs : Nat → NoS} (h : Kn s M xs) (h0 : s.will = []) (A : Option Addr) {i : Nat} (hi : 26 ≤ i) : viewS (mountS s.d s.sup A) i = viewS s i := by
  rw [view_mount A h.ok.on (h.ready h0) h.ok.head (.inr hi), if_neg (by omega), view_nil h0]
/-! ### a drive that was made ready -/
def zeroN : NoS := ⟨0, 0, 0, 0, 0, 0, 0, 0, 0, 0, 0⟩
theorem zeroN_ok : zeroN.ok := ⟨by decide, by decide, rfl, rfl, rfl, rfl, rfl, rfl, .inl ⟨rfl, rfl, rfl, rfl, rfl, rfl, rfl, rfl, rfl⟩⟩
theorem zeroN_E : nodeE zeroN = List.replicate 32 0 := by decide
def freshX : Nat → NoS := fun n => if n = 1 then rootN else zeroN
theorem zero_part (i : Nat) (hi : i + 32 ≤ 128) : (zero128.drop i).take 32 = List.replicate 32 0 := by
  unfold zero128
  rw [List.drop_replicate, List.take_replicate, Nat.min_eq_left (by omega)]
theorem nodeL_part (n : Nat) (hn : n < 32) : ((nodeL (n / 4)).drop (32 * (n % 4))).take 32 = nodeE (freshX n) := by
  unfold nodeL freshX
  by_cases h0 : n / 4 = 0
  · rw [if_pos h0]
    by_cases h1 : n = 1
    · subst h1
      rw [if_pos rfl]
      have := take_drop_splice zero128 (nodeE rootN) 32 (by rw [nodeE_len, zero128_len]; omega)
      rw [nodeE_len] at this
      exact this
    · rw [if_neg h1, zeroN_E, splice_other _ _ _ _ _ (by rw [nodeE_len, zero128_len]; omega) (by rw [nodeE_len]; omega)]
      exact zero_part _ (by omega)
  · rw [if_neg h0, if_neg (by omega), zeroN_E]
    exact zero_part _ (by omega)
theorem freshX_ok (n : Nat) : (freshX n).ok := by
  unfold freshX
  split
  · exact rootN_ok
  · exact zeroN_ok
/-- Behind begin. -/
theorem Kn.fresh {M : List UInt8} (hM : MkM M) (n : Nat) (h1 : 64 ≤ n) (h2 : n ≤ 1024) (A : Option Addr) : Kn (mountS (freshD M n) ⟨n, 0, 0⟩ A) M freshX where
  ok := mount_ok A (freshD_on hM n h2) (freshD_ready hM n h1 h2) (fr hM n h1).f1
  zero := ⟨_, by rw [view_mount A (freshD_on hM n h2) (freshD_ready hM n h1 h2) (fr hM n h1).f1 (.inl (by omega)), if_pos rfl]; rfl, decS_enc _ (nextS_ok ⟨h1, h2, by show 0 ≤ _; omega, by show 0 ≤ _; omega⟩ (by show 0 < _; omega))⟩
  seats := fun i hi => ⟨_, _, by rw [view_mount A (freshD_on hM n h2) (freshD_ready hM n h1 h2) (fr hM n h1).f1 (.inr (by omega)), if_neg (by omega)]; exact (fr hM n h1).fS i hi, decE_enc _ seat0_ok⟩
  marks := by rw [view_mount A (freshD_on hM n h2) (freshD_ready hM n h1 h2) (fr hM n h1).f1 (.inr (by omega)), if_neg (by omega)]; exact (fr hM n h1).f34
  nodes := fun k hk => ⟨_, by rw [view_mount A (freshD_on hM n h2) (freshD_ready hM n h1 h2) (fr hM n h1).f1 (.inr (by omega)), if_neg (by omega)]; exact (fr hM n h1).fN (k / 4) (by omega), nodeL_part k hk, freshX_ok k⟩
theorem fresh_view {M : List UInt8} (hM : MkM M) (n : Nat) (h1 : 64 ≤ n) (h2 : n ≤ 1024) (A : Option Addr) {i : Nat} (hi : 43 ≤ i) (hn : i < n) : viewS (mountS (freshD M n) ⟨n, 0, 0⟩ A) i = some zero128 := by
  rw [view_mount A (freshD_on hM n h2) (freshD_ready hM n h1 h2) (fr hM n h1).f1 (.inr (by omega)), if_neg (by omega)]
  exact (fr hM n h1).fZ i hi hn
theorem mount_will (d : DrS) (sup : SuS) (A : Option Addr) : (mountS d sup A).will = [] := rfl
theorem mount_sup (d : DrS) (sup : SuS) (A : Option Addr) : (mountS d sup A).sup = nextS sup := rfl
theorem Kn.len {s : StS} {M : List UInt8} {xs : Nat → NoS} (h : Kn s M xs) : s.d.sure.length = s.sup.sectors := h.ok.secs.symm
end Go.Proofs.YtehfoopefefpnaaGreat
/- Package store: its methods, said of what is known. -/
set_option linter.unusedSimpArgs false
set_option linter.unusedVariables false
namespace Go.Proofs.YtehfoopefefpnaaGreat
open Go.RowKit

theorem lfree {B : Nat} {p : StP} {s : StS} {M : List UInt8} {xs : Nat → NoS} {w : World} {T : Nat} (h : ST B p s w) (hk : Kn s M xs) (hT : MkT M T) (h1 : 43 ≤ T) (h2 : T ≤ s.sup.sectors) :
    Calls Tryz.prog 17 #[.pointer (some ⟨p.k, 0, none⟩)] w fun e w' => e = .returned (.int .i64 ((s.sup.sectors - T : Nat) : Int)) ∧ Below w.heap.size w w' :=
  (sfree_walk B p s w h hk.ok M hk.marks).mono fun e w' q => by
    obtain ⟨rfl, hb⟩ := q
    refine ⟨?_, hb⟩
    rw [hT.count]
    congr 2
    omega
/-- Behind Take. -/
structure Took (B : Nat) (p : StP) (s : StS) (M : List UInt8) (xs : Nat → NoS) (T : Nat) (w : World) (s' : StS) (w' : World) : Prop where
  st : ST B p s' w'
  kn : Kn s' (setP M T true) xs
  sup : s'.sup = s.sup
  d : s'.d = s.d
  len : s'.will.length ≤ s.will.length + (if (getW 34 s.will).isSome = true then 1 else 2)
  mark : (getW 34 s'.will).isSome = true
  view : ∀ i, 43 ≤ i → i ≠ T → viewS s' i = viewS s i
  new : viewS s' T = some zero128
  keep : Keep (fun j => j = p.b) w w'
theorem ltake {B : Nat} {p : StP} {s : StS} {M : List UInt8} {xs : Nat → NoS} {w : World} {T : Nat} (h : ST B p s w) (hk : Kn s M xs) (hM : M.length = 128) (hf : firstP M 43 (s.sup.sectors - 43) = some T) (h4 : s.will.length ≤ 22) :
    Calls Tryz.prog 69 #[.pointer (some ⟨p.k, 0, none⟩)] w fun e w' => ∃ s', e = .returned (.tuple #[.int .i64 (T : Int), .int .i64 0]) ∧ Took B p s M xs T w s' w' :=
  (stake_walk B p s w h hk.ok M hk.marks T hf h4).mono fun e w' q => by
    obtain ⟨A, c, A', c', rfl, hst, hk'⟩ := q
    have hr := firstP_range hf
    have hsec := hk.ok.secs
    have hlen := hk.ok.on.ok.len
    have h64 := hk.ok.len
    have k1 : Kn (putSt s ⟨34, A, c, setP M T true⟩) (setP M T true) xs := hk.mark (by rw [setP_len]; exact hM) (.inr (by omega))
    have hl1 := put_len_le hk.ok ⟨34, A, c, setP M T true⟩
    have k2 : Kn (putSt (putSt s ⟨34, A, c, setP M T true⟩) ⟨T, A', c', List.replicate 128 0⟩) (setP M T true) xs := k1.put (by show T < s.d.sure.length; omega) hr.1 (List.length_replicate ..) (.inr (by omega))
    refine ⟨_, rfl, hst, k2, rfl, rfl, ?_, ?_, fun i h43 hi => ?_, ?_, hk'⟩
    · refine Nat.le_trans (put_len_le k1.ok _) ?_
      show (insW ⟨34, A, c, setP M T true⟩ s.will).length + 1 ≤ _
      rw [insW_len _ hk.ok.rise]
      show (s.will.length + if (getW 34 s.will).isSome = true then 0 else 1) + 1 ≤ _
      split <;> omega
    · show (getW 34 (insW _ (insW _ s.will))).isSome = true
      rw [getW_ins _ (insW_rising hk.ok.rise _), if_neg (by show ¬ T = 34; omega), getW_ins _ hk.ok.rise, if_pos rfl]
      rfl
    · rw [view_put k1.ok, if_neg (by show ¬ T = i; omega), view_put hk.ok, if_neg (by show ¬ 34 = i; omega)]
    · rw [view_put k1.ok, if_pos rfl]
      rfl
/-- Behind New. -/
structure Newed (B : Nat) (p : StP) (s : StS) (M : List UInt8) (xs : Nat → NoS) (m kind : Nat) (w : World) (s' : StS) (w' : World) : Prop where
  st : ST B p s' w'
  kn : Kn s' M (updX xs m (nwNode kind s.sup.gens (xs m)))
  sup : s'.sup = nwSup s.sup
  d : s'.d = s.d
  len : s'.will.length ≤ s.will.length + 2
  view : ∀ i, 43 ≤ i → viewS s' i = viewS s i
  keep : Keep (fun j => j = p.b ∨ j = p.k) w w'
theorem lnew {B : Nat} {p : StP} {s : StS} {M : List UInt8} {xs : Nat → NoS} {w : World} {m : Nat} (h : ST B p s w) (hk : Kn s M xs) (hm : 1 ≤ m) (hm2 : m < 32) (hne : ∀ n, 1 ≤ n → n < m → (xs n).kind ≠ 0) (h0 : (xs m).kind = 0) (hg : s.sup.gens < 1073741824) (h4 : s.will.length ≤ 22) (kind : Nat) (hkd : kind = 1 ∨ kind = 2) :
    Calls Tryz.prog 15 #[.pointer (some ⟨p.k, 0, none⟩), .int .i64 (kind : Int)] w fun e w' => ∃ s', e = .returned (.tuple #[.int .i64 (m : Int), .int .i64 0]) ∧ Newed B p s M xs m kind w s' w' := by
  obtain ⟨d, hd, _⟩ := hk.nodes m hm2
  refine (snew_walk B p s w h hk.ok m hm hm2 xs (fun n _ h2 => hk.nodes n (by omega)) hne h0 hk.sup hg h4 kind hkd d hd).mono fun e w' q => ?_
  obtain ⟨A, c, A', c', rfl, hst, hk'⟩ := q
  have k1 := hk.super (sup := nwSup s.sup) (A := A) (c := c) rfl ⟨hk.sup.1, hk.sup.2.1, hk.sup.2.2.1, by show s.sup.gens + 1 ≤ _; omega⟩ (.inr (by omega))
  have hl1 := put_len_le hk.ok ⟨0, A, c, superE (nwSup s.sup)⟩
  refine ⟨_, rfl, hst, hk.new hm2 hkd hg hd h4 (xs m) A c A' c', rfl, rfl, ?_, fun i hi => new_view hk.ok m kind (xs m) d A c A' c' k1.ok hi hm2, hk'⟩
  refine Nat.le_trans (put_len_le k1.ok _) ?_
  show (putSt s ⟨0, A, c, superE (nwSup s.sup)⟩).will.length + 1 ≤ _
  omega
/-- Behind Commit. -/
theorem lcommit {B : Nat} {p : StP} {s : StS} {M : List UInt8} {xs : Nat → NoS} {w : World} (h : ST B p s w) (hk : Kn s M xs) :
    Calls Tryz.prog 16 #[.pointer (some ⟨p.k, 0, none⟩)] w fun e w' => ∃ s', e = .returned (.int .i64 0) ∧ ST B p s' w' ∧ Kn s' M xs ∧ s'.sup = s.sup ∧ s'.will = [] ∧ (∀ i, 43 ≤ i → viewS s' i = viewS s i) ∧ Keep (fun j => j = p.kd ∨ j = p.g ∨ j = p.b ∨ w.heap.size ≤ j) w w' :=
  (scommit_walk B p s w h hk.ok).mono fun e w' q => by
    obtain ⟨rfl, hst, hk'⟩ := q
    exact ⟨_, rfl, hst, hk.com, rfl, rfl, fun i hi => view_com hk.ok (.inr (by omega)), hk'⟩
/-- Behind Mount of a drive whose store has nothing that will be. -/
theorem lmount {B kd g c : Nat} {s : StS} {M : List UInt8} {xs : Nat → NoS} {w : World} (h : DR B kd s.d w (some ⟨g, 0, none⟩) c none 0) (hk : Kn s M xs) (h0 : s.will = []) (he : s.sup.epoch < 1073741824) :
    Calls Tryz.prog 23 #[.pointer (some ⟨kd, 0, none⟩)] w fun e w' => ∃ p s', p.kd = kd ∧ p.g = g ∧ p.c = c ∧ e = .returned (.tuple #[.pointer (some ⟨p.k, 0, none⟩), .int .i64 0]) ∧ ST B p s' w' ∧ Kn s' M xs ∧ s'.sup = nextS s.sup ∧ s'.will = [] ∧ (∀ i, 43 ≤ i → viewS s' i = viewS s i) ∧ w.heap.size ≤ p.k ∧ w.heap.size ≤ p.b ∧ Keep (drvK kd g w) w w' :=
  (mount_walk B kd g c s.d w h hk.ok.on s.sup (hk.ready h0) hk.ok.head he).mono fun e w' q => by
    obtain ⟨p, A, h1, h2, h3, rfl, hst, h4, h5, h6⟩ := q
    exact ⟨p, _, h1, h2, h3, rfl, hst, hk.mount h0 he A, rfl, rfl, fun i hi => mount_view hk h0 A (by omega), h4, h5, h6⟩
theorem lnode {B : Nat} {p : StP} {s : StS} {M : List UInt8} {xs : Nat → NoS} {w : World} (h : ST B p s w) (hk : Kn s M xs) {n : Nat} (hn : n < 32) :
    Calls Tryz.prog 42 #[.pointer (some ⟨p.k, 0, none⟩), .int .i64 (n : Int)] w fun e w' => e = .returned (.tuple #[(xs n).val, .int .i64 0]) ∧ Below w.heap.size w w' :=
  snode_walk B p s w h hk.ok n hn (xs n) (hk.nodes n hn)
end Go.Proofs.YtehfoopefefpnaaGreat
/- Package store, seen as a whole: sectors of data, marks, nodes; what its methods do to these. -/
set_option linter.unusedSimpArgs false
set_option linter.unusedVariables false
namespace Go.Proofs.YtehfoopefefpnaaGreat
open Go.RowKit

def updF {α : Type} (f : Nat → α) (n : Nat) (a : α) : Nat → α := fun i => if i = n then a else f i
theorem updF_same {α : Type} (f : Nat → α) (n : Nat) (a : α) : updF f n a n = a := if_pos rfl
theorem updF_ne {α : Type} (f : Nat → α) {n i : Nat} (a : α) (h : i ≠ n) : updF f n a i = f i := if_neg h
theorem updX_eq (xs : Nat → NoS) (m : Nat) (y : NoS) : updX xs m y = updF xs m y := rfl
/-- A store's sectors from 43 on, its marks, its nodes, and which sectors may have been touched. -/
structure Sw (s : StS) (N : Nat) (V : Nat → List UInt8) (m : Nat → Bool) (xs : Nat → NoS) (U : List Nat) : Prop where
  kn : ∃ M, Kn s M xs ∧ M.length = 128 ∧ ∀ i, 43 ≤ i → i < N → onP M i = m i
  sec : s.sup.sectors = N
  view : ∀ i, 43 ≤ i → i < N → viewS s i = some (V i)
  touch : ∀ e ∈ s.will, e.at_ ∈ U
theorem Sw.ok {s : StS} {N : Nat} {V : Nat → List UInt8} {m : Nat → Bool} {xs : Nat → NoS} {U : List Nat} (h : Sw s N V m xs U) : s.ok := by
  obtain ⟨M, hk, _⟩ := h.kn
  exact hk.ok
theorem Sw.len {s : StS} {N : Nat} {V : Nat → List UInt8} {m : Nat → Bool} {xs : Nat → NoS} {U : List Nat} (h : Sw s N V m xs U) : s.d.sure.length = N := h.ok.secs.symm.trans h.sec
theorem Sw.le {s : StS} {N : Nat} {V : Nat → List UInt8} {m : Nat → Bool} {xs : Nat → NoS} {U : List Nat} (h : Sw s N V m xs U) : 64 ≤ N ∧ N ≤ 1024 := by
  have := h.len
  have := h.ok.len
  have := h.ok.on.ok.len
  omega
theorem Sw.each {s : StS} {N : Nat} {V : Nat → List UInt8} {m : Nat → Bool} {xs : Nat → NoS} {U : List Nat} (h : Sw s N V m xs U) {i : Nat} (h1 : 43 ≤ i) (h2 : i < N) : (V i).length = 128 := view_len h.ok (h.view i h1 h2)
theorem Sw.mono {s : StS} {N : Nat} {V : Nat → List UInt8} {m : Nat → Bool} {xs : Nat → NoS} {U U' : List Nat} (h : Sw s N V m xs U) (hU : ∀ i ∈ U, i ∈ U') : Sw s N V m xs U' :=
  ⟨h.kn, h.sec, h.view, fun e he => hU _ (h.touch e he)⟩
/-- Distinct numbers that all lie in a list are at most as many. -/
theorem nodup_len : ∀ (l U : List Nat), l.Nodup → (∀ i ∈ l, i ∈ U) → l.length ≤ U.length
  | [], _, _, _ => Nat.zero_le _
  | a :: l, U, hn, hU => by
    have ha := hU a (List.mem_cons_self ..)
    obtain ⟨h1, h2⟩ := List.nodup_cons.1 hn
    have := nodup_len l (U.erase a) h2 (fun i hi => (List.mem_erase_of_ne (fun e => h1 (by rw [← e]; exact hi))).2 (hU i (List.mem_cons_of_mem _ hi)))
    rw [List.length_erase_of_mem ha] at this
    have hp : 0 < U.length := List.length_pos_of_mem ha
    rw [List.length_cons]
    omega
theorem will_nodup {s : StS} (h : s.ok) : (s.will.map (·.at_)).Nodup := by
  unfold List.Nodup
  rw [List.pairwise_map]
  exact h.rise.imp (fun h => by omega)
theorem Sw.room {s : StS} {N : Nat} {V : Nat → List UInt8} {m : Nat → Bool} {xs : Nat → NoS} {U : List Nat} (h : Sw s N V m xs U) (hU : U.length ≤ 24) {n : Nat} (hn : n ∈ U) : (getW n s.will).isSome = true ∨ s.will.length < 24 := by
  cases hg : getW n s.will with
  | some e => exact .inl rfl
  | none =>
    right
    have hno := getW_none hg
    have := nodup_len (n :: s.will.map (·.at_)) U (List.nodup_cons.2 ⟨fun hm => by
      obtain ⟨e, he, e2⟩ := List.mem_map.1 hm
      exact hno e he e2, will_nodup h.ok⟩) (fun i hi => by
      rcases List.mem_cons.1 hi with rfl | hi
      · exact hn
      · obtain ⟨e, he, rfl⟩ := List.mem_map.1 hi
        exact h.touch e he)
    rw [List.length_cons, List.length_map] at this
    omega
theorem Sw.roomLen {s : StS} {N : Nat} {V : Nat → List UInt8} {m : Nat → Bool} {xs : Nat → NoS} {U : List Nat} (h : Sw s N V m xs U) : s.will.length ≤ U.length := by
  have := nodup_len (s.will.map (·.at_)) U (will_nodup h.ok) (fun i hi => by
    obtain ⟨e, he, rfl⟩ := List.mem_map.1 hi
    exact h.touch e he)
  rwa [List.length_map] at this
theorem put_touch {s : StS} {U : List Nat} (h : ∀ e ∈ s.will, e.at_ ∈ U) {x : WE} (hx : x.at_ ∈ U) : ∀ e ∈ (putSt s x).will, e.at_ ∈ U := fun e he => by
  rcases insW_mem he with rfl | he
  · exact hx
  · exact h e he
theorem Sw.put {s : StS} {N : Nat} {V : Nat → List UInt8} {m : Nat → Bool} {xs : Nat → NoS} {U : List Nat} (h : Sw s N V m xs U) (hU : U.length ≤ 24) {x : WE} (hx : x.at_ ∈ U) (h1 : 43 ≤ x.at_) (h2 : x.at_ < N) (h3 : x.d.length = 128) : Sw (putSt s x) N (updF V x.at_ x.d) m xs U := by
  obtain ⟨M, hk, hM, hm⟩ := h.kn
  refine ⟨⟨M, hk.put (by rw [h.len]; exact h2) h1 h3 (h.room hU hx), hM, hm⟩, h.sec, fun i hi hiN => ?_, put_touch h.touch hx⟩
  rw [view_put h.ok]
  by_cases e : x.at_ = i
  · rw [if_pos e, ← e, updF_same]
  · rw [if_neg e, updF_ne V x.d (fun e' => e e'.symm)]
    exact h.view i hi hiN
theorem Sw.mark {s : StS} {N : Nat} {V : Nat → List UInt8} {m : Nat → Bool} {xs : Nat → NoS} {U : List Nat} (h : Sw s N V m xs U) (hU : U.length ≤ 24) (hx : 34 ∈ U) {M : List UInt8} (hMv : viewS s 34 = some M) {n : Nat} (hn : n < N) (yes : Bool) (A : Option Addr) (c : Nat) : Sw (putSt s ⟨34, A, c, setP M n yes⟩) N V (updF m n yes) xs U := by
  obtain ⟨M', hk, hM, hm⟩ := h.kn
  have e : M' = M := Option.some.inj (hk.marks.symm.trans hMv)
  subst e
  have := h.le
  refine ⟨⟨setP M' n yes, hk.mark (by rw [setP_len]; exact hM) (h.room hU hx), by rw [setP_len]; exact hM, fun i h1 h2 => ?_⟩, h.sec, fun i hi hiN => ?_, put_touch h.touch hx⟩
  · rw [onP_set M' hM n (by omega) yes i]
    unfold updF
    by_cases e : i = n
    · rw [if_pos e, if_pos e]
    · rw [if_neg e, if_neg e]
      exact hm i h1 h2
  · rw [view_put h.ok, if_neg (by show ¬ 34 = i; omega)]
    exact h.view i hi hiN
theorem Sw.setn {s : StS} {N : Nat} {V : Nat → List UInt8} {m : Nat → Bool} {xs : Nat → NoS} {U : List Nat} (h : Sw s N V m xs U) (hU : U.length ≤ 24) {n : Nat} (hn : n < 32) (hx : 35 + n / 4 ∈ U) {y : NoS} (hy : y.ok) {d : List UInt8} (hd : viewS s (35 + n / 4) = some d) (A : Option Addr) (c : Nat) : Sw (putSt s ⟨35 + n / 4, A, c, splice d (32 * (n % 4)) (nodeE y)⟩) N V m (updF xs n y) U := by
  obtain ⟨M, hk, hM, hm⟩ := h.kn
  refine ⟨⟨M, hk.setn hn hy hd (h.room hU hx), hM, hm⟩, h.sec, fun i hi hiN => ?_, put_touch h.touch hx⟩
  rw [view_put h.ok, if_neg (by show ¬ 35 + n / 4 = i; omega)]
  exact h.view i hi hiN
/-- The same, in memory: the drive's and the super's own state are kept. -/
structure SWc where
  p : StP
  d : DrS
  sup : SuS
  N : Nat
def SW (B : Nat) (c : SWc) (V : Nat → List UInt8) (m : Nat → Bool) (xs : Nat → NoS) (U : List Nat) (w : World) : Prop := ∃ s, ST B c.p s w ∧ Sw s c.N V m xs U ∧ s.d = c.d ∧ s.sup = c.sup
theorem SW.below {B : Nat} {c : SWc} {V : Nat → List UInt8} {m : Nat → Bool} {xs : Nat → NoS} {U : List Nat} {w w' : World} (h : SW B c V m xs U w) (hb : Below w.heap.size w w') : SW B c V m xs U w' := by
  obtain ⟨s, h1, h2⟩ := h
  exact ⟨s, h1.below hb, h2⟩
theorem SW.mono {B : Nat} {c : SWc} {V : Nat → List UInt8} {m : Nat → Bool} {xs : Nat → NoS} {U U' : List Nat} {w : World} (h : SW B c V m xs U w) (hU : ∀ i ∈ U, i ∈ U') : SW B c V m xs U' w := by
  obtain ⟨s, h1, h2, h3⟩ := h
  exact ⟨s, h1, h2.mono hU, h3⟩
theorem SW.le {B : Nat} {c : SWc} {V : Nat → List UInt8} {m : Nat → Bool} {xs : Nat → NoS} {U : List Nat} {w : World} (h : SW B c V m xs U w) : 64 ≤ c.N ∧ c.N ≤ 1024 := by
  obtain ⟨s, h1, h2, _⟩ := h
  exact h2.le
theorem SW.each {B : Nat} {c : SWc} {V : Nat → List UInt8} {m : Nat → Bool} {xs : Nat → NoS} {U : List Nat} {w : World} (h : SW B c V m xs U w) {i : Nat} (h1 : 43 ≤ i) (h2 : i < c.N) : (V i).length = 128 := by
  obtain ⟨s, _, hs, _⟩ := h
  exact hs.each h1 h2
theorem SW.node_ok {B : Nat} {c : SWc} {V : Nat → List UInt8} {m : Nat → Bool} {xs : Nat → NoS} {U : List Nat} {w : World} (h : SW B c V m xs U w) {n : Nat} (hn : n < 32) : (xs n).ok := by
  obtain ⟨s, _, hs, _⟩ := h
  obtain ⟨M, hk, _⟩ := hs.kn
  obtain ⟨_, _, _, ho⟩ := hk.nodes n hn
  exact ho
theorem SW.news {B : Nat} {c : SWc} {V : Nat → List UInt8} {m : Nat → Bool} {xs : Nat → NoS} {U : List Nat} {w : World} (h : SW B c V m xs U w) : B ≤ c.p.k ∧ B ≤ c.p.b ∧ B ≤ c.p.kd ∧ B ≤ c.p.g ∧ c.p.k < w.heap.size ∧ c.p.b < w.heap.size ∧ c.p.kd < w.heap.size ∧ c.p.g < w.heap.size ∧ c.p.b ≠ c.p.k := by
  obtain ⟨s, h1, _⟩ := h
  have F := h1.far
  exact ⟨h1.newk, h1.newb, h1.drv.newk, h1.drv.newA c.p.g rfl, F.k, F.b, F.kd, F.g, F.bk⟩
/-- Blocks of another kind turn: the store stays. -/
theorem ST.turn {S : Nat → Prop} {B : Nat} {p : StP} {s : StS} {w w' : World} (h : ST B p s w) (hk : Keep S w w') (hS : ∀ j, S j → ∃ cs t fr, w.heap[j]? = some (.cells cs t fr) ∧ t ≠ 91 ∧ t ≠ 113 ∧ t ≠ 119 ∧ t ≠ 5) : ST B p s w' := by
  obtain ⟨xs, clock, hbl, _⟩ := h.will
  obtain ⟨cg, hg⟩ := own_blk h.drv.sure (k := p.g) rfl
  refine h.keep hk (fun e => ?_) (fun e => ?_) (fun e => ?_) (fun e => ?_) (fun x hx j ej e => ?_)
  · obtain ⟨cs, t, fr, hj, h1, _⟩ := hS _ e
    exact blk_ne hj h.blk h1 rfl
  · obtain ⟨cs, t, fr, hj, _, h1, _⟩ := hS _ e
    exact blk_ne hj h.drv.blk h1 rfl
  · obtain ⟨cs, t, fr, hj, _, _, h1, _⟩ := hS _ e
    exact blk_ne hj hg h1 rfl
  · obtain ⟨cs, t, fr, hj, _⟩ := hS _ e
    rw [hbl] at hj
    cases hj
  · obtain ⟨cs, t, fr, hj, _, _, _, h1⟩ := hS _ e
    obtain ⟨_, cs', fr', hq⟩ := (h.data x hx).fresh j ej
    exact blk_ne hj hq h1 rfl
theorem SW.turn {S : Nat → Prop} {B : Nat} {c : SWc} {V : Nat → List UInt8} {m : Nat → Bool} {xs : Nat → NoS} {U : List Nat} {w w' : World} (h : SW B c V m xs U w) (hk : Keep S w w') (hS : ∀ j, S j → ∃ cs t fr, w.heap[j]? = some (.cells cs t fr) ∧ t ≠ 91 ∧ t ≠ 113 ∧ t ≠ 119 ∧ t ≠ 5) : SW B c V m xs U w' := by
  obtain ⟨s, h1, h2⟩ := h
  exact ⟨s, h1.turn hk hS, h2⟩
/-- A row of cells lies apart from the will's map. -/
theorem SW.b_ne {B : Nat} {c : SWc} {V : Nat → List UInt8} {m : Nat → Bool} {xs : Nat → NoS} {U : List Nat} {w : World} (h : SW B c V m xs U w) {j : Nat} {cs : Array Value} {t : TypeId} {fr : Nat × Nat} (hj : w.heap[j]? = some (.cells cs t fr)) : j ≠ c.p.b := by
  obtain ⟨s, h1, _⟩ := h
  obtain ⟨xs', clock, hbl, _⟩ := h1.will
  rintro rfl
  rw [hbl] at hj
  cases hj
/-! ### the methods -/
theorem wget {B : Nat} {c : SWc} {V : Nat → List UInt8} {m : Nat → Bool} {xs : Nat → NoS} {U : List Nat} {w : World} (h : SW B c V m xs U w) {n : Nat} (h1 : 43 ≤ n) (h2 : n < c.N) :
    Calls Tryz.prog 30 #[.pointer (some ⟨c.p.k, 0, none⟩), .int .i64 (n : Int)] w (GeP (V n) w) := by
  obtain ⟨s, hst, hs, _⟩ := h
  have := hs.le
  exact sget_walk B c.p s w hst hs.ok n (by omega) (V n) (hs.view n h1 h2)
def PwP (B : Nat) (c : SWc) (V : Nat → List UInt8) (m : Nat → Bool) (xs : Nat → NoS) (U : List Nat) (w : World) (e : Ending) (w' : World) : Prop := e = .returned (.int .i64 0) ∧ SW B c V m xs U w' ∧ Keep (fun j => j = c.p.b) w w'
theorem wput {B : Nat} {c : SWc} {V : Nat → List UInt8} {m : Nat → Bool} {xs : Nat → NoS} {U : List Nat} {w : World} (h : SW B c V m xs U w) (hU : U.length ≤ 24) {n : Nat} (hn : n ∈ U) (h1 : 43 ≤ n) (h2 : n < c.N) (d : List UInt8) (A : Option Addr) (cc : Nat) (hd : Sl w 1 (.slice A 128 cc) 128 (bv d)) :
    Calls Tryz.prog 36 #[.pointer (some ⟨c.p.k, 0, none⟩), .int .i64 (n : Int), .slice A 128 cc] w (PwP B c (updF V n d) m xs U w) := by
  obtain ⟨s, hst, hs, e1, e2⟩ := h
  have hl : d.length = 128 := by
    obtain ⟨_, _, _, _, _, _, hl⟩ := hd
    rw [bv_length, Nat.mul_one] at hl
    exact hl
  refine (sput_walk B c.p s w hst hs.ok n (by rw [hs.len]; exact h2) (.inr (by omega)) d A cc hd hl (hs.room hU hn)).mono fun e w' q => ?_
  obtain ⟨A', c', rfl, hst', hk⟩ := q
  exact ⟨rfl, ⟨_, hst', hs.put hU (x := ⟨n, A', c', d⟩) hn h1 h2 hl, e1, e2⟩, hk⟩
/-- The first free sector. -/
def Ff (m : Nat → Bool) (N n : Nat) : Prop := 43 ≤ n ∧ n < N ∧ m n = false ∧ ∀ i, 43 ≤ i → i < n → m i = true
theorem firstP_of {M : List UInt8} {m : Nat → Bool} {a k n : Nat} (hm : ∀ i, a ≤ i → i < a + k → onP M i = m i) (h1 : a ≤ n) (h2 : n < a + k) (h3 : m n = false) (h4 : ∀ i, a ≤ i → i < n → m i = true) : firstP M a k = some n := by
  induction k generalizing a with
  | zero => omega
  | succ k ih =>
    rw [firstP, hm a (Nat.le_refl _) (by omega)]
    by_cases e : a = n
    · subst e
      rw [h3]
      rfl
    · rw [h4 a (Nat.le_refl _) (by omega), if_pos rfl]
      exact ih (fun i h5 h6 => hm i (by omega) (by omega)) (by omega) (by omega) (fun i h5 h6 => h4 i (by omega) h6)
theorem firstP_no {M : List UInt8} {m : Nat → Bool} {a k : Nat} (hm : ∀ i, a ≤ i → i < a + k → onP M i = m i) (h4 : ∀ i, a ≤ i → i < a + k → m i = true) : firstP M a k = none := by
  induction k generalizing a with
  | zero => rfl
  | succ k ih =>
    rw [firstP, hm a (Nat.le_refl _) (by omega), h4 a (Nat.le_refl _) (by omega), if_pos rfl]
    exact ih (fun i h5 h6 => hm i (by omega) (by omega)) (fun i h5 h6 => h4 i (by omega) (by omega))
theorem ff_or (m : Nat → Bool) (N : Nat) : (∃ n, Ff m N n) ∨ ∀ i, 43 ≤ i → i < N → m i = true := by
  by_cases h : ∃ n, 43 ≤ n ∧ n < N ∧ m n = false
  · left
    obtain ⟨n, hn⟩ := h
    induction n using Nat.strongRecOn with
    | ind n ih =>
      by_cases hj : ∃ j, 43 ≤ j ∧ j < n ∧ m j = false
      · obtain ⟨j, h1, h2, h3⟩ := hj
        exact ih j h2 ⟨h1, by omega, h3⟩
      · exact ⟨n, hn.1, hn.2.1, hn.2.2, fun i h1 h2 => by
          cases hi : m i with
          | true => rfl
          | false => exact absurd ⟨i, h1, h2, hi⟩ hj⟩
  · right
    intro i h1 h2
    cases hi : m i with
    | true => rfl
    | false => exact absurd ⟨i, h1, h2, hi⟩ h
def TwP (B : Nat) (c : SWc) (V : Nat → List UInt8) (m : Nat → Bool) (xs : Nat → NoS) (U : List Nat) (n : Nat) (w : World) (e : Ending) (w' : World) : Prop := e = .returned (.tuple #[.int .i64 (n : Int), .int .i64 0]) ∧ SW B c (updF V n zero128) (updF m n true) xs U w' ∧ Keep (fun j => j = c.p.b) w w'
theorem wtake {B : Nat} {c : SWc} {V : Nat → List UInt8} {m : Nat → Bool} {xs : Nat → NoS} {U : List Nat} {w : World} (h : SW B c V m xs U w) (hU : U.length ≤ 22) {n : Nat} (hn : n ∈ U) (h34 : 34 ∈ U) (hf : Ff m c.N n) :
    Calls Tryz.prog 69 #[.pointer (some ⟨c.p.k, 0, none⟩)] w (TwP B c V m xs U n w) := by
  obtain ⟨s, hst, hs, e1, e2⟩ := h
  obtain ⟨M, hk, hM, hm⟩ := hs.kn
  obtain ⟨f1, f2, f3, f4⟩ := hf
  have hr := hs.roomLen
  have hfp : firstP M 43 (s.sup.sectors - 43) = some n := firstP_of (m := m) (fun i h5 h6 => hm i h5 (by rw [hs.sec] at h6; omega)) f1 (by rw [hs.sec]; omega) f3 f4
  refine (stake_walk B c.p s w hst hs.ok M hk.marks n hfp (by omega)).mono fun e w' q => ?_
  obtain ⟨A, cc, A', c', rfl, hst', hk'⟩ := q
  have hs1 := hs.mark (by omega) h34 hk.marks f2 true A cc
  have hs2 := hs1.put (by omega) (x := ⟨n, A', c', List.replicate 128 0⟩) hn f1 f2 (List.length_replicate ..)
  exact ⟨rfl, ⟨_, hst', hs2, e1, e2⟩, hk'⟩
theorem wgive {B : Nat} {c : SWc} {V : Nat → List UInt8} {m : Nat → Bool} {xs : Nat → NoS} {U : List Nat} {w : World} (h : SW B c V m xs U w) (hU : U.length ≤ 24) (h34 : 34 ∈ U) {n : Nat} (h1 : 43 ≤ n) (h2 : n < c.N) :
    Calls Tryz.prog 113 #[.pointer (some ⟨c.p.k, 0, none⟩), .int .i64 (n : Int)] w (PwP B c V (updF m n false) xs U w) := by
  obtain ⟨s, hst, hs, e1, e2⟩ := h
  obtain ⟨M, hk, hM, hm⟩ := hs.kn
  refine (sgive_walk B c.p s w hst hs.ok n (by rw [hs.len]; exact h2) h1 M hk.marks (hs.room hU h34)).mono fun e w' q => ?_
  obtain ⟨A, cc, rfl, hst', hk'⟩ := q
  exact ⟨rfl, ⟨_, hst', hs.mark hU h34 hk.marks h2 false A cc, e1, e2⟩, hk'⟩
theorem wnode {B : Nat} {c : SWc} {V : Nat → List UInt8} {m : Nat → Bool} {xs : Nat → NoS} {U : List Nat} {w : World} (h : SW B c V m xs U w) {n : Nat} (hn : n < 32) :
    Calls Tryz.prog 42 #[.pointer (some ⟨c.p.k, 0, none⟩), .int .i64 (n : Int)] w fun e w' => e = .returned (.tuple #[(xs n).val, .int .i64 0]) ∧ Below w.heap.size w w' := by
  obtain ⟨s, hst, hs, e1, e2⟩ := h
  obtain ⟨M, hk, hM, hm⟩ := hs.kn
  exact lnode hst hk hn
theorem wsetn {B : Nat} {c : SWc} {V : Nat → List UInt8} {m : Nat → Bool} {xs : Nat → NoS} {U : List Nat} {w : World} (h : SW B c V m xs U w) (hU : U.length ≤ 24) {n : Nat} (hn : n < 32) (hx : 35 + n / 4 ∈ U) {y : NoS} (hy : y.ok) :
    Calls Tryz.prog 44 #[.pointer (some ⟨c.p.k, 0, none⟩), .int .i64 (n : Int), y.val] w (PwP B c V m (updF xs n y) U w) := by
  obtain ⟨s, hst, hs, e1, e2⟩ := h
  obtain ⟨M, hk, hM, hm⟩ := hs.kn
  obtain ⟨d, hd, _⟩ := hk.nodes n hn
  refine (ssetnode_walk B c.p s w hst hs.ok n hn y hy d hd (hs.room hU hx)).mono fun e w' q => ?_
  obtain ⟨A, cc, rfl, hst', hk'⟩ := q
  exact ⟨rfl, ⟨_, hst', hs.setn hU hn hx hy hd A cc, e1, e2⟩, hk'⟩
end Go.Proofs.YtehfoopefefpnaaGreat
/- copy from bytes into a row of bytes, as an equation of the run. -/
set_option linter.unusedSimpArgs false
set_option linter.unusedVariables false
namespace Go.Proofs.YtehfoopefefpnaaGreat
open Go.RowKit

theorem run_copy_bytes {w : World} {g off dLen dCap sLen sCap m : Nat} {A : Option Addr} {cur d : List UInt8} (hg : w.heap[g]? = some (.cells (bv cur).toArray 5 (0, 0))) (hs : Sl w 1 (.slice A sLen sCap) sLen (bv d)) (hm : m = Nat.min sLen dLen) (hfit : off + m ≤ cur.length) :
    ∃ W, (∀ ty, (Builtin.copy_ #[22, 22] ty #[.slice (some ⟨g, off, none⟩) dLen dCap, .slice A sLen sCap]).run Tryz.prog w = .ok (goInt m) W) ∧ W.heap[g]? = some (.cells (bv (splice cur off (d.take m))).toArray 5 (0, 0)) ∧ Keep (fun j => j = g) w W := by
  obtain ⟨A', c', e, hr, hA, hc, hl⟩ := hs
  injection e with e1 e2 e3
  subst e1 e3
  have hd : d.length = sLen := by rw [bv_length, Nat.mul_one] at hl; exact hl
  have hml : (d.take m).length = m := by rw [List.length_take, hd, hm]; exact Nat.min_eq_left (Nat.min_le_left _ _)
  by_cases h0 : m = 0
  · subst h0
    refine ⟨w, fun ty => run_copy_none (P := Tryz.prog) w _ _ ty 5 _ _ dLen dCap sLen sCap Tryz.underlying22 (by kernel_rfl) hm.symm, ?_, Keep.refl _ _⟩
    rw [List.take_zero]
    have : splice cur off [] = cur := by unfold splice; simp
    rw [this]
    exact hg
  · rcases hr with hn | ⟨ad, rfl, hcs⟩
    · rw [bv_eq_nil] at hn
      rw [hn] at hml
      simp at hml
      omega
    · have hsrc : ∀ j v, (bv (d.take m))[j]? = some v → w.cell? (ad.add j) = some v := fun j v hv => hcs j v (by
        unfold bv at hv ⊢
        rw [List.map_take, List.getElem?_take] at hv
        split at hv
        · exact hv
        · cases hv)
      have hrun := fun ty => run_copy_row (P := Tryz.prog) w 22 22 ty 5 g off dLen dCap ad sLen sCap (bv cur).toArray 5 (bv (d.take m)) Tryz.underlying22 (by kernel_rfl) hg (by rw [bv_length, hml, hm]) hsrc (by rw [bv_length, hml]; simp only [List.size_toArray, bv_length]; exact hfit) (bv_one _)
      refine ⟨_, fun ty => by rw [hrun ty, bv_length, hml], ?_, ?_⟩
      · rw [setRow_heap w g _ _ _ _ hg]
        congr 2
        unfold splice bv
        rw [hml]
        simp only [List.map_append, List.map_take, List.map_drop, List.length_map, List.append_assoc]
      · exact ⟨rfl, rfl, rfl, by simp [World.setRow], fun k _ hk => setRow_other w g k _ hk⟩
end Go.Proofs.YtehfoopefefpnaaGreat
/- Package tree: pointers, Encode; ContainsFunc over numbers. -/
set_option linter.unusedSimpArgs false
set_option linter.unusedVariables false
namespace Go.Proofs.YtehfoopefefpnaaGreat
open Go.RowKit

attribute [local go_sem ↓] Go.wp_at_zero Go.wp_at_succ
/-- ContainsFunc over numbers, at any function that is known. -/
def IxP (l : List Nat) (q : Nat → Bool) (w : World) (e : Ending) (w' : World) : Prop := ∃ r : Int, e = .returned (.int .i64 r) ∧ (0 ≤ r ↔ l.any q = true) ∧ w' = w
def IxI (l : List Nat) (q : Nat → Bool) (v : Value) : Prop := ∃ i : Nat, i ≤ l.length ∧ v = .int .i64 (i : Int) ∧ (l.take i).any q = false
set_option maxRecDepth 100000 in
theorem idxE (q : Nat → Bool) (l : List Nat) (A : Option Addr) (c : Nat) (w : World) (h : Sl w 1 (.slice A l.length c) l.length (nv l)) (hl : l.length ≤ 1000000) (hF : ∀ n ∈ l, Calls Tryz.prog 139 #[.int .i64 (n : Int)] w fun e w' => e = .returned (.bool (q n)) ∧ w' = w) :
    Calls Tryz.prog 141 #[.slice A l.length c, .func (.func 139) #[] #[]] w (IxP l q w) := by
  have H := Lib.hid h
  have HF := Lib.hid hF
  clear h hF
  go_enter Tryz.func141, Tryz.ntmps141
  go_wp2_with fail
  go_loop [8] (fun v => IxI l q v) (fun v => l.length - (intOf v).toNat)
  case atStart => exact ⟨0, Nat.zero_le _, rfl, rfl⟩
  case round =>
    obtain ⟨i, hi, rfl, hno⟩ := hrel
    by_cases hlt : i < l.length
    · obtain ⟨x, hx⟩ : ∃ x, l[i]? = some x := ⟨l[i], List.getElem?_eq_getElem hlt⟩
      obtain ⟨b, o, rfl, _, hc⟩ := sl_cell (k := i) (u := .int .i64 (x : Int)) H.out (by unfold nv; rw [List.getElem?_map, hx]; rfl)
      have g1 : (i : Int) < (l.length : Int) := by omega
      have g0 : (0 : Int) ≤ (i : Int) := by omega
      have g2 : IntKind.i64.wrap ((i : Int) + 1) = (i : Int) + 1 := IntWalk.i64_in _ (by omega)
      have HN := HF.out x (List.mem_of_getElem? hx)
      have HNO := Lib.hid hno
      have HX := Lib.hid hx
      cases hq : q x with
      | false =>
        rw [hq] at HN
        have HN := Lib.hid HN
        have HQ := Lib.hid hq
        clear hx hno hq
        go_wp2_with fail
        refine HN.out.mono ?_
        rintro e W ⟨rfl, hWW⟩
        have hWW' := hWW.symm
        subst hWW'
        clear hWW
        go_wp2_with fail
        exact ⟨⟨i + 1, hlt, by rw [Int.natCast_add]; rfl, by
          rw [List.take_add_one, HX.out, List.any_append, HNO.out]
          simp [HQ.out]⟩, by simp only [intOf]; omega⟩
      | true =>
        rw [hq] at HN
        have HN := Lib.hid HN
        have HQ := Lib.hid hq
        clear hx hno hq
        go_wp2_with fail
        refine HN.out.mono ?_
        rintro e W ⟨rfl, hWW⟩
        have hWW' := hWW.symm
        subst hWW'
        clear hWW
        go_wp2
        go_ret
        exact ⟨_, rfl, ⟨fun _ => List.any_eq_true.2 ⟨x, List.mem_of_getElem? HX.out, HQ.out⟩, fun _ => g0⟩, rfl⟩
    · obtain rfl : i = l.length := by omega
      have g1 : ¬ (l.length : Int) < (l.length : Int) := by omega
      rw [List.take_length] at hno
      have HNO := Lib.hid hno
      clear hno
      go_wp2
      go_ret
      exact ⟨_, rfl, ⟨fun h => by omega, fun h => by rw [HNO.out] at h; cases h⟩, rfl⟩
theorem conE (q : Nat → Bool) (l : List Nat) (A : Option Addr) (c : Nat) (w : World) (h : Sl w 1 (.slice A l.length c) l.length (nv l)) (hl : l.length ≤ 1000000) (hF : ∀ n ∈ l, Calls Tryz.prog 139 #[.int .i64 (n : Int)] w fun e w' => e = .returned (.bool (q n)) ∧ w' = w) :
    Calls Tryz.prog 115 #[.slice A l.length c, .func (.func 139) #[] #[]] w fun e w' => e = .returned (.bool (l.any q)) ∧ w' = w := by
  have H := Lib.hid (idxE q l A c w h hl hF)
  clear h hF
  go_enter Tryz.func115, Tryz.ntmps115
  go_wp2_with fail
  refine H.out.mono ?_
  rintro e W ⟨r, rfl, hr, hWW⟩
  have hWW' := hWW.symm
  subst hWW'
  clear hWW
  have HR : Hid (decide (0 ≤ r) = l.any q) := Lib.hid (by
    cases ha : l.any q with
    | true => exact decide_eq_true (hr.2 ha)
    | false => exact decide_eq_false (fun h => by rw [hr.1 h] at ha; cases ha))
  clear hr
  go_wp2
  go_ret
  exact ⟨by rw [← HR.out]; rfl, rfl⟩
set_option maxRecDepth 100000 in
theorem idxC (q : Nat → Bool) (l : List Nat) (A : Option Addr) (c : Nat) (w : World) (h : Sl w 1 (.slice A l.length c) l.length (nv l)) (hl : l.length ≤ 1000000) (hF : ∀ n ∈ l, Calls Tryz.prog 116 #[.int .i64 (n : Int)] w fun e w' => e = .returned (.bool (q n)) ∧ w' = w) :
    Calls Tryz.prog 141 #[.slice A l.length c, .func (.func 116) #[] #[]] w (IxP l q w) := by
  have H := Lib.hid h
  have HF := Lib.hid hF
  clear h hF
  go_enter Tryz.func141, Tryz.ntmps141
  go_wp2_with fail
  go_loop [8] (fun v => IxI l q v) (fun v => l.length - (intOf v).toNat)
  case atStart => exact ⟨0, Nat.zero_le _, rfl, rfl⟩
  case round =>
    obtain ⟨i, hi, rfl, hno⟩ := hrel
    by_cases hlt : i < l.length
    · obtain ⟨x, hx⟩ : ∃ x, l[i]? = some x := ⟨l[i], List.getElem?_eq_getElem hlt⟩
      obtain ⟨b, o, rfl, _, hc⟩ := sl_cell (k := i) (u := .int .i64 (x : Int)) H.out (by unfold nv; rw [List.getElem?_map, hx]; rfl)
      have g1 : (i : Int) < (l.length : Int) := by omega
      have g0 : (0 : Int) ≤ (i : Int) := by omega
      have g2 : IntKind.i64.wrap ((i : Int) + 1) = (i : Int) + 1 := IntWalk.i64_in _ (by omega)
      have HN := HF.out x (List.mem_of_getElem? hx)
      have HNO := Lib.hid hno
      have HX := Lib.hid hx
      cases hq : q x with
      | false =>
        rw [hq] at HN
        have HN := Lib.hid HN
        have HQ := Lib.hid hq
        clear hx hno hq
        go_wp2_with fail
        refine HN.out.mono ?_
        rintro e W ⟨rfl, hWW⟩
        have hWW' := hWW.symm
        subst hWW'
        clear hWW
        go_wp2_with fail
        exact ⟨⟨i + 1, hlt, by rw [Int.natCast_add]; rfl, by
          rw [List.take_add_one, HX.out, List.any_append, HNO.out]
          simp [HQ.out]⟩, by simp only [intOf]; omega⟩
      | true =>
        rw [hq] at HN
        have HN := Lib.hid HN
        have HQ := Lib.hid hq
        clear hx hno hq
        go_wp2_with fail
        refine HN.out.mono ?_
        rintro e W ⟨rfl, hWW⟩
        have hWW' := hWW.symm
        subst hWW'
        clear hWW
        go_wp2
        go_ret
        exact ⟨_, rfl, ⟨fun _ => List.any_eq_true.2 ⟨x, List.mem_of_getElem? HX.out, HQ.out⟩, fun _ => g0⟩, rfl⟩
    · obtain rfl : i = l.length := by omega
      have g1 : ¬ (l.length : Int) < (l.length : Int) := by omega
      rw [List.take_length] at hno
      have HNO := Lib.hid hno
      clear hno
      go_wp2
      go_ret
      exact ⟨_, rfl, ⟨fun h => by omega, fun h => by rw [HNO.out] at h; cases h⟩, rfl⟩
theorem conC (q : Nat → Bool) (l : List Nat) (A : Option Addr) (c : Nat) (w : World) (h : Sl w 1 (.slice A l.length c) l.length (nv l)) (hl : l.length ≤ 1000000) (hF : ∀ n ∈ l, Calls Tryz.prog 116 #[.int .i64 (n : Int)] w fun e w' => e = .returned (.bool (q n)) ∧ w' = w) :
    Calls Tryz.prog 115 #[.slice A l.length c, .func (.func 116) #[] #[]] w fun e w' => e = .returned (.bool (l.any q)) ∧ w' = w := by
  have H := Lib.hid (idxC q l A c w h hl hF)
  clear h hF
  go_enter Tryz.func115, Tryz.ntmps115
  go_wp2_with fail
  refine H.out.mono ?_
  rintro e W ⟨r, rfl, hr, hWW⟩
  have hWW' := hWW.symm
  subst hWW'
  clear hWW
  have HR : Hid (decide (0 ≤ r) = l.any q) := Lib.hid (by
    cases ha : l.any q with
    | true => exact decide_eq_true (hr.2 ha)
    | false => exact decide_eq_false (fun h => by rw [hr.1 h] at ha; cases ha))
  clear hr
  go_wp2
  go_ret
  exact ⟨by rw [← HR.out]; rfl, rfl⟩
/-! ### pointers -/
theorem tpointer_yes (n : Nat) (h : ptrB n = true) (w : World) : Calls Tryz.prog 140 #[.int .i64 (n : Int)] w fun e w' => e = .returned (.bool true) ∧ w' = w := by
  have h' : n = 0 ∨ 43 ≤ n ∧ n < 1024 := of_decide_eq_true h
  by_cases h0 : n = 0
  · subst h0
    go_enter Tryz.func140, Tryz.ntmps140
    go_wp2
    go_ret
    exact ⟨rfl, rfl⟩
  · have e0 : ((n : Int) == 0) = false := beq_eq_false_iff_ne.2 (by omega)
    have h1 : (43 : Int) ≤ (n : Int) := by omega
    have h2 : (n : Int) < 1024 := by omega
    clear h h'
    go_enter Tryz.func140, Tryz.ntmps140
    go_wp2
    go_ret
    exact ⟨rfl, rfl⟩
theorem tnopointer (n : Nat) (h : ptrB n = true) (w : World) : Calls Tryz.prog 139 #[.int .i64 (n : Int)] w fun e w' => e = .returned (.bool false) ∧ w' = w := by
  have HP := Lib.hid (tpointer_yes n h w)
  clear h
  go_enter Tryz.func139, Tryz.ntmps139
  go_wp2_with fail
  refine HP.out.mono ?_
  rintro e W ⟨rfl, hWW⟩
  have hWW' := hWW.symm
  subst hWW'
  clear hWW
  go_wp2
  go_ret
  exact ⟨rfl, rfl⟩
/-- A sector of pointers. -/
structure P8 (l : List Nat) : Prop where
  len : l.length = 8
  each : ∀ n ∈ l, ptrB n = true
def treeI (l : List Nat) (i : Nat) : List UInt8 := headN (l.take i) ++ List.replicate (128 - 2 * i) 0
def treeE (l : List Nat) : List UInt8 := headN l ++ List.replicate 112 0
theorem treeE_len {l : List Nat} (h : P8 l) : (treeE l).length = 128 := by
  unfold treeE
  rw [List.length_append, headN_len, h.len, List.length_replicate]
theorem treeI_len (l : List Nat) (i : Nat) (h : i ≤ l.length) (h8 : i ≤ 64) : (treeI l i).length = 128 := by
  unfold treeI
  rw [List.length_append, headN_len, List.length_take, List.length_replicate]
  omega
theorem treeI_step {l : List Nat} {i n : Nat} (hn : l[i]? = some n) (h8 : i < 60) : ((treeI l i).set (2 * i) (UInt8.ofNat n)).set (2 * i + 1) (UInt8.ofNat (n / 256)) = treeI l (i + 1) := by
  have hil : i < l.length := (List.getElem?_eq_some_iff.1 hn).1
  have hl : (headN (l.take i)).length = 2 * i := by rw [headN_len, List.length_take]; omega
  unfold treeI
  rw [headN_take hn, show 128 - 2 * i = (128 - 2 * (i + 1)) + 1 + 1 by omega, List.replicate_succ, List.replicate_succ]
  rw [List.set_append_right _ _ (by omega), hl, show 2 * i - 2 * i = 0 by omega, List.set_cons_zero, List.set_append_right _ _ (by omega), hl, show 2 * i + 1 - 2 * i = 0 + 1 by omega, List.set_cons_succ, List.set_cons_zero, List.append_assoc]
  rfl
theorem row_nb {B g : Nat} {W : World} {X : List UInt8} (h : W.heap[g]? = some (.cells (bv X).toArray 5 (0, 0))) (hB : B ≤ g) : NB B W (some ⟨g, 0, none⟩) X.length X := by
  refine ⟨⟨_, _, rfl, .inr ⟨_, rfl, fun j u hu => ?_⟩, (fun e => by cases e), Nat.le_refl _, by rw [bv_length, Nat.mul_one]⟩, fun j e => ?_⟩
  · rw [Addr.add_lit, Nat.zero_add, blk_cells h, List.getElem?_toArray]
    exact hu
  · obtain rfl : g = j := Option.some.inj e
    exact ⟨hB, _, _, h⟩
def EnI (l : List Nat) (g : Nat) (w : World) (v : Value) (W : World) : Prop := ∃ i : Nat, i ≤ l.length ∧ v = .int .i64 (i : Int) ∧ W.heap[g]? = some (.cells (bv (treeI l i)).toArray 5 (0, 0)) ∧ Keep (fun j => j = g) w W
set_option maxRecDepth 100000 in
set_option maxHeartbeats 2000000 in
theorem tencode_walk (l : List Nat) (hp : P8 l) (A : Option Addr) (c : Nat) (w : World) (h : Sl w 1 (.slice A 8 c) 8 (nv l)) :
    Calls Tryz.prog 112 #[.slice A 8 c] w fun e w' => ∃ A', e = .returned (.tuple #[.slice A' 128 128, .int .i64 0]) ∧ NB w.heap.size w' A' 128 (treeE l) ∧ Below w.heap.size w w' := by
  have hany : l.any (fun _ => false) = false := by rw [List.any_eq_false]; intro _ _ h; cases h
  have hcf := conE (fun _ => false) l A c w (by rw [hp.len]; exact h) (by rw [hp.len]; omega) (fun n hn => tnopointer n (hp.each n hn) w)
  rw [hp.len, hany] at hcf
  have HCF := Lib.hid hcf
  have HP := Lib.hid hp
  have HS := Lib.hid h
  obtain ⟨Z, hZ⟩ : ∃ Z : Array Value, Z = (bv zero128).toArray := ⟨_, rfl⟩
  have hmk : ∀ W : World, (Instr.makeSlice 22 (.int .i64 128) (.int .i64 128)).run Tryz.prog W = .ok (.slice (some ⟨W.heap.size, 0, none⟩) 128 128) (W.alloc (.cells Z 5)) := fun W => by rw [hZ]; exact make128 W
  obtain ⟨w1, hw1⟩ : ∃ w1, w1 = w.alloc (.cells Z 5) := ⟨_, rfl⟩
  have hn1 := blk_new w (.cells Z 5)
  have hb1 : Below w.heap.size w w1 := by rw [hw1]; exact (Below.refl _ w).alloc (Nat.le_refl _) _
  rw [← hw1, hZ] at hn1
  obtain ⟨g, hg⟩ : ∃ g, g = w.heap.size := ⟨_, rfl⟩
  have HI : Hid (EnI l g w1 (.int .i64 0) w1) := Lib.hid ⟨0, Nat.zero_le _, rfl, by rw [hg]; exact hn1, Keep.refl _ _⟩
  have HG := Lib.hid hg
  have HW1 := Lib.hid hw1
  have HB1 := Lib.hid hb1
  clear hp h hany hcf hZ hn1 hb1 hw1 hg
  go_enter Tryz.func112, Tryz.ntmps112
  go_wp2_with fail
  refine HCF.out.mono ?_
  rintro e W ⟨rfl, rfl⟩
  go_upto_region 4 with fail
  rw [← HW1.out, ← HG.out]
  clear hmk
  go_wp2_with fail
  go_loopw [17] (fun v wr => EnI l g w1 v wr) (fun v _ => 8 - (intOf v).toNat)
  case atStart => exact HI.out
  case round =>
    obtain ⟨i, hi, rfl, hblk, hk⟩ := hrel
    rw [HP.out.len] at hi
    have HK := Lib.hid hk
    by_cases hlt : i < 8
    · obtain ⟨n, hn⟩ : ∃ n, l[i]? = some n := ⟨l[i]'(by rw [HP.out.len]; exact hlt), List.getElem?_eq_getElem _⟩
      have hnb := HP.out.each n (List.mem_of_getElem? hn)
      have hn9 : n < 1024 := by have := of_decide_eq_true hnb; omega
      have hsl := (HS.out.below HB1.out).keep hk (fun j e hne => by
        have hlt' := HS.out.lt e hne
        have := HG.out
        show ¬ j = g
        omega)
      obtain ⟨b, o, rfl, _, hc⟩ := sl_cell (k := i) (u := .int .i64 (n : Int)) hsl (by unfold nv; rw [List.getElem?_map, hn]; rfl)
      obtain ⟨v1, hv1⟩ : ∃ u : UInt8, u = UInt8.ofNat n := ⟨_, rfl⟩
      obtain ⟨v2, hv2⟩ : ∃ u : UInt8, u = UInt8.ofNat (n / 256) := ⟨_, rfl⟩
      have e1 : (n : Int) % 256 = (v1.toNat : Int) := by rw [hv1]; simp
      have e2 : (n : Int) / 256 % 256 = (v2.toNat : Int) := by rw [hv2, UInt8.toNat_ofNat']; omega
      have e3 : (n : Int) / 256 = (v2.toNat : Int) := by rw [hv2, UInt8.toNat_ofNat']; omega
      obtain ⟨q, hq⟩ : ∃ q : Nat, q = 2 * i := ⟨_, rfl⟩
      have d1 : IntKind.i64.wrap (2 * (i : Int)) = (q : Int) := by rw [IntWalk.i64_in _ (by omega)]; omega
      have d2 : IntKind.i64.wrap ((q : Int) + 1) = (q : Int) + 1 := IntWalk.i64_in _ (by omega)
      have d3 : (0 : Int) ≤ (q : Int) := by omega
      have d4 : (q : Int) < 128 := by omega
      have d5 : (q : Int) + 1 < 128 := by omega
      have d6 : (0 : Int) ≤ (q : Int) + 1 := by omega
      have d7 : ((q : Int) + 1).toNat = q + 1 := by omega
      have g1 : (i : Int) < 8 := by omega
      have g0 : (0 : Int) ≤ (i : Int) := by omega
      have g2 : IntKind.i64.wrap ((i : Int) + 1) = (i : Int) + 1 := IntWalk.i64_in _ (by omega)
      have hst := treeI_step hn (by omega)
      rw [← hv1, ← hv2, ← hq] at hst
      have HST := Lib.hid hst
      have hl : (treeI l i).length = 128 := treeI_len l i (by rw [HP.out.len]; omega) (by omega)
      have cc := blk_cells hblk
      have c1 : ∃ v, wr.cell? ⟨g, q, none⟩ = some v := ⟨_, (cc q).trans (Array.getElem?_eq_getElem (by simp [bv_length, hl]; omega))⟩
      have c2 : ∃ v, wr.cell? ⟨g, q + 1, none⟩ = some v := ⟨_, (cc (q + 1)).trans (Array.getElem?_eq_getElem (by simp [bv_length, hl]; omega))⟩
      obtain ⟨u1, c1⟩ := c1
      obtain ⟨u2, c2⟩ := c2
      have f1 := blk_frees hblk q
      have f2 := blk_frees hblk (q + 1)
      have HBLK := Lib.hid hblk
      clear hn hnb hsl hv1 hv2 hq hst hl cc hblk hk
      have HR : Hid (EnI l g w1 (.int .i64 ((i : Int) + 1)) ((wr.setCell ⟨g, q, none⟩ (.int .u8 (v1.toNat : Int))).setCell ⟨g, q + 1, none⟩ (.int .u8 (v2.toNat : Int)))) := Lib.hid ⟨i + 1, by rw [HP.out.len]; exact hlt, by rw [Int.natCast_add]; rfl, by
        rw [blk_set (blk_set HBLK.out (.int .u8 (v1.toNat : Int)) (j := q)) (.int .u8 (v2.toNat : Int)) (j := q + 1), ← HST.out, ← bv_set, ← bv_set]
        simp, (HK.out.trans (keep_set _ g q _) (fun _ _ h => h)).trans (keep_set _ g (q + 1) _) (fun _ _ h => h)⟩
      go_wp2_with fail
      go_roundw
      case rel => exact HR.out
      case measure => simp only [intOf]; omega
    · obtain rfl : i = 8 := by omega
      have g1 : ¬ (8 : Int) < 8 := by omega
      have he : treeI l 8 = treeE l := by
        unfold treeI treeE
        rw [List.take_of_length_le (by rw [HP.out.len]; exact Nat.le_refl _)]
      rw [he] at hblk
      have hnb := row_nb (B := W.heap.size) hblk (by rw [HG.out]; exact Nat.le_refl _)
      rw [treeE_len HP.out] at hnb
      have HNB := Lib.hid hnb
      have HB : Hid (Below W.heap.size W wr) := Lib.hid (HB1.out.trans (hk.below (fun j (hj : j = g) => by have := HG.out; omega) HB1.out.size))
      clear hblk hk he hnb
      go_wp2
      go_ret2
      exact ⟨_, rfl, HNB.out, HB.out⟩
end Go.Proofs.YtehfoopefefpnaaGreat
/- A file's tree: which sector stands where, plain. No program in sight. -/
set_option linter.unusedSimpArgs false
set_option linter.unusedVariables false
namespace Go.Proofs.YtehfoopefefpnaaGreat
open Go.RowKit

/-- Pointers' places among the 86: 4 one, 5 two, 14..21 the kids of two. -/
def isP (q : Nat) : Prop := q = 4 ∨ q = 5 ∨ 14 ≤ q ∧ q < 22
instance (q : Nat) : Decidable (isP q) := by unfold isP; infer_instance
/-- Where a pointer's kids begin. -/
def kb (q : Nat) : Nat := if q = 4 then 6 else if q = 5 then 14 else 8 * q - 90
/-- The place of a block. -/
def sb (b : Nat) : Nat := if b < 4 then b else if b < 12 then b + 2 else b + 10
/-- Whose kid a place is. -/
def par (t : Nat) : Nat := if t < 14 then 4 else if t < 22 then 5 else 14 + (t - 22) / 8
def kids (a : Nat → Nat) (k : Nat) : List Nat := (List.range 8).map fun i => a (k + i)
theorem kids_len (a : Nat → Nat) (k : Nat) : (kids a k).length = 8 := by unfold kids; simp
theorem kids_get (a : Nat → Nat) (k : Nat) {i : Nat} (h : i < 8) : (kids a k)[i]? = some (a (k + i)) := by
  unfold kids
  rw [List.getElem?_map, List.getElem?_range h]
  rfl
theorem kids_congr {a a' : Nat → Nat} {k : Nat} (h : ∀ i, i < 8 → a' (k + i) = a (k + i)) : kids a' k = kids a k := by
  unfold kids
  exact List.map_congr_left (fun i hi => h i (List.mem_range.1 hi))
theorem kids_zero {a : Nat → Nat} {k : Nat} (h : ∀ i, i < 8 → a (k + i) = 0) : kids a k = List.replicate 8 0 := by
  have : kids a k = kids (fun _ => 0) k := kids_congr h
  rw [this]
  rfl
theorem treeE_zero : treeE (List.replicate 8 0) = zero128 := by decide
def NoS.ptr (x : NoS) : Nat → Nat
  | 0 => x.p0
  | 1 => x.p1
  | 2 => x.p2
  | 3 => x.p3
  | 4 => x.one
  | _ => x.two
structure TreeOk (V : Nat → List UInt8) (m : Nat → Bool) (N : Nat) (x : NoS) (a : Nat → Nat) : Prop where
  inj : ∀ i j, i < 86 → j < 86 → a i = a j → a i ≠ 0 → i = j
  rng : ∀ i, i < 86 → a i ≠ 0 → 43 ≤ a i ∧ a i < N ∧ m (a i) = true
  top : ∀ i, i < 6 → x.ptr i = a i
  kid : ∀ q, isP q → a q ≠ 0 → V (a q) = treeE (kids a (kb q))
  none_ : ∀ q, isP q → a q = 0 → ∀ i, i < 8 → a (kb q + i) = 0
theorem TreeOk.p8 {V : Nat → List UInt8} {m : Nat → Bool} {N : Nat} {x : NoS} {a : Nat → Nat} (h : TreeOk V m N x a) (hN : N ≤ 1024) {q : Nat} (hq : isP q) : P8 (kids a (kb q)) where
  len := kids_len _ _
  each := fun n hn => by
    obtain ⟨i, hi, rfl⟩ := List.mem_map.1 hn
    have hi := List.mem_range.1 hi
    have hk : kb q + i < 86 := by
      unfold isP at hq
      unfold kb
      split
      · omega
      · split <;> omega
    unfold ptrB
    by_cases h0 : a (kb q + i) = 0
    · exact decide_eq_true (.inl h0)
    · obtain ⟨h1, h2, _⟩ := h.rng _ hk h0
      exact decide_eq_true (.inr ⟨h1, by omega⟩)
theorem kb_lt {q i : Nat} (hq : isP q) (hi : i < 8) : kb q + i < 86 := by
  unfold isP at hq
  unfold kb
  split
  · omega
  · split <;> omega
theorem par_kb {q i : Nat} (hq : isP q) (hi : i < 8) : par (kb q + i) = q := by
  unfold isP at hq
  unfold par kb
  split
  · rename_i h; subst h; rw [if_pos (by omega)]
  · split
    · rename_i h; subst h; rw [if_neg (by omega), if_pos (by omega)]
    · rw [if_neg (by omega), if_neg (by omega)]
      omega
theorem par_isP {t : Nat} (h : 6 ≤ t) (h2 : t < 86) : isP (par t) := by
  unfold isP par
  split
  · exact .inl rfl
  · split
    · exact .inr (.inl rfl)
    · right; right; omega
theorem par_kb' {t : Nat} (h : 6 ≤ t) (h2 : t < 86) : ∃ i, i < 8 ∧ t = kb (par t) + i := by
  unfold par kb
  by_cases h1 : t < 14
  · rw [if_pos h1, if_pos rfl]
    exact ⟨t - 6, by omega, by omega⟩
  · rw [if_neg h1]
    by_cases h3 : t < 22
    · rw [if_pos h3, if_neg (by omega), if_pos rfl]
      exact ⟨t - 14, by omega, by omega⟩
    · rw [if_neg h3, if_neg (by omega), if_neg (by omega)]
      exact ⟨(t - 22) % 8, by omega, by omega⟩
/-- Which of a node's pointers are others. -/
def NoS.setPtr (x : NoS) (i n : Nat) : NoS := match i with
  | 0 => { x with p0 := n }
  | 1 => { x with p1 := n }
  | 2 => { x with p2 := n }
  | 3 => { x with p3 := n }
  | 4 => { x with one := n }
  | _ => { x with two := n }
theorem setPtr_ptr (x : NoS) {i j : Nat} (hi : i < 6) (hj : j < 6) (n : Nat) : (x.setPtr i n).ptr j = if j = i then n else x.ptr j := by
  rcases (by omega : i = 0 ∨ i = 1 ∨ i = 2 ∨ i = 3 ∨ i = 4 ∨ i = 5) with rfl | rfl | rfl | rfl | rfl | rfl <;>
    rcases (by omega : j = 0 ∨ j = 1 ∨ j = 2 ∨ j = 3 ∨ j = 4 ∨ j = 5) with rfl | rfl | rfl | rfl | rfl | rfl <;> rfl
/-- A new sector, of zeros, at a place of the node's own. -/
theorem TreeOk.addTop {V : Nat → List UInt8} {m : Nat → Bool} {N : Nat} {x : NoS} {a : Nat → Nat} (h : TreeOk V m N x a) {t n : Nat} (ht : t < 6) (h0 : a t = 0) (hn : 43 ≤ n) (hN : n < N) (hm : m n = false) :
    TreeOk (updF V n zero128) (updF m n true) N (x.setPtr t n) (updF a t n) := by
  have hnew : ∀ i, i < 86 → a i ≠ 0 → a i ≠ n := fun i hi h1 e => by
    have := (h.rng i hi h1).2.2
    rw [e, hm] at this
    cases this
  have ha : ∀ i, i ≠ t → updF a t n i = a i := fun i hi => updF_ne a n hi
  have hat : updF a t n t = n := updF_same a t n
  have hkq : ∀ q i, isP q → i < 8 → kb q + i ≠ t := fun q i hq hi e => by
    unfold isP at hq
    unfold kb at e
    split at e
    · omega
    · split at e <;> omega
  refine ⟨fun i j hi hj e hz => ?_, fun i hi hz => ?_, fun i hi => ?_, fun q hq hz => ?_, fun q hq hz i hi => ?_⟩
  · by_cases e1 : i = t
    · subst e1
      by_cases e2 : j = i
      · exact e2.symm
      · rw [hat, ha j e2] at e
        exact absurd e.symm (hnew j hj (by omega))
    · by_cases e2 : j = t
      · subst e2
        rw [hat, ha i e1] at e
        rw [ha i e1] at hz
        exact absurd e (hnew i hi hz)
      · rw [ha i e1, ha j e2] at e
        rw [ha i e1] at hz
        exact h.inj i j hi hj e hz
  · by_cases e1 : i = t
    · subst e1
      rw [hat]
      exact ⟨hn, hN, updF_same m n true⟩
    · rw [ha i e1] at hz ⊢
      obtain ⟨h1, h2, h3⟩ := h.rng i hi hz
      exact ⟨h1, h2, by rw [updF_ne m true (hnew i hi hz)]; exact h3⟩
  · rw [setPtr_ptr x ht hi n]
    unfold updF
    split
    · rfl
    · exact h.top i hi
  · rw [kids_congr (fun i hi => ha _ (hkq q i hq hi))]
    by_cases e1 : q = t
    · subst e1
      rw [hat, updF_same, kids_zero (h.none_ q hq h0), treeE_zero]
    · rw [ha q e1] at hz ⊢
      have hq86 : q < 86 := by unfold isP at hq; omega
      rw [updF_ne V zero128 (hnew q hq86 hz)]
      exact h.kid q hq hz
  · rw [ha _ (hkq q i hq hi)]
    by_cases e1 : q = t
    · subst e1
      exact h.none_ q hq h0 i hi
    · rw [ha q e1] at hz
      exact h.none_ q hq hz i hi
/-- A new sector, of zeros, at a place that another sector tells. -/
theorem TreeOk.addKid {V : Nat → List UInt8} {m : Nat → Bool} {N : Nat} {x : NoS} {a : Nat → Nat} (h : TreeOk V m N x a) {q i n : Nat} (hq : isP q) (hi : i < 8) (hp : a q ≠ 0) (h0 : a (kb q + i) = 0) (hn : 43 ≤ n) (hN : n < N) (hm : m n = false) :
    TreeOk (updF (updF V n zero128) (a q) (treeE (kids (updF a (kb q + i) n) (kb q)))) (updF m n true) N x (updF a (kb q + i) n) := by
  obtain ⟨t, et⟩ : ∃ t, t = kb q + i := ⟨_, rfl⟩
  rw [← et] at h0 ⊢
  have ht6 : 6 ≤ t ∧ t < 86 := by
    have := kb_lt hq hi
    unfold isP at hq
    unfold kb at et
    split at et
    · omega
    · split at et <;> omega
  have hq86 : q < 86 := by unfold isP at hq; omega
  have hnew : ∀ i, i < 86 → a i ≠ 0 → a i ≠ n := fun i hi h1 e => by
    have := (h.rng i hi h1).2.2
    rw [e, hm] at this
    cases this
  have ha : ∀ i, i ≠ t → updF a t n i = a i := fun i hi => updF_ne a n hi
  have hat : updF a t n t = n := updF_same a t n
  have hqt : q ≠ t := fun e => by subst e; exact hp h0
  refine ⟨fun i j hi hj e hz => ?_, fun i hi hz => ?_, fun i hi => ?_, fun r hr hz => ?_, fun r hr hz j hj => ?_⟩
  · by_cases e1 : i = t
    · subst e1
      by_cases e2 : j = i
      · exact e2.symm
      · rw [hat, ha j e2] at e
        exact absurd e.symm (hnew j hj (by omega))
    · by_cases e2 : j = t
      · subst e2
        rw [hat, ha i e1] at e
        rw [ha i e1] at hz
        exact absurd e (hnew i hi hz)
      · rw [ha i e1, ha j e2] at e
        rw [ha i e1] at hz
        exact h.inj i j hi hj e hz
  · by_cases e1 : i = t
    · subst e1
      rw [hat]
      exact ⟨hn, hN, updF_same m n true⟩
    · rw [ha i e1] at hz ⊢
      obtain ⟨h1, h2, h3⟩ := h.rng i hi hz
      exact ⟨h1, h2, by rw [updF_ne m true (hnew i hi hz)]; exact h3⟩
  · rw [ha i (by omega)]
    exact h.top i hi
  · by_cases e1 : r = q
    · subst e1
      rw [ha r hqt, updF_same]
    · have hk : kids (updF a t n) (kb r) = kids a (kb r) := kids_congr (fun j hj => ha _ (fun e => by
        have h1 := par_kb hr hj
        rw [e, et, par_kb hq (by assumption)] at h1
        exact e1 h1.symm))
      rw [hk]
      by_cases e2 : r = t
      · subst e2
        rw [hat, updF_ne _ _ (fun e => hnew q hq86 hp e.symm), updF_same, kids_zero (h.none_ r hr h0), treeE_zero]
      · rw [ha r e2] at hz ⊢
        have hr86 : r < 86 := by unfold isP at hr; omega
        rw [updF_ne _ _ (fun e => e1 (h.inj r q hr86 hq86 e hz)), updF_ne _ _ (hnew r hr86 hz)]
        exact h.kid r hr hz
  · by_cases e2 : r = t
    · subst e2
      rw [ha _ (fun e => by
        have h1 := par_kb hr hj
        rw [e] at h1
        have h2 : par r < r := by unfold par; split; omega; split <;> omega
        omega)]
      exact h.none_ r hr h0 j hj
    · rw [ha r e2] at hz
      by_cases e3 : kb r + j = t
      · exfalso
        have h1 := par_kb hr hj
        rw [e3, et, par_kb hq (by assumption)] at h1
        exact hp (h1 ▸ hz)
      · rw [ha _ e3]
        exact h.none_ r hr hz j hj
/-! ### contents -/
def Ct (V : Nat → List UInt8) (a : Nat → Nat) (k : Nat) : UInt8 := if a (sb (k / 128)) = 0 then 0 else (V (a (sb (k / 128)))).getD (k % 128) 0
theorem sb_lt {b : Nat} (h : b < 76) : sb b < 86 := by unfold sb; split; omega; split <;> omega
theorem sb_inj {b c : Nat} (h : b < 76) (h2 : c < 76) (e : sb b = sb c) : b = c := by
  unfold sb at e
  split at e <;> split at e <;> (try split at e) <;> (try split at e) <;> omega
theorem sb_notP {b : Nat} (h : b < 76) : ¬ isP (sb b) := by
  unfold isP sb
  split
  · omega
  · split <;> omega
end Go.Proofs.YtehfoopefefpnaaGreat
