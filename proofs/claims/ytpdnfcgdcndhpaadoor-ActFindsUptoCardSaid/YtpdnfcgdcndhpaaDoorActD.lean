/- The words of an act. -/
import Derived.Test.YtpdnfcgdcndhpaaDoorActC
set_option linter.unusedSimpArgs false
set_option linter.unusedVariables false
namespace Go.Proofs.YtpdnfcgdcndhpaaDoor
open Go.RowKit

attribute [local go_sem ↓] Go.wp_at_zero Go.wp_at_succ
structure ActOk (x : ActP) : Prop where
  kind : I64 x.kind
  a : I64 x.a
  n : I64 x.n
  call : CallOk x.call
  keep : ∀ k ∈ x.keep, I64 k
  len : x.keep.length ≤ 10000000000
def KeepR (w : World) (kv : Value) (l : List Int) : Prop := ∃ A c, kv = .slice A l.length c ∧ Sl w 1 (.slice A l.length c) l.length (ints l)
theorem KeepR.below {w w' : World} {kv : Value} {l : List Int} (h : KeepR w kv l) (hk : Below w.heap.size w w') : KeepR w' kv l := by
  obtain ⟨A, c, rfl, hs⟩ := h
  exact ⟨A, c, rfl, hs.below hk⟩
theorem KeepIs.r {X : Nat} {w : World} {kv : Value} {l : List Int} (h : KeepIs X w kv l) : KeepR w kv l := by
  obtain ⟨A, c, rfl, hs, _⟩ := h
  exact ⟨A, c, rfl, Sl.of_own hs⟩
/-- A cell of a slice that is read. -/
theorem sl_row {w : World} {A : Option Addr} {n c k : Nat} {xs : List Value} {u : Value} (h : Sl w 1 (.slice A n c) n xs) (hk : xs[k]? = some u) : ∃ b o, A = some ⟨b, o, none⟩ ∧ b < w.heap.size ∧ w.cell? ⟨b, o + k, none⟩ = some u := by
  obtain ⟨A', c', e', hr, _⟩ := h
  injection e' with e1 _ e2
  subst e1
  rcases hr with h0 | ⟨ad, rfl, hc⟩
  · rw [h0] at hk; simp at hk
  · have h1 := hc _ _ hk
    obtain ⟨b, o, spot⟩ := ad
    obtain ⟨u0, hu0⟩ : ∃ u0, xs[0]? = some u0 := ⟨xs[0]'(by have := (List.getElem?_eq_some_iff.1 hk).1; omega), List.getElem?_eq_getElem _⟩
    have hz := hc _ _ hu0
    have es : spot = none := by
      have : (⟨b, o, spot⟩ : Addr).add 0 = ⟨b, o, spot⟩ := by unfold Addr.add; simp
      rw [this] at hz
      exact World.cell?_spot hz
    subst es
    simp only [Addr.add_lit] at h1
    exact ⟨b, o, rfl, World.block_lt_of_cell? w _ h1, h1⟩
def fieldA (x : ActP) (c : UInt8) : List Str :=
  if c = 97 then [Lib.itoa x.a]
  else if c = 110 then [Lib.itoa x.n]
  else if c = 99 then wordsP x.call
  else if c = 107 then x.keep.map Lib.itoa
  else []
def writeP (x : ActP) : List Str := (kindOf actT x.kind).word :: (kindOf actT x.kind).has.flatMap (fieldA x)
theorem fieldA_len (x : ActP) (c : UInt8) : (fieldA x c).length ≤ 9 + x.keep.length := by
  unfold fieldA
  have := wordsP_len x.call
  repeat' split
  all_goals (first | (rw [List.length_map]; omega) | (simp only [List.length_cons, List.length_nil]; omega) | omega)
theorem flat_lenN {α : Type} (g : α → List Str) (N : Nat) (hg : ∀ c, (g c).length ≤ N) : ∀ l : List α, (l.flatMap g).length ≤ l.length * N
  | [] => by simp
  | c :: l => by
    rw [List.flatMap_cons, List.length_append, List.length_cons, Nat.add_mul]
    have := flat_lenN g N hg l
    have := hg c
    omega
theorem writeP_len (x : ActP) (h : x.keep.length ≤ 10000000000) : (writeP x).length ≤ 100000000000 := by
  unfold writeP
  have h1 := flat_lenN (fieldA x) _ (fieldA_len x) (kindOf actT x.kind).has
  have h2 := (ascii_ka x.kind).2
  have h3 : (kindOf actT x.kind).has.length * (9 + x.keep.length) ≤ 8 * (9 + x.keep.length) := Nat.mul_le_mul_right _ h2
  rw [List.length_cons]
  omega
def AInv (x : ActP) (dv kv : Value) (b0 IT : Nat) (has : Str) (fin : List Str) (w0 : World) (v : Value) (wr : World) : Prop :=
  ∃ (i : Nat) (out : List Str) (A : Option Addr) (c : Nat), v = .slice A out.length c ∧ WI b0 IT 27 (x.cells dv kv) has w0 wr i out A c ∧ out ++ (has.drop i).flatMap (fieldA x) = fin
def AKInv (x : ActP) (dv kv : Value) (b0 IT : Nat) (has : Str) (o0 : List Str) (w0 : World) (i : Nat) (v4 v51 : Value) (wr : World) : Prop :=
  ∃ (j : Nat) (A : Option Addr) (c : Nat), j ≤ x.keep.length ∧ v51 = .int .i64 (j : Int) ∧ v4 = .slice A (o0 ++ (x.keep.take j).map Lib.itoa).length c ∧ WI b0 IT 27 (x.cells dv kv) has w0 wr i (o0 ++ (x.keep.take j).map Lib.itoa) A c
set_option maxRecDepth 100000 in
set_option maxHeartbeats 4000000 in
theorem write_walk {B : Nat} (x : ActP) (dv kv : Value) (w : World) (hx : ActOk x) (hw : WV B w) (hd : DataR w dv x.call.data) (hk : KeepR w kv x.keep) :
    Calls Tryd.prog 19 #[.agg (x.cells dv kv)] w (WordsPost (writeP x) w) := by
  obtain ⟨DA, dc, rfl, hsl⟩ := hd
  obtain ⟨KA, kc, rfl, hkl⟩ := hk
  have HSL := Lib.hid hsl
  have HKL := Lib.hid hkl
  have HX := Lib.hid hx
  have HV := Lib.hid hw
  obtain ⟨fin, hfin⟩ : ∃ fin, fin = writeP x := ⟨_, rfl⟩
  rw [← hfin]
  have HFIN := Lib.hid hfin
  have hfl : fin.length ≤ 100000000000 := by rw [hfin]; exact writeP_len x hx.len
  obtain ⟨b, hb⟩ : ∃ b, b = w.alloc (.cells (x.cells (.slice DA x.call.data.length dc) (.slice KA x.keep.length kc)) 27) := ⟨_, rfl⟩
  have hbx : b.heap[w.heap.size]? = some (.cells (x.cells (.slice DA x.call.data.length dc) (.slice KA x.keep.length kc)) 27 (0, 0)) := by rw [hb]; exact blk_new w _
  have hbb : Below w.heap.size w b := by rw [hb]; exact (Below.refl _ w).alloc (Nat.le_refl _) _
  have HB := Lib.hid hbb
  have HBX := Lib.hid hbx
  have zb := blk_lt hbx
  have ck : b.cell? ⟨w.heap.size, 0, none⟩ = some (.int .i64 x.kind) := (blk_cells hbx 0).trans rfl
  unfold ActP.cells at hb ⊢
  have HBE := Lib.hid hb
  clear hsl hkl hx hw hfin hb hbx hbb
  go_enter Tryd.func19, Tryd.ntmps19
  go_upto_region 1 with fail
  rw [← HBE.out]
  go_cut [3] (fun v wx => KindAt (kindOf actT x.kind) w b v wx)
  case first =>
    have ck2 : (b.alloc (.cells #[.string ⟨#[]⟩, .string ⟨#[]⟩] 74)).cell? ⟨w.heap.size, 0, none⟩ = some (.int .i64 x.kind) := ((Keep.refl (fun _ => False) b).alloc _).cell ck id
    go_region_law (first | (go_simp; go_at_call 34; (with_reducible refine (acts_walk (b.alloc (.cells #[.string ⟨#[]⟩, .string ⟨#[]⟩] 74)).drew).mono ?_); rintro e W1 ⟨rfl, hm1, hb1⟩; obtain ⟨hl1, _, hz, hbw⟩ := look_way1 HX.out.kind.wf hm1 hb1; have ck3 := (Keep.of_below (S := fun _ => False) hbw).cell ck id; have cz0 : W1.cell? ⟨b.heap.size, 0, none⟩ = some (.string ⟨#[]⟩) := (blk_cells hz 0).trans rfl; have cz1 : W1.cell? ⟨b.heap.size, 1, none⟩ = some (.string ⟨#[]⟩) := (blk_cells hz 1).trans rfl; have fz := blk_frees hz; have WAY := Lib.hid hz; have WAYB := Lib.hid hbw; clear hm1 hb1 hz hbw) | (go_simp; go_at_call 34; refine (acts_walk b.drew).mono ?_; rintro e W1 ⟨rfl, hm1, hb1⟩; obtain ⟨hl, hbw⟩ := look_way2 HX.out.kind.wf hm1 hb1; have ck3 := (Keep.of_below (S := fun _ => False) hbw).cell ck id; have ck4 : (W1.alloc (.cells #[.string ⟨#[]⟩, .string ⟨#[]⟩] 74)).cell? ⟨w.heap.size, 0, none⟩ = some (.int .i64 x.kind) := ((Keep.refl (fun _ => False) W1).alloc _).cell ck3 id; have hl1 := (hl W1 (Below.refl _ _)).1; have hl2 := (hl (W1.alloc (.cells #[.string ⟨#[]⟩, .string ⟨#[]⟩] 74)) ((Below.refl _ _).alloc (Nat.le_refl _) _)).1; have WAYB := Lib.hid hbw; clear hm1 hb1 hl hbw))
    all_goals
      go_wp2_with fail
      go_meet
      case rel => first | exact ⟨_, rfl, blk_new W1 _, WAYB.out.alloc WAYB.out.size _, WAYB.out.size⟩ | exact ⟨b.heap.size, rfl, blk_setL (blk_setL WAY.out _) _, (WAYB.out.setCell (Nat.le_refl _) _).setCell (Nat.le_refl _) _, Nat.le_refl _⟩
  case rest =>
    obtain ⟨b3, rfl, h3, hbw, hb3⟩ := hcut
    have hasc := (ascii_ka x.kind).1
    have hln := (ascii_ka x.kind).2
    obtain ⟨wd, hwd⟩ : ∃ wd, wd = (kindOf actT x.kind).word := ⟨_, rfl⟩
    obtain ⟨has, hhas⟩ : ∃ has, has = (kindOf actT x.kind).has := ⟨_, rfl⟩
    rw [← hwd, ← hhas] at h3
    rw [← hhas] at hasc hln
    have hfin : fin = [wd] ++ has.flatMap (fieldA x) := by rw [HFIN.out, hwd, hhas]; rfl
    have c30 : wc.cell? ⟨b3, 0, none⟩ = some (.string ⟨wd.toArray⟩) := (blk_cells h3 0).trans rfl
    have c31 : wc.cell? ⟨b3, 1, none⟩ = some (.string ⟨has.toArray⟩) := (blk_cells h3 1).trans rfl
    have c31b : (wc.alloc (.cells #[.string ⟨wd.toArray⟩] 9)).cell? ⟨b3, 1, none⟩ = some (.string ⟨has.toArray⟩) := ((Keep.refl (fun _ => False) wc).alloc _).cell c31 id
    have z3 := hbw.size
    have HASC := Lib.hid hasc
    have HBW := Lib.hid (HB.out.trans (hbw.mono (by omega)))
    have HCX := Lib.hid ((Keep.of_below (S := fun _ => False) hbw).blk HBX.out id)
    have L : WB w.heap.size (wc.heap.size + 1) B 27 w := ⟨Nat.le_refl _, by omega, by decide⟩
    have HST : Hid (AInv x (.slice DA x.call.data.length dc) (.slice KA x.keep.length kc) w.heap.size (wc.heap.size + 1) has fin w (.slice (some ⟨wc.heap.size, 0, none⟩) 1 1) ((wc.alloc (.cells #[.string ⟨wd.toArray⟩] 9)).iter ⟨has.toArray⟩ 0)) := Lib.hid (by
      have e1 : (wc.alloc (.cells #[.string ⟨wd.toArray⟩] 9)).heap.size = wc.heap.size + 1 := by simp
      have b1 : Below wc.heap.size wc ((wc.alloc (.cells #[.string ⟨wd.toArray⟩] 9)).iter ⟨has.toArray⟩ 0) := ((Below.refl _ wc).alloc (Nat.le_refl _) _).alloc (by simp) _
      refine ⟨0, [wd], some ⟨wc.heap.size, 0, none⟩, 1, rfl, ⟨by rw [← e1]; exact World.iter_heap _ _ _, Nat.zero_le _, own_keep (own_new wc #[.string ⟨wd.toArray⟩] 9 1 1 rfl (by decide)) ((Keep.refl (fun _ => False) _).alloc _) (fun _ _ h => h), fun k e => ?_, (Keep.of_below (S := fun _ => False) b1).blk HCX.out id, HBW.out.trans (b1.mono (by omega))⟩, by rw [hfin]; rfl⟩
      injection e with e
      have e : wc.heap.size = k := e
      omega)
    clear h3 hbw hasc hwd hhas hfin
    go_upto_region 4 with fail
    go_loopw [4] (fun v wr => AInv x (.slice DA x.call.data.length dc) (.slice KA x.keep.length kc) w.heap.size (wc.heap.size + 1) has fin w v wr) (fun _ wr => has.length - wr.iterPos (wc.heap.size + 1))
    case atStart => exact HST.out
    case round =>
      obtain ⟨i, out, A, c0, rfl, hI, hf⟩ := hrel
      have HP := Lib.hid (iterPos_of hI.it)
      have HF := Lib.hid hf
      have HI := Lib.hid hI
      have hit := hI.it
      have hle := hI.le
      have hol : out.length ≤ 100000000000 := by
        have := congrArg List.length hf
        rw [List.length_append] at this
        omega
      clear hf hI
      by_cases hlt : i < has.length
      · obtain ⟨c, hc⟩ : ∃ c, has[i]? = some c := ⟨has[i], List.getElem?_eq_getElem hlt⟩
        have hc2 : (⟨has.toArray⟩ : ByteArray)[i]'(show i < has.length from hlt) = c := (List.getElem?_eq_some_iff.1 hc).2
        have hasc2 := ascii_at HASC.out hc
        have hnx : ∀ ty, (Instr.next (.pointer (some ⟨wc.heap.size + 1, 0, none⟩)) true ty).run Tryd.prog wr = .ok (.tuple #[.bool true, .int .i64 i, .int .i32 (c.toNat : Int)]) (wr.iterAt (wc.heap.size + 1) ⟨has.toArray⟩ (i + 1)) := by
          intro ty
          have := Lib.run_next_ascii_at (P := Tryd.prog) wr (wc.heap.size + 1) ⟨has.toArray⟩ i ty hit (show i < has.length from hlt) (by rw [hc2]; exact hasc2)
          rw [hc2] at this
          exact this
        have hI1 := HI.out.turn L hlt
        obtain ⟨V, hV⟩ : ∃ V, V = wr.iterAt (wc.heap.size + 1) ⟨has.toArray⟩ (i + 1) := ⟨_, rfl⟩
        rw [← hV] at hnx hI1
        have I1 := Lib.hid hI1
        have HC := Lib.hid hc
        have HWV := Lib.hid (HV.out.below hI1.be)
        have HSV := Lib.hid (HSL.out.below hI1.be)
        have HKV := Lib.hid (HKL.out.below hI1.be)
        have bX := blk_cells hI1.bx
        clear hV hI1 hc2 hc hit hasc2
        by_cases hcc : c = 97
        · subst hcc
          have HST := Lib.hid (show fieldA x 97 = [Lib.itoa x.a] from rfl)
          have cX : V.cell? ⟨w.heap.size, 1, none⟩ = some (.int .i64 x.a) := (bX 1).trans rfl
          clear bX
          have HW := Lib.hid (itoa_any x.a HX.out.a.1 HX.out.a.2 V HWV.out)
          obtain ⟨u0, hu0⟩ : ∃ u0, u0 = Lib.itoa x.a := ⟨_, rfl⟩
          rw [← hu0] at HST HW
          clear hu0
          go_wp2_with fail
          refine HW.out.mono ?_
          rintro e V1 ⟨rfl, hb2⟩
          have I2 := Lib.hid (I1.out.on hb2)
          clear hb2
          go_wp2_with (at_builtin; go_must (refine wpList_app rfl eltS rfl rfl rfl (n := out.length) (m := 1) (own_keep I2.out.own ((Keep.refl (fun _ => False) _).alloc _) (fun _ _ h => h)) (Sl.of_own (own_new V1 #[.string ⟨u0.toArray⟩] 9 1 1 rfl (by decide))) (by simp [Value.oneCell']) (by omega) (by simp only [maxLen]; omega) ?_))
          intro v4 w4 g1 g2 g3 g4
          clear g4
          obtain ⟨A4, c4, rfl, _⟩ := Rd.of_own g1
          have I3 := Lib.hid (I2.out.app (ys := [u0]) L ((Below.refl _ V1).alloc (Nat.le_refl _) _) rfl (Nat.le_succ _) g1 g2 g3)
          clear g1 g2 g3
          go_wp2
          go_roundw
          case rel => exact ⟨i + 1, out ++ [u0], A4, c4, by rw [List.length_append]; rfl, I3.out, by have := HF.out; rw [drop_cons HC.out, List.flatMap_cons, HST.out, ← List.append_assoc] at this; exact this⟩
          case measure => rw [iterPos_of I3.out.it, HP.out]; omega
        have hn97 := u8_ne (k := 97) (by decide) hcc
        have HN97 := Lib.hid hcc
        clear hcc
        by_cases hcc : c = 110
        · subst hcc
          have HST := Lib.hid (show fieldA x 110 = [Lib.itoa x.n] from rfl)
          have cX : V.cell? ⟨w.heap.size, 2, none⟩ = some (.int .i64 x.n) := (bX 2).trans rfl
          clear bX
          have HW := Lib.hid (itoa_any x.n HX.out.n.1 HX.out.n.2 V HWV.out)
          obtain ⟨u0, hu0⟩ : ∃ u0, u0 = Lib.itoa x.n := ⟨_, rfl⟩
          rw [← hu0] at HST HW
          clear hu0
          go_wp2_with fail
          refine HW.out.mono ?_
          rintro e V1 ⟨rfl, hb2⟩
          have I2 := Lib.hid (I1.out.on hb2)
          clear hb2
          go_wp2_with (at_builtin; go_must (refine wpList_app rfl eltS rfl rfl rfl (n := out.length) (m := 1) (own_keep I2.out.own ((Keep.refl (fun _ => False) _).alloc _) (fun _ _ h => h)) (Sl.of_own (own_new V1 #[.string ⟨u0.toArray⟩] 9 1 1 rfl (by decide))) (by simp [Value.oneCell']) (by omega) (by simp only [maxLen]; omega) ?_))
          intro v4 w4 g1 g2 g3 g4
          clear g4
          obtain ⟨A4, c4, rfl, _⟩ := Rd.of_own g1
          have I3 := Lib.hid (I2.out.app (ys := [u0]) L ((Below.refl _ V1).alloc (Nat.le_refl _) _) rfl (Nat.le_succ _) g1 g2 g3)
          clear g1 g2 g3
          go_wp2
          go_roundw
          case rel => exact ⟨i + 1, out ++ [u0], A4, c4, by rw [List.length_append]; rfl, I3.out, by have := HF.out; rw [drop_cons HC.out, List.flatMap_cons, HST.out, ← List.append_assoc] at this; exact this⟩
          case measure => rw [iterPos_of I3.out.it, HP.out]; omega
        have hn110 := u8_ne (k := 110) (by decide) hcc
        have HN110 := Lib.hid hcc
        clear hcc
        by_cases hcc : c = 99
        · subst hcc
          have HST := Lib.hid (show fieldA x 99 = wordsP x.call from rfl)
          have d0 : V.cell? ⟨w.heap.size, 3, none⟩ = some (.int .i64 x.call.kind) := (bX 3).trans rfl
          have d1 : V.cell? ⟨w.heap.size, 4, none⟩ = some (.string ⟨x.call.path.toArray⟩) := (bX 4).trans rfl
          have d2 : V.cell? ⟨w.heap.size, 5, none⟩ = some (.string ⟨x.call.other.toArray⟩) := (bX 5).trans rfl
          have d3 : V.cell? ⟨w.heap.size, 6, none⟩ = some (.int .i64 x.call.file) := (bX 6).trans rfl
          have d4 : V.cell? ⟨w.heap.size, 7, none⟩ = some (.int .i64 x.call.at_) := (bX 7).trans rfl
          have d5 : V.cell? ⟨w.heap.size, 8, none⟩ = some (.int .i64 x.call.size) := (bX 8).trans rfl
          have d6 : V.cell? ⟨w.heap.size, 9, none⟩ = some (.slice DA x.call.data.length dc) := (bX 9).trans rfl
          clear bX
          have HW := Lib.hid (words_walk x.call (.slice DA x.call.data.length dc) V HX.out.call HWV.out ⟨DA, dc, rfl, HSV.out⟩)
          have hyl := wordsP_len x.call
          obtain ⟨ys, hys⟩ : ∃ ys, ys = wordsP x.call := ⟨_, rfl⟩
          rw [← hys] at HST HW hyl
          clear hys
          unfold CallP.cells at HW
          go_wp2_with fail
          refine HW.out.mono ?_
          rintro e V1 ⟨YA, yc, rfl, hyo, hyf, hb2⟩
          have I2 := Lib.hid (I1.out.on hb2)
          have HYO := Lib.hid hyo
          clear hb2 hyo hyf
          go_wp2_with (at_builtin; go_must (refine wpList_app rfl eltS rfl rfl rfl (n := out.length) (m := ys.length) I2.out.own (Sl.of_own HYO.out) (strs_one ys) (by omega) (by simp only [maxLen]; omega) ?_))
          intro v4 w4 g1 g2 g3 g4
          clear g4
          obtain ⟨A4, c4, rfl, _⟩ := Rd.of_own g1
          have I3 := Lib.hid (I2.out.app (ys := ys) L (Below.refl _ V1) rfl (Nat.le_refl _) g1 g2 g3)
          clear g1 g2 g3
          go_wp2
          go_roundw
          case rel => exact ⟨i + 1, out ++ ys, A4, c4, by rw [List.length_append], I3.out, by have := HF.out; rw [drop_cons HC.out, List.flatMap_cons, HST.out, ← List.append_assoc] at this; exact this⟩
          case measure => rw [iterPos_of I3.out.it, HP.out]; omega
        have hn99 := u8_ne (k := 99) (by decide) hcc
        have HN99 := Lib.hid hcc
        clear hcc
        by_cases hcc : c = 107
        · subst hcc
          have HST := Lib.hid (show fieldA x 107 = x.keep.map Lib.itoa from rfl)
          have cX : V.cell? ⟨w.heap.size, 10, none⟩ = some (.slice KA x.keep.length kc) := (bX 10).trans rfl
          clear bX
          have hkl2 := HX.out.len
          go_upto_region 15 with fail
          obtain ⟨wo, rfl⟩ : ∃ wo : World, wo = wr := ⟨_, rfl⟩
          have HS0 : Hid (AKInv x (.slice DA x.call.data.length dc) (.slice KA x.keep.length kc) w.heap.size (wc.heap.size + 1) has out w (i + 1) (.slice A out.length c0) (.int .i64 0) V) := Lib.hid ⟨0, A, c0, Nat.zero_le _, rfl, by simp, by simpa using I1.out⟩
          go_loopw [4, 51] (fun v4 v51 wr => AKInv x (.slice DA x.call.data.length dc) (.slice KA x.keep.length kc) w.heap.size (wc.heap.size + 1) has out w (i + 1) v4 v51 wr) (fun _ v51 _ => x.keep.length - (intOf v51).toNat)
          case atStart => exact HS0.out
          case round =>
            obtain ⟨j, KA2, kc2, hj, rfl, rfl, hI2⟩ := hrel
            have I2 := Lib.hid hI2
            have HW2 := Lib.hid (HV.out.below hI2.be)
            have HK2 := Lib.hid (HKL.out.below hI2.be)
            have htl : (x.keep.take j).length ≤ j := List.length_take_le _ _
            obtain ⟨o2, ho2⟩ : ∃ o2, o2 = out ++ (x.keep.take j).map Lib.itoa := ⟨_, rfl⟩
            have hol2 : o2.length ≤ 200000000000 := by rw [ho2, List.length_append, List.length_map]; omega
            rw [← ho2] at I2 ⊢
            have HO2 := Lib.hid ho2
            clear hI2 ho2 htl
            by_cases hjl : j < x.keep.length
            · obtain ⟨n, hn⟩ : ∃ n, x.keep[j]? = some n := ⟨x.keep[j], List.getElem?_eq_getElem hjl⟩
              obtain ⟨gb, go, rfl, _, hcell⟩ := sl_row HK2.out (k := j) (u := .int .i64 n) (by simp [ints, hn])
              have hIn := HX.out.keep n (List.mem_of_getElem? hn)
              have HN := Lib.hid hn
              have HIN := Lib.hid hIn
              have j0 : (0 : Int) ≤ (j : Int) := by omega
              have j1 : (j : Int) < (x.keep.length : Int) := by omega
              have HW := Lib.hid (itoa_any n hIn.1 hIn.2 wr HW2.out)
              clear hn hIn
              go_wp2_with fail
              refine HW.out.mono ?_
              rintro e V1 ⟨rfl, hb2⟩
              have I3 := Lib.hid (I2.out.on hb2)
              clear hb2 hcell
              go_wp2_with (at_builtin; go_must (refine wpList_app rfl eltS rfl rfl rfl (n := o2.length) (m := 1) (own_keep I3.out.own ((Keep.refl (fun _ => False) _).alloc _) (fun _ _ h => h)) (Sl.of_own (own_new V1 #[.string ⟨(Lib.itoa n).toArray⟩] 9 1 1 rfl (by decide))) (by simp [Value.oneCell']) (by omega) (by simp only [maxLen]; omega) ?_))
              intro v4 w4 g1 g2 g3 g4
              clear g4
              obtain ⟨A4, c4, rfl, _⟩ := Rd.of_own g1
              have I4 := Lib.hid (I3.out.app (ys := [Lib.itoa n]) L ((Below.refl _ V1).alloc (Nat.le_refl _) _) rfl (Nat.le_succ _) g1 g2 g3)
              clear g1 g2 g3
              have HEX := Lib.hid (show o2 ++ [Lib.itoa n] = out ++ (x.keep.take (j + 1)).map Lib.itoa by rw [HO2.out, List.take_add_one, HN.out, List.map_append, List.append_assoc]; rfl)
              go_wp2
              go_roundw
              case rel =>
                have h4 := I4.out
                rw [HEX.out] at h4
                exact ⟨j + 1, A4, c4, hjl, by go_num, by rw [← HEX.out, List.length_append]; rfl, h4⟩
              case measure => simp [intOf]; omega
            · obtain rfl : j = x.keep.length := by omega
              have HEX := Lib.hid (show o2 = out ++ x.keep.map Lib.itoa by rw [HO2.out, List.take_length])
              have j1 : ¬ ((x.keep.length : Nat) : Int) < (x.keep.length : Int) := by omega
              go_wp2
              go_roundw
              case rel => exact ⟨i + 1, o2, KA2, kc2, rfl, I2.out, by have := HF.out; rw [drop_cons HC.out, List.flatMap_cons, HST.out, ← List.append_assoc, ← HEX.out] at this; exact this⟩
              case measure => rw [iterPos_of I2.out.it, HP.out]; omega
        have hn107 := u8_ne (k := 107) (by decide) hcc
        have HN107 := Lib.hid hcc
        clear hcc
        have HST := Lib.hid (show fieldA x c = [] by unfold fieldA; rw [if_neg HN97.out, if_neg HN110.out, if_neg HN99.out, if_neg HN107.out])
        go_wp2
        go_roundw
        case rel => exact ⟨i + 1, out, A, c0, rfl, I1.out, by have := HF.out; rw [drop_cons HC.out, List.flatMap_cons, HST.out, List.nil_append] at this; exact this⟩
        case measure => rw [iterPos_of I1.out.it, HP.out]; omega
      · obtain rfl : i = has.length := by omega
        have hnx : ∀ ty, (Instr.next (.pointer (some ⟨wc.heap.size + 1, 0, none⟩)) true ty).run Tryd.prog wr = .ok (.tuple #[.bool false]) wr := fun ty => Lib.run_next_end_at (P := Tryd.prog) wr (wc.heap.size + 1) ⟨has.toArray⟩ has.length ty hit (show ¬ has.length < has.length by omega)
        have HE : Hid (out = fin) := Lib.hid (by have := HF.out; rw [List.drop_length, List.flatMap_nil, List.append_nil] at this; exact this)
        clear hit hle
        go_wp2
        go_ret
        rw [← HE.out]
        exact ⟨A, c0, rfl, HI.out.own, HI.out.fresh, HI.out.be⟩
end Go.Proofs.YtpdnfcgdcndhpaaDoor
