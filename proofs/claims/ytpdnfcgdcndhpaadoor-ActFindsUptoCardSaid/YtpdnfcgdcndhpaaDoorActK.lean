/- A result as a line. -/
import Derived.Test.YtpdnfcgdcndhpaaDoorActJ
set_option linter.unusedSimpArgs false
set_option linter.unusedVariables false
namespace Go.Proofs.YtpdnfcgdcndhpaaDoor
open Go.RowKit

attribute [local go_sem ↓] Go.wp_at_zero Go.wp_at_succ
structure ResP where
  e : Int
  file : Int
  size : Int
  kind : Int
  data : Str
  names : List Str
def ResP.cells (r : ResP) (dv nv : Value) : Array Value := #[.int .i64 r.e, .int .i64 r.file, .int .i64 r.size, .int .i64 r.kind, dv, nv]
structure ResOk (r : ResP) : Prop where
  e : I64 r.e
  file : I64 r.file
  size : I64 r.size
  kind : I64 r.kind
  data : r.data.length ≤ 10000000000
  names : tot r.names ≤ 10000000000
def resW (r : ResP) : List Str := [Lib.itoa r.e, Lib.itoa r.file, Lib.itoa r.size, Lib.itoa r.kind, textP r.data] ++ r.names.map textP
def resP (r : ResP) : Str := jnW (resW r)
theorem texts_tot : ∀ (l : List Str), tot (l.map textP) ≤ 3 * tot l
  | [] => Nat.le_refl _
  | s :: l => by
    have := textP_len s
    have := texts_tot l
    simp only [List.map_cons, tot]
    omega
theorem resW_tot {r : ResP} (h : ResOk r) : tot (resW r) ≤ 100000000000 := by
  have h1 := itoa_len r.e h.e.1 h.e.2; have h2 := itoa_len r.file h.file.1 h.file.2; have h3 := itoa_len r.size h.size.1 h.size.2; have h4 := itoa_len r.kind h.kind.1 h.kind.2
  have h5 := textP_len r.data
  have h6 := texts_tot r.names
  have h7 := h.data; have h8 := h.names
  unfold resW
  rw [tot_app]
  simp only [tot]
  omega
/-- Words of one's own. -/
structure RO (w0 wr : World) (out : List Str) (A : Option Addr) (c : Nat) : Prop where
  own : wr.ownsRow 0 9 1 (.slice A out.length c) out.length (strs out)
  fresh : ∀ k, A.map (·.block) = some k → w0.heap.size ≤ k
  be : Below w0.heap.size w0 wr
theorem RO.on {w0 wr W : World} {out : List Str} {A : Option Addr} {c : Nat} (h : RO w0 wr out A c) (hk : Below wr.heap.size wr W) : RO w0 W out A c :=
  ⟨own_keep h.own (Keep.of_below (S := fun _ => False) hk) (fun _ _ h => h), h.fresh, h.be.trans (hk.mono h.be.size)⟩
theorem RO.app {w0 wr W w4 : World} {m : Nat} {out ys : List Str} {A A4 : Option Addr} {c c4 H : Nat} (h : RO w0 wr out A c) (hW : Below wr.heap.size wr W) (hm : m = ys.length) (hH : wr.heap.size ≤ H)
    (g1 : w4.ownsRow 0 9 1 (.slice A4 (out.length + m) c4) (out.length + m) (strs out ++ strs ys)) (g2 : Keep (fun k => (Value.slice A out.length c).ownBlock = some k) W w4)
    (g3 : (Value.slice A4 (out.length + m) c4).ownBlock = (Value.slice A out.length c).ownBlock ∨ (Value.slice A4 (out.length + m) c4).ownBlock = some H) : RO w0 w4 (out ++ ys) A4 c4 := by
  subst hm
  have h1 := h.on hW
  have k2 : Keep (fun k => A.map (·.block) = some k) W w4 := g2.mono (fun k _ e => by rw [ownBlock_slice] at e; exact e)
  refine ⟨by rw [List.length_append, strs_app]; exact g1, fun k e => ?_, h1.be.trans (k2.below (fun k e => h.fresh k e) h1.be.size)⟩
  rcases g3 with h3 | h3 <;> rw [ownBlock_slice] at h3
  · rw [ownBlock_slice] at h3
    exact h.fresh k (h3 ▸ e)
  · rw [e] at h3
    injection h3 with h3
    have := h.be.size
    omega
def NamesR (w : World) (nv : Value) (l : List Str) : Prop := ∃ A c, nv = .slice A l.length c ∧ Sl w 1 (.slice A l.length c) l.length (strs l)
def ReInv (r : ResP) (w : World) (v3 v26 : Value) (wr : World) : Prop := ∃ (j : Nat) (A : Option Addr) (c : Nat), j ≤ r.names.length ∧ v26 = .int .i64 (j : Int) ∧ v3 = .slice A ([Lib.itoa r.e, Lib.itoa r.file, Lib.itoa r.size, Lib.itoa r.kind, textP r.data] ++ (r.names.take j).map textP).length c ∧ RO w wr ([Lib.itoa r.e, Lib.itoa r.file, Lib.itoa r.size, Lib.itoa r.kind, textP r.data] ++ (r.names.take j).map textP) A c
set_option maxRecDepth 100000 in
set_option maxHeartbeats 8000000 in
theorem result_walk {B : Nat} (r : ResP) (dv nv : Value) (w : World) (hx : ResOk r) (hw : WV B w) (hd : DataR w dv r.data) (hn : NamesR w nv r.names) :
    Calls Tryd.prog 17 #[.agg (r.cells dv nv)] w fun e w' => e = .returned (.string ⟨(resP r).toArray⟩) ∧ Below w.heap.size w w' := by
  obtain ⟨DA, dc, rfl, hds⟩ := hd
  obtain ⟨NA, nc, rfl, hns⟩ := hn
  have HV := Lib.hid hw
  have HX := Lib.hid hx
  have HDS := Lib.hid hds
  have HNS := Lib.hid hns
  have hxd := hx.data
  have hnt := hx.names
  have hnl := len_tot r.names
  have hrt := resW_tot hx
  have hrl := len_tot (resW r)
  have hrj := jnW_len (resW r)
  obtain ⟨b, hb⟩ : ∃ b, b = w.alloc (.cells (r.cells (.slice DA r.data.length dc) (.slice NA r.names.length nc)) 45) := ⟨_, rfl⟩
  have hbx : b.heap[w.heap.size]? = some (.cells (r.cells (.slice DA r.data.length dc) (.slice NA r.names.length nc)) 45 (0, 0)) := by rw [hb]; exact blk_new w _
  have hbb : Below w.heap.size w b := by rw [hb]; exact (Below.refl _ w).alloc (Nat.le_refl _) _
  have HB := Lib.hid hbb
  have HBX := Lib.hid hbx
  have zb := blk_lt hbx
  have HI1 := Lib.hid (fun W (h : Below w.heap.size w W) => itoa_any r.e hx.e.1 hx.e.2 W (hw.below h))
  have HI2 := Lib.hid (fun W (h : Below w.heap.size w W) => itoa_any r.file hx.file.1 hx.file.2 W (hw.below h))
  have HI3 := Lib.hid (fun W (h : Below w.heap.size w W) => itoa_any r.size hx.size.1 hx.size.2 W (hw.below h))
  have HI4 := Lib.hid (fun W (h : Below w.heap.size w W) => itoa_any r.kind hx.kind.1 hx.kind.2 W (hw.below h))
  have HT := Lib.hid (fun W => text_walk r.data W (by omega))
  have HS := Lib.hid (fun (w' : World) (k : Below b.heap.size b w') => (show w'.cell? ⟨w.heap.size, 0, none⟩ = some (.int .i64 r.e) ∧ w'.cell? ⟨w.heap.size, 1, none⟩ = some (.int .i64 r.file) ∧ w'.cell? ⟨w.heap.size, 2, none⟩ = some (.int .i64 r.size) ∧ w'.cell? ⟨w.heap.size, 3, none⟩ = some (.int .i64 r.kind) ∧ w'.cell? ⟨w.heap.size, 4, none⟩ = some (.slice DA r.data.length dc) ∧ (convert 22 9 (.slice DA r.data.length dc)).run Tryd.prog w' = .ok (.string ⟨r.data.toArray⟩) w' from by
    have k2 := Keep.of_below (S := fun _ => False) k
    have q := blk_cells (k2.blk HBX.out id)
    exact ⟨(q 0).trans rfl, (q 1).trans rfl, (q 2).trans rfl, (q 3).trans rfl, (q 4).trans rfl, run_conv_bytes (P := Tryd.prog) w' Tryd.underlying22 Tryd.underlying5 Tryd.underlying9 (HDS.out.below (HB.out.trans (k.mono (by omega))))⟩))
  unfold ResP.cells at hb ⊢
  have HBE := Lib.hid hb
  clear hx hw hds hns hb hbx hbb
  go_enter Tryd.func17, Tryd.ntmps17
  go_upto_region 1 with fail
  rw [← HBE.out]
  go_region_held3 (fun w' => w'.cell? ⟨w.heap.size, 0, none⟩ = some (.int .i64 r.e) ∧ w'.cell? ⟨w.heap.size, 1, none⟩ = some (.int .i64 r.file) ∧ w'.cell? ⟨w.heap.size, 2, none⟩ = some (.int .i64 r.size) ∧ w'.cell? ⟨w.heap.size, 3, none⟩ = some (.int .i64 r.kind) ∧ w'.cell? ⟨w.heap.size, 4, none⟩ = some (.slice DA r.data.length dc) ∧ (convert 22 9 (.slice DA r.data.length dc)).run Tryd.prog w' = .ok (.string ⟨r.data.toArray⟩) w') (first | exact HS.out _ ((Below.refl _ b).drew) | exact HS.out _ K5.out | exact HS.out _ (K5.out.alloc K5.out.size _) | exact HS.out _ K4.out | exact HS.out _ K3.out | exact HS.out _ K2.out | exact HS.out _ K1.out)
    (first
      | (go_at_call 29; (with_reducible refine (HI1.out _ (HB.out.drew)).mono ?_); rintro e W1 ⟨rfl, hb1⟩; have K1 := Lib.hid (((Below.refl b.heap.size b).drew).trans hb1); have B1 := Lib.hid (HB.out.trans (K1.out.mono (by omega))); clear hb1)
      | (go_at_call 29; (with_reducible refine (HI2.out _ B1.out).mono ?_); rintro e W2 ⟨rfl, hb2⟩; have K2 := Lib.hid (K1.out.trans (hb2.mono K1.out.size)); have B2 := Lib.hid (HB.out.trans (K2.out.mono (by omega))); clear hb2)
      | (go_at_call 29; (with_reducible refine (HI3.out _ B2.out).mono ?_); rintro e W3 ⟨rfl, hb3⟩; have K3 := Lib.hid (K2.out.trans (hb3.mono K2.out.size)); have B3 := Lib.hid (HB.out.trans (K3.out.mono (by omega))); clear hb3)
      | (go_at_call 29; (with_reducible refine (HI4.out _ B3.out).mono ?_); rintro e W4 ⟨rfl, hb4⟩; have K4 := Lib.hid (K3.out.trans (hb4.mono K3.out.size)); have B4 := Lib.hid (HB.out.trans (K4.out.mono (by omega))); clear hb4)
      | (go_at_call 30; (refine (HT.out _).mono ?_); rintro e W5 ⟨rfl, hb5⟩; have K5 := Lib.hid (K4.out.trans (hb5.mono K4.out.size)); have B5 := Lib.hid (HB.out.trans (K5.out.mono (by omega))); clear hb5))
  all_goals
    obtain ⟨o5, ho5⟩ : ∃ o5 : List Str, o5 = [Lib.itoa r.e, Lib.itoa r.file, Lib.itoa r.size, Lib.itoa r.kind, textP r.data] := ⟨_, rfl⟩
    have hst : ReInv r w (.slice (some ⟨W5.heap.size, 0, none⟩) 5 5) (.int .i64 0) (W5.alloc (.cells #[.string ⟨(Lib.itoa r.e).toArray⟩, .string ⟨(Lib.itoa r.file).toArray⟩, .string ⟨(Lib.itoa r.size).toArray⟩, .string ⟨(Lib.itoa r.kind).toArray⟩, .string ⟨(textP r.data).toArray⟩] 9)) :=
      ⟨0, some ⟨W5.heap.size, 0, none⟩, 5, Nat.zero_le _, rfl, by simp, by
        rw [List.take_zero, List.map_nil, List.append_nil]
        exact ⟨own_new W5 #[.string ⟨(Lib.itoa r.e).toArray⟩, .string ⟨(Lib.itoa r.file).toArray⟩, .string ⟨(Lib.itoa r.size).toArray⟩, .string ⟨(Lib.itoa r.kind).toArray⟩, .string ⟨(textP r.data).toArray⟩] 9 1 5 rfl (by decide), fun k e => by injection e with e; have e : W5.heap.size = k := e; have := B5.out.size; omega, B5.out.alloc B5.out.size _⟩⟩
    have HST := Lib.hid hst
    have hcn : (W5.alloc (.cells #[.string ⟨(Lib.itoa r.e).toArray⟩, .string ⟨(Lib.itoa r.file).toArray⟩, .string ⟨(Lib.itoa r.size).toArray⟩, .string ⟨(Lib.itoa r.kind).toArray⟩, .string ⟨(textP r.data).toArray⟩] 9)).cell? ⟨w.heap.size, 5, none⟩ = some (.slice NA r.names.length nc) :=
      (blk_cells ((Keep.of_below (S := fun _ => False) (K5.out.alloc K5.out.size _)).blk HBX.out id) 5).trans rfl
    clear hst ho5 HI1 HI2 HI3 HI4 HT
    go_upto_region 3 with fail
    clear hcn
    go_loopw [3, 26] (fun v3 v26 wr => ReInv r w v3 v26 wr) (fun _ v _ => r.names.length - (intOf v).toNat)
    case atStart => exact HST.out
    case round =>
      obtain ⟨j, A, c, hj, rfl, rfl, hro⟩ := hrel
      have hol : ([Lib.itoa r.e, Lib.itoa r.file, Lib.itoa r.size, Lib.itoa r.kind, textP r.data] ++ (r.names.take j).map textP).length ≤ 20000000000 := by
        have : (r.names.take j).length ≤ j := List.length_take_le _ _
        simp only [List.length_append, List.length_map, List.length_cons, List.length_nil]
        omega
      have HEND := Lib.hid (fun (h : j = r.names.length) => (show [Lib.itoa r.e, Lib.itoa r.file, Lib.itoa r.size, Lib.itoa r.kind, textP r.data] ++ (r.names.take j).map textP = resW r by rw [h, List.take_length]; rfl))
      have HNX := Lib.hid (fun (n : Str) (h : r.names[j]? = some n) => (show [Lib.itoa r.e, Lib.itoa r.file, Lib.itoa r.size, Lib.itoa r.kind, textP r.data] ++ (r.names.take (j + 1)).map textP = ([Lib.itoa r.e, Lib.itoa r.file, Lib.itoa r.size, Lib.itoa r.kind, textP r.data] ++ (r.names.take j).map textP) ++ [textP n] by rw [List.take_add_one, h, List.map_append, List.append_assoc]; rfl))
      have HRI := Lib.hid (fun (A4 : Option Addr) (c4 : Nat) (w4 : World) (hj2 : j + 1 ≤ r.names.length) (n : Str) (h : r.names[j]? = some n) (h4 : RO w w4 (([Lib.itoa r.e, Lib.itoa r.file, Lib.itoa r.size, Lib.itoa r.kind, textP r.data] ++ (r.names.take j).map textP) ++ [textP n]) A4 c4) => (show ReInv r w (.slice A4 (([Lib.itoa r.e, Lib.itoa r.file, Lib.itoa r.size, Lib.itoa r.kind, textP r.data] ++ (r.names.take j).map textP).length + 1) c4) (.int .i64 ((j : Int) + 1)) w4 from ⟨j + 1, A4, c4, hj2, by go_num, congrArg (fun m => Value.slice A4 m c4) (by rw [HNX.out n h]; simp [Nat.add_assoc]), by rw [HNX.out n h]; exact h4⟩))
      obtain ⟨out, hout⟩ : ∃ out, out = [Lib.itoa r.e, Lib.itoa r.file, Lib.itoa r.size, Lib.itoa r.kind, textP r.data] ++ (r.names.take j).map textP := ⟨_, rfl⟩
      rw [← hout] at hro hol HEND HRI ⊢
      have HO := Lib.hid hro
      have HN2 := Lib.hid (HNS.out.below hro.be)
      clear hro hout HNX
      by_cases hlt : j < r.names.length
      · obtain ⟨n, hn⟩ : ∃ n, r.names[j]? = some n := ⟨r.names[j], List.getElem?_eq_getElem hlt⟩
        obtain ⟨gb, go, rfl, _, hcell⟩ := sl_row HN2.out (strs_get hn)
        have hmt := mem_tot (List.mem_of_getElem? hn)
        have HN := Lib.hid hn
        have j0 : (0 : Int) ≤ (j : Int) := by omega
        have j1 : (j : Int) < (r.names.length : Int) := by omega
        have HW := Lib.hid (text_walk n wr (by omega))
        clear hn
        go_wp2_with fail
        refine HW.out.mono ?_
        rintro e V1 ⟨rfl, hb2⟩
        have I2 := Lib.hid (HO.out.on hb2)
        clear hb2 hcell
        go_wp2_with (at_builtin; go_must (refine wpList_app rfl eltS rfl rfl rfl (n := out.length) (m := 1) (own_keep I2.out.own ((Keep.refl (fun _ => False) _).alloc _) (fun _ _ h => h)) (Sl.of_own (own_new V1 #[.string ⟨(textP n).toArray⟩] 9 1 1 rfl (by decide))) (by simp [Value.oneCell']) (by omega) (by simp only [maxLen]; omega) ?_))
        intro v4 w4 g1 g2 g3 g4
        clear g4
        obtain ⟨A4, c4, rfl, _⟩ := Rd.of_own g1
        have I3 := Lib.hid (I2.out.app (ys := [textP n]) ((Below.refl _ V1).alloc (Nat.le_refl _) _) rfl (Nat.le_succ _) g1 g2 g3)
        clear g1 g2 g3
        go_wp2
        go_roundw
        case rel => exact HRI.out A4 c4 w4 hlt n HN.out I3.out
        case measure => simp [intOf]; omega
      · obtain rfl : j = r.names.length := by omega
        have HE := Lib.hid (HEND.out rfl)
        have j1 : ¬ ((r.names.length : Nat) : Int) < (r.names.length : Int) := by omega
        have HJ := Lib.hid (join_any (.slice A out.length c) out wr HO.out.own (by rw [HE.out]; unfold resW; simp) (by omega) (by rw [HE.out]; omega))
        clear hnt hrt
        go_wp2_with fail
        refine HJ.out.mono ?_
        rintro e W6 ⟨rfl, hb6⟩
        have B6 := Lib.hid (HO.out.be.trans (hb6.mono HO.out.be.size))
        clear hb6
        go_wp2
        go_ret
        exact ⟨by rw [HE.out]; rfl, B6.out⟩
end Go.Proofs.YtpdnfcgdcndhpaaDoor
