/- ActResults: the walk. -/
import Derived.Test.YtpdnfcgdcndhpaaDoorActReadsWalk
import Derived.Deep.DeepCutAuto
import Derived.Deep.CutBlock
set_option linter.unusedSimpArgs false
set_option linter.unusedVariables false
namespace Go.Proofs.YtpdnfcgdcndhpaaDoor
open Go.RowKit

attribute [local go_sem ↓] Go.wp_at_zero Go.wp_at_succ
def nmS (l : List Str) : Str := l.flatMap fun n => 32 :: textP n
theorem nmS_len : ∀ (l : List Str), (nmS l).length ≤ 3 * tot l
  | [] => Nat.le_refl _
  | n :: l => by
    have h1 := textP_len n
    have h2 := nmS_len l
    simp only [nmS, List.flatMap_cons, List.length_append, List.length_cons, tot] at h2 ⊢
    omega
theorem tot_take (l : List Str) (j : Nat) : tot (l.take j) ≤ tot l := by
  have := tot_app (l.take j) (l.drop j)
  rw [List.take_append_drop] at this
  omega
theorem nmS_snoc {l : List Str} {j : Nat} {n : Str} (h : l[j]? = some n) : nmS (l.take (j + 1)) = nmS (l.take j) ++ (32 :: textP n) := by
  rw [List.take_add_one, h]
  simp [nmS]
theorem resP_eq (r : ResP) : resP r = ((((((((Lib.itoa r.e ++ [32]) ++ Lib.itoa r.file) ++ [32]) ++ Lib.itoa r.size) ++ [32]) ++ Lib.itoa r.kind) ++ [32]) ++ textP r.data) ++ nmS r.names := by
  have h : resW r = Lib.itoa r.e :: ([Lib.itoa r.file, Lib.itoa r.size, Lib.itoa r.kind, textP r.data] ++ r.names.map textP) := rfl
  unfold resP
  rw [h, jn_cons]
  simp [nmS, List.flatMap_map]
def RlInv (r : ResP) (h7 : Str) (w0 : World) (v4 v3 : Value) (wr : World) : Prop := ∃ j : Nat, j ≤ r.names.length ∧ v4 = .int .i64 (j : Int) ∧ v3 = .string ⟨(h7 ++ nmS (r.names.take j)).toArray⟩ ∧ Below w0.heap.size w0 wr
set_option maxRecDepth 100000 in
set_option maxHeartbeats 8000000 in
theorem lawActResults.walk {B : Nat} (r : ResP) (dv nv : Value) (w : World) (hx : ResOk r) (hw : WV B w) (hd : DataR w dv r.data) (hn : NamesR w nv r.names) :
    Calls Tryd.prog 6 #[.agg (r.cells dv nv)] w fun e w' => e = .returned (.bool true) ∧ Below w.heap.size w w' := by
  obtain ⟨DA, dc, rfl, hds⟩ := hd
  obtain ⟨NA, nc, rfl, hns⟩ := hn
  have HV := Lib.hid hw
  have HX := Lib.hid hx
  have HDS := Lib.hid hds
  have HNS := Lib.hid hns
  have hxd := hx.data
  have hnt := hx.names
  have hnl := len_tot r.names
  obtain ⟨b, hb⟩ : ∃ b, b = w.alloc (.cells (r.cells (.slice DA r.data.length dc) (.slice NA r.names.length nc)) 45) := ⟨_, rfl⟩
  have hbx : b.heap[w.heap.size]? = some (.cells (r.cells (.slice DA r.data.length dc) (.slice NA r.names.length nc)) 45 (0, 0)) := by rw [hb]; exact blk_new w _
  have hbb : Below w.heap.size w b := by rw [hb]; exact (Below.refl _ w).alloc (Nat.le_refl _) _
  have HB := Lib.hid hbb
  have HBX := Lib.hid hbx
  have zb := blk_lt hbx
  have HN1 := Lib.hid (fun W => number_walk r.e W hx.e.1 hx.e.2)
  have HN2 := Lib.hid (fun W => number_walk r.file W hx.file.1 hx.file.2)
  have HN3 := Lib.hid (fun W => number_walk r.size W hx.size.1 hx.size.2)
  have HN4 := Lib.hid (fun W => number_walk r.kind W hx.kind.1 hx.kind.2)
  have HT := Lib.hid (fun W => ltext_walk r.data W (by omega))
  have nl1 := itoa_len r.e hx.e.1 hx.e.2; have nl2 := itoa_len r.file hx.file.1 hx.file.2; have nl3 := itoa_len r.size hx.size.1 hx.size.2; have nl4 := itoa_len r.kind hx.kind.1 hx.kind.2
  have tl : (textP r.data).length ≤ 40000000000 := by have := textP_len r.data; omega
  have HRP := Lib.hid (resP_eq r)
  obtain ⟨n1, hn1⟩ : ∃ n1, n1 = Lib.itoa r.e := ⟨_, rfl⟩
  obtain ⟨n2, hn2⟩ : ∃ n2, n2 = Lib.itoa r.file := ⟨_, rfl⟩
  obtain ⟨n3, hn3⟩ : ∃ n3, n3 = Lib.itoa r.size := ⟨_, rfl⟩
  obtain ⟨n4, hn4⟩ : ∃ n4, n4 = Lib.itoa r.kind := ⟨_, rfl⟩
  obtain ⟨td, htd⟩ : ∃ td, td = textP r.data := ⟨_, rfl⟩
  rw [← hn1] at HN1 nl1 HRP
  rw [← hn2] at HN2 nl2 HRP
  rw [← hn3] at HN3 nl3 HRP
  rw [← hn4] at HN4 nl4 HRP
  rw [← htd] at HT tl HRP
  clear hn1 hn2 hn3 hn4 htd
  obtain ⟨h0, eh0⟩ : ∃ h0 : Str, h0 = n1 ++ [32] := ⟨_, rfl⟩
  have Lh0 : h0.length ≤ 80000000000 := by rw [eh0, List.length_append]; (try simp only [List.length_cons, List.length_nil]); omega
  have Ah0 : ∀ w, (Op.stringOp .add ⟨n1.toArray⟩ ⟨#[32]⟩).run Tryd.prog w = .ok (.string ⟨h0.toArray⟩) w := add_run (a := n1) (b := [32]) eh0 (by first | decide | omega) (by first | decide | omega)
  obtain ⟨h1, eh1⟩ : ∃ h1 : Str, h1 = h0 ++ n2 := ⟨_, rfl⟩
  have Lh1 : h1.length ≤ 120000000000 := by rw [eh1, List.length_append]; (try simp only [List.length_cons, List.length_nil]); omega
  have Ah1 : ∀ w, (Op.stringOp .add ⟨h0.toArray⟩ ⟨n2.toArray⟩).run Tryd.prog w = .ok (.string ⟨h1.toArray⟩) w := add_run (a := h0) (b := n2) eh1 (by first | decide | omega) (by first | decide | omega)
  obtain ⟨h2, eh2⟩ : ∃ h2 : Str, h2 = h1 ++ [32] := ⟨_, rfl⟩
  have Lh2 : h2.length ≤ 160000000000 := by rw [eh2, List.length_append]; (try simp only [List.length_cons, List.length_nil]); omega
  have Ah2 : ∀ w, (Op.stringOp .add ⟨h1.toArray⟩ ⟨#[32]⟩).run Tryd.prog w = .ok (.string ⟨h2.toArray⟩) w := add_run (a := h1) (b := [32]) eh2 (by first | decide | omega) (by first | decide | omega)
  obtain ⟨h3, eh3⟩ : ∃ h3 : Str, h3 = h2 ++ n3 := ⟨_, rfl⟩
  have Lh3 : h3.length ≤ 200000000000 := by rw [eh3, List.length_append]; (try simp only [List.length_cons, List.length_nil]); omega
  have Ah3 : ∀ w, (Op.stringOp .add ⟨h2.toArray⟩ ⟨n3.toArray⟩).run Tryd.prog w = .ok (.string ⟨h3.toArray⟩) w := add_run (a := h2) (b := n3) eh3 (by first | decide | omega) (by first | decide | omega)
  obtain ⟨h4, eh4⟩ : ∃ h4 : Str, h4 = h3 ++ [32] := ⟨_, rfl⟩
  have Lh4 : h4.length ≤ 240000000000 := by rw [eh4, List.length_append]; (try simp only [List.length_cons, List.length_nil]); omega
  have Ah4 : ∀ w, (Op.stringOp .add ⟨h3.toArray⟩ ⟨#[32]⟩).run Tryd.prog w = .ok (.string ⟨h4.toArray⟩) w := add_run (a := h3) (b := [32]) eh4 (by first | decide | omega) (by first | decide | omega)
  obtain ⟨h5, eh5⟩ : ∃ h5 : Str, h5 = h4 ++ n4 := ⟨_, rfl⟩
  have Lh5 : h5.length ≤ 280000000000 := by rw [eh5, List.length_append]; (try simp only [List.length_cons, List.length_nil]); omega
  have Ah5 : ∀ w, (Op.stringOp .add ⟨h4.toArray⟩ ⟨n4.toArray⟩).run Tryd.prog w = .ok (.string ⟨h5.toArray⟩) w := add_run (a := h4) (b := n4) eh5 (by first | decide | omega) (by first | decide | omega)
  obtain ⟨h6, eh6⟩ : ∃ h6 : Str, h6 = h5 ++ [32] := ⟨_, rfl⟩
  have Lh6 : h6.length ≤ 320000000000 := by rw [eh6, List.length_append]; (try simp only [List.length_cons, List.length_nil]); omega
  have Ah6 : ∀ w, (Op.stringOp .add ⟨h5.toArray⟩ ⟨#[32]⟩).run Tryd.prog w = .ok (.string ⟨h6.toArray⟩) w := add_run (a := h5) (b := [32]) eh6 (by first | decide | omega) (by first | decide | omega)
  obtain ⟨h7, eh7⟩ : ∃ h7 : Str, h7 = h6 ++ td := ⟨_, rfl⟩
  have Lh7 : h7.length ≤ 360000000000 := by rw [eh7, List.length_append]; (try simp only [List.length_cons, List.length_nil]); omega
  have Ah7 : ∀ w, (Op.stringOp .add ⟨h6.toArray⟩ ⟨td.toArray⟩).run Tryd.prog w = .ok (.string ⟨h7.toArray⟩) w := add_run (a := h6) (b := td) eh7 (by first | decide | omega) (by first | decide | omega)
  rw [← eh0, ← eh1, ← eh2, ← eh3, ← eh4, ← eh5, ← eh6, ← eh7] at HRP
  have HS := Lib.hid (fun (w' : World) (k : Below b.heap.size b w') => (show w'.cell? ⟨w.heap.size, 0, none⟩ = some (.int .i64 r.e) ∧ w'.cell? ⟨w.heap.size, 1, none⟩ = some (.int .i64 r.file) ∧ w'.cell? ⟨w.heap.size, 2, none⟩ = some (.int .i64 r.size) ∧ w'.cell? ⟨w.heap.size, 3, none⟩ = some (.int .i64 r.kind) ∧ w'.cell? ⟨w.heap.size, 4, none⟩ = some (.slice DA r.data.length dc) ∧ (convert 22 9 (.slice DA r.data.length dc)).run Tryd.prog w' = .ok (.string ⟨r.data.toArray⟩) w' from by
    have k2 := Keep.of_below (S := fun _ => False) k
    have q := blk_cells (k2.blk HBX.out id)
    exact ⟨(q 0).trans rfl, (q 1).trans rfl, (q 2).trans rfl, (q 3).trans rfl, (q 4).trans rfl, run_conv_bytes (P := Tryd.prog) w' Tryd.underlying22 Tryd.underlying5 Tryd.underlying9 (HDS.out.below (HB.out.trans (k.mono (by omega))))⟩))
  unfold ResP.cells at hb ⊢
  have HBE := Lib.hid hb
  clear hx hw hds hns hb hbx hbb eh0 eh1 eh2 eh3 eh4 eh5 eh6 eh7
  go_enter Tryd.func6, Tryd.ntmps6
  go_upto_region 1 with fail
  rw [← HBE.out]
  go_region_held3 (fun w' => w'.cell? ⟨w.heap.size, 0, none⟩ = some (.int .i64 r.e) ∧ w'.cell? ⟨w.heap.size, 1, none⟩ = some (.int .i64 r.file) ∧ w'.cell? ⟨w.heap.size, 2, none⟩ = some (.int .i64 r.size) ∧ w'.cell? ⟨w.heap.size, 3, none⟩ = some (.int .i64 r.kind) ∧ w'.cell? ⟨w.heap.size, 4, none⟩ = some (.slice DA r.data.length dc) ∧ (convert 22 9 (.slice DA r.data.length dc)).run Tryd.prog w' = .ok (.string ⟨r.data.toArray⟩) w') (first | exact HS.out _ ((Below.refl _ b).drew) | exact HS.out _ K5.out | exact HS.out _ K4.out | exact HS.out _ K3.out | exact HS.out _ K2.out | exact HS.out _ K1.out)
    (first
      | (go_at_call 15; (with_reducible refine (HN1.out _).mono ?_); rintro e W1 ⟨rfl, hb1⟩; have K1 := Lib.hid (((Below.refl b.heap.size b).drew).trans hb1); clear hb1)
      | (go_at_call 15; (with_reducible refine (HN2.out _).mono ?_); rintro e W2 ⟨rfl, hb2⟩; have K2 := Lib.hid (K1.out.trans (hb2.mono K1.out.size)); clear hb2)
      | (go_at_call 15; (with_reducible refine (HN3.out _).mono ?_); rintro e W3 ⟨rfl, hb3⟩; have K3 := Lib.hid (K2.out.trans (hb3.mono K2.out.size)); clear hb3)
      | (go_at_call 15; (with_reducible refine (HN4.out _).mono ?_); rintro e W4 ⟨rfl, hb4⟩; have K4 := Lib.hid (K3.out.trans (hb4.mono K3.out.size)); clear hb4)
      | (go_at_call 16; (refine (HT.out _).mono ?_); rintro e W5 ⟨rfl, hb5⟩; have K5 := Lib.hid (K4.out.trans (hb5.mono K4.out.size)); clear hb5))
  all_goals
    clear HN1 HN2 HN3 HN4 HT Ah0 Ah1 Ah2 Ah3 Ah4 Ah5 Ah6 Ah7
    have HK := Lib.hid (HB.out.trans (K5.out.mono HB.out.size))
    have HX5 := Lib.hid ((Keep.of_below (S := fun _ => False) K5.out).blk HBX.out id)
    go_upto_region 3 with fail
    go_loopw [4, 3] (fun v4 v3 wr => RlInv r h7 W5 v4 v3 wr) (fun v _ _ => r.names.length - (intOf v).toNat)
    case atStart => exact ⟨0, Nat.zero_le _, rfl, by simp [nmS], Below.refl _ _⟩
    case round =>
      obtain ⟨j, hj, rfl, rfl, hbr⟩ := hrel
      have HBR := Lib.hid hbr
      have hxr := (Keep.of_below (S := fun _ => False) hbr).blk HX5.out id
      have HXR := Lib.hid hxr
      have q := blk_cells hxr
      have c0 : wr.cell? ⟨w.heap.size, 0, none⟩ = some (.int .i64 r.e) := (q 0).trans rfl
      have c1 : wr.cell? ⟨w.heap.size, 1, none⟩ = some (.int .i64 r.file) := (q 1).trans rfl
      have c2 : wr.cell? ⟨w.heap.size, 2, none⟩ = some (.int .i64 r.size) := (q 2).trans rfl
      have c3 : wr.cell? ⟨w.heap.size, 3, none⟩ = some (.int .i64 r.kind) := (q 3).trans rfl
      have c4 : wr.cell? ⟨w.heap.size, 4, none⟩ = some (.slice DA r.data.length dc) := (q 4).trans rfl
      have c5 : wr.cell? ⟨w.heap.size, 5, none⟩ = some (.slice NA r.names.length nc) := (q 5).trans rfl
      have BR := Lib.hid (HK.out.trans (hbr.mono HK.out.size))
      have hcl : (nmS (r.names.take j)).length ≤ 30000000000 := by
        have h1 := nmS_len (r.names.take j)
        have h2 := tot_take r.names j
        omega
      have HRI := Lib.hid (fun (n : Str) (hn : r.names[j]? = some n) => nmS_snoc hn)
      have HEN := Lib.hid (fun (h : j = r.names.length) => (show h7 ++ nmS (r.names.take j) = resP r by rw [h, List.take_length]; exact HRP.out.symm))
      obtain ⟨cur, hcur⟩ : ∃ cur, cur = h7 ++ nmS (r.names.take j) := ⟨_, rfl⟩
      have hcu : cur.length ≤ 900000000000 := by rw [hcur, List.length_append]; omega
      have HCU := Lib.hid hcur
      rw [← hcur] at HEN ⊢
      clear hbr hxr q hcur
      by_cases hlt : j < r.names.length
      · obtain ⟨n, hn⟩ : ∃ n, r.names[j]? = some n := ⟨r.names[j], List.getElem?_eq_getElem hlt⟩
        obtain ⟨gb, go, rfl, _, hcell⟩ := sl_row (HNS.out.below BR.out) (strs_get hn)
        have hmt := mem_tot (List.mem_of_getElem? hn)
        have i0 : (0 : Int) ≤ (j : Int) := by omega
        have i1 : (j : Int) < (r.names.length : Int) := by omega
        have HTN := Lib.hid (ltext_walk n wr (by omega))
        have tln : (textP n).length ≤ 40000000000 := by have := textP_len n; omega
        have HRN := Lib.hid (HRI.out n hn)
        obtain ⟨tn, htn⟩ : ∃ tn, tn = textP n := ⟨_, rfl⟩
        rw [← htn] at HTN tln HRN
        obtain ⟨p, hp⟩ : ∃ p : Str, p = [32] ++ tn := ⟨_, rfl⟩
        have Lp : p.length ≤ 50000000000 := by rw [hp, List.length_append]; (try simp only [List.length_cons, List.length_nil]); omega
        have Ap : ∀ w, (Op.stringOp .add ⟨#[32]⟩ ⟨tn.toArray⟩).run Tryd.prog w = .ok (.string ⟨p.toArray⟩) w := add_run (a := [32]) hp (by decide) (by omega)
        obtain ⟨q2, hq2⟩ : ∃ q2 : Str, q2 = cur ++ p := ⟨_, rfl⟩
        have Aq : ∀ w, (Op.stringOp .add ⟨cur.toArray⟩ ⟨p.toArray⟩).run Tryd.prog w = .ok (.string ⟨q2.toArray⟩) w := add_run hq2 (by omega) (by omega)
        have HQ : Hid (q2 = h7 ++ nmS (r.names.take (j + 1))) := Lib.hid (by rw [hq2, HRN.out, HCU.out, hp, List.append_assoc]; rfl)
        clear hn htn hp hq2
        go_wp2_with fail
        refine HTN.out.mono ?_
        rintro e W6 ⟨rfl, hb6⟩
        have B6 := Lib.hid (HBR.out.trans (hb6.mono HBR.out.size))
        clear hb6
        go_wp2
        go_roundw
        case rel => exact ⟨j + 1, by omega, by go_num, by rw [HQ.out], B6.out⟩
        case measure => simp [intOf]; omega
      · obtain rfl : j = r.names.length := by omega
        have i1 : ¬ ((r.names.length : Nat) : Int) < (r.names.length : Int) := by omega
        rw [HEN.out rfl]
        have HAW := Lib.hid (awake_walk wr (HV.out.below BR.out))
        obtain ⟨fin, hfin⟩ : ∃ fin, fin = resP r := ⟨_, rfl⟩
        have HRW := Lib.hid (fun W (h : Below w.heap.size w W) => result_walk r (.slice DA r.data.length dc) (.slice NA r.names.length nc) W HX.out (HV.out.below h) ⟨DA, dc, rfl, HDS.out.below h⟩ ⟨NA, nc, rfl, HNS.out.below h⟩)
        rw [← hfin] at HRW ⊢
        have hff : (fin == fin) = true := by simp
        unfold ResP.cells at HRW
        clear hcl hcu hfin HEN HRI
        go_wp2_with fail
        refine HAW.out.mono ?_
        rintro e W6 ⟨rfl, hb6⟩
        have B6 := Lib.hid (BR.out.trans (hb6.mono BR.out.size))
        have q := blk_cells ((Keep.of_below (S := fun _ => False) hb6).blk HXR.out id)
        have d0 : W6.cell? ⟨w.heap.size, 0, none⟩ = some (.int .i64 r.e) := (q 0).trans rfl
        have d1 : W6.cell? ⟨w.heap.size, 1, none⟩ = some (.int .i64 r.file) := (q 1).trans rfl
        have d2 : W6.cell? ⟨w.heap.size, 2, none⟩ = some (.int .i64 r.size) := (q 2).trans rfl
        have d3 : W6.cell? ⟨w.heap.size, 3, none⟩ = some (.int .i64 r.kind) := (q 3).trans rfl
        have d4 : W6.cell? ⟨w.heap.size, 4, none⟩ = some (.slice DA r.data.length dc) := (q 4).trans rfl
        have d5 : W6.cell? ⟨w.heap.size, 5, none⟩ = some (.slice NA r.names.length nc) := (q 5).trans rfl
        have HR := Lib.hid (HRW.out W6 B6.out)
        clear hb6 q c0 c1 c2 c3 c4 c5
        go_wp2_with fail
        refine HR.out.mono ?_
        rintro e W7 ⟨rfl, hb7⟩
        have B7 := Lib.hid (B6.out.trans (hb7.mono B6.out.size))
        clear hb7
        go_wp2
        go_ret
        exact ⟨rfl, B7.out⟩
end Go.Proofs.YtpdnfcgdcndhpaaDoor
