/- Has an act a kind, and its call one? -/
import Derived.Test.YtpdnfcgdcndhpaaDoorActE
set_option linter.unusedSimpArgs false
set_option linter.unusedVariables false
namespace Go.Proofs.YtpdnfcgdcndhpaaDoor
open Go.RowKit

attribute [local go_sem ↓] Go.wp_at_zero Go.wp_at_succ
def knownP (x : ActP) : Bool := hasK actT x.kind && (hasK callT x.call.kind || x.kind != 1)
def OkAt (p : Bool) (b : World) (v : Value) (wc : World) : Prop := v = .bool p ∧ Below b.heap.size b wc
set_option maxRecDepth 100000 in
set_option maxHeartbeats 4000000 in
theorem known_walk (x : ActP) (dv kv : Value) (w : World) (hx : I64 x.kind) (hx2 : I64 x.call.kind) :
    Calls Tryd.prog 20 #[.agg (x.cells dv kv)] w fun e w' => e = .returned (.bool (knownP x)) ∧ Below w.heap.size w w' := by
  obtain ⟨b, hb⟩ : ∃ b, b = w.alloc (.cells (x.cells dv kv) 27) := ⟨_, rfl⟩
  have hbx : b.heap[w.heap.size]? = some (.cells (x.cells dv kv) 27 (0, 0)) := by rw [hb]; exact blk_new w _
  have hbb : Below w.heap.size w b := by rw [hb]; exact (Below.refl _ w).alloc (Nat.le_refl _) _
  have HB := Lib.hid hbb
  have HBX := Lib.hid hbx
  have zb := blk_lt hbx
  have HK1 := Lib.hid hx.wf
  have HK2 := Lib.hid hx2.wf
  have ck : b.cell? ⟨w.heap.size, 0, none⟩ = some (.int .i64 x.kind) := (blk_cells hbx 0).trans rfl
  have HP := Lib.hid (show knownP x = (hasK actT x.kind && (hasK callT x.call.kind || x.kind != 1)) from rfl)
  unfold ActP.cells at hb ⊢
  have HBE := Lib.hid hb
  obtain ⟨p, hp⟩ : ∃ p, p = hasK actT x.kind := ⟨_, rfl⟩
  obtain ⟨q, hq⟩ : ∃ q, q = hasK callT x.call.kind := ⟨_, rfl⟩
  rw [← hp, ← hq] at HP
  have HPP := Lib.hid hp
  have HQQ := Lib.hid hq
  clear hb hbx hbb hx hx2 hp hq
  go_enter Tryd.func20, Tryd.ntmps20
  go_upto_region 1 with fail
  rw [← HBE.out]
  go_cut [4] (fun v wx => OkAt p b v wx)
  case first =>
    have ck2 : (b.alloc (.cells #[.string ⟨#[]⟩, .string ⟨#[]⟩] 74)).cell? ⟨w.heap.size, 0, none⟩ = some (.int .i64 x.kind) := ((Keep.refl (fun _ => False) b).alloc _).cell ck id
    go_region_law (first | (go_simp; go_at_call 34; (with_reducible refine (acts_walk (b.alloc (.cells #[.string ⟨#[]⟩, .string ⟨#[]⟩] 74)).drew).mono ?_); rintro e W1 ⟨rfl, hm1, hb1⟩; obtain ⟨_, hl1, hz, hbw⟩ := look_way1 HK1.out hm1 hb1; rw [← HPP.out] at hl1; have ck3 := (Keep.of_below (S := fun _ => False) hbw).cell ck id; have cz0 : W1.cell? ⟨b.heap.size, 0, none⟩ = some (.string ⟨#[]⟩) := (blk_cells hz 0).trans rfl; have cz1 : W1.cell? ⟨b.heap.size, 1, none⟩ = some (.string ⟨#[]⟩) := (blk_cells hz 1).trans rfl; have fz := blk_frees hz; have WAYB := Lib.hid hbw; clear hm1 hb1 hz hbw) | (go_simp; go_at_call 34; refine (acts_walk b.drew).mono ?_; rintro e W1 ⟨rfl, hm1, hb1⟩; obtain ⟨hl, hbw⟩ := look_way2 HK1.out hm1 hb1; rw [← HPP.out] at hl; have ck3 := (Keep.of_below (S := fun _ => False) hbw).cell ck id; have ck4 : (W1.alloc (.cells #[.string ⟨#[]⟩, .string ⟨#[]⟩] 74)).cell? ⟨w.heap.size, 0, none⟩ = some (.int .i64 x.kind) := ((Keep.refl (fun _ => False) W1).alloc _).cell ck3 id; have hl1 := (hl W1 (Below.refl _ _)).2; have hl2 := (hl (W1.alloc (.cells #[.string ⟨#[]⟩, .string ⟨#[]⟩] 74)) ((Below.refl _ _).alloc (Nat.le_refl _) _)).2; have WAYB := Lib.hid hbw; clear hm1 hb1 hl hbw))
    all_goals
      go_wp2_with fail
      go_meet
      case rel => first | exact ⟨rfl, WAYB.out.alloc WAYB.out.size _⟩ | exact ⟨rfl, (WAYB.out.setCell (Nat.le_refl _) _).setCell (Nat.le_refl _) _⟩
  case rest =>
    obtain ⟨rfl, hbw⟩ := hcut
    have hcx := (Keep.of_below (S := fun _ => False) hbw).blk HBX.out id
    have HBW := Lib.hid (HB.out.trans (hbw.mono (by omega)))
    have HCX := Lib.hid hcx
    have ck : wc.cell? ⟨w.heap.size, 3, none⟩ = some (.int .i64 x.call.kind) := (blk_cells hcx 3).trans rfl
    clear hbw hcx
    obtain ⟨b, rfl⟩ : ∃ b : World, b = wc := ⟨_, rfl⟩
    go_wp2_with fail
    go_cut [6] (fun v wx => OkAt q b v wx)
    case first =>
      have ck2 : (b.alloc (.cells #[.string ⟨#[]⟩, .string ⟨#[]⟩] 74)).cell? ⟨w.heap.size, 3, none⟩ = some (.int .i64 x.call.kind) := ((Keep.refl (fun _ => False) b).alloc _).cell ck id
      go_region_law (first | (go_simp; go_at_call 36; (with_reducible refine (calls_walk (b.alloc (.cells #[.string ⟨#[]⟩, .string ⟨#[]⟩] 74)).drew).mono ?_); rintro e W1 ⟨rfl, hm1, hb1⟩; obtain ⟨_, hl1, hz, hbw⟩ := look_way1 HK2.out hm1 hb1; rw [← HQQ.out] at hl1; have ck3 := (Keep.of_below (S := fun _ => False) hbw).cell ck id; have cz0 : W1.cell? ⟨b.heap.size, 0, none⟩ = some (.string ⟨#[]⟩) := (blk_cells hz 0).trans rfl; have cz1 : W1.cell? ⟨b.heap.size, 1, none⟩ = some (.string ⟨#[]⟩) := (blk_cells hz 1).trans rfl; have fz := blk_frees hz; have WAYB := Lib.hid hbw; clear hm1 hb1 hz hbw) | (go_simp; go_at_call 36; refine (calls_walk b.drew).mono ?_; rintro e W1 ⟨rfl, hm1, hb1⟩; obtain ⟨hl, hbw⟩ := look_way2 HK2.out hm1 hb1; rw [← HQQ.out] at hl; have ck3 := (Keep.of_below (S := fun _ => False) hbw).cell ck id; have ck4 : (W1.alloc (.cells #[.string ⟨#[]⟩, .string ⟨#[]⟩] 74)).cell? ⟨w.heap.size, 3, none⟩ = some (.int .i64 x.call.kind) := ((Keep.refl (fun _ => False) W1).alloc _).cell ck3 id; have hl1 := (hl W1 (Below.refl _ _)).2; have hl2 := (hl (W1.alloc (.cells #[.string ⟨#[]⟩, .string ⟨#[]⟩] 74)) ((Below.refl _ _).alloc (Nat.le_refl _) _)).2; have WAYB := Lib.hid hbw; clear hm1 hb1 hl hbw))
      all_goals
        go_wp2_with fail
        go_meet
        case rel => first | exact ⟨rfl, WAYB.out.alloc WAYB.out.size _⟩ | exact ⟨rfl, (WAYB.out.setCell (Nat.le_refl _) _).setCell (Nat.le_refl _) _⟩
    case rest =>
      obtain ⟨rfl, hbw⟩ := hcut
      have hcx := (Keep.of_below (S := fun _ => False) hbw).blk HCX.out id
      have HBV := Lib.hid (HBW.out.trans (hbw.mono HBW.out.size))
      have ck5 : wc.cell? ⟨w.heap.size, 0, none⟩ = some (.int .i64 x.kind) := (blk_cells hcx 0).trans rfl
      clear hbw hcx
      cases p <;> cases q
      all_goals
        go_wp2
        go_ret
        exact ⟨by rw [HP.out]; rfl, HBV.out⟩
end Go.Proofs.YtpdnfcgdcndhpaaDoor
