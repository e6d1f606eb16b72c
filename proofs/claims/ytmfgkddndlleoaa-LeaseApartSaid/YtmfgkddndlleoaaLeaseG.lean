/- Grant. -/
import Derived.Test.YtmfgkddndlleoaaLeaseS2
set_option linter.unusedSimpArgs false
set_option linter.unusedVariables false
namespace Go.Proofs.Ytmfgkddndlleoaa
open Go.RowKit

def liveQ (now : Int) (Q : List LE) : List LE := Q.filter fun x => !pastP x.x now 12
def grantP (n g s m now : Int) (L Q : List LE) : List Int × Bool × List LE × List LE :=
  if rightP s m = false then ([], false, L, Q)
  else if (seatsP n g s m now L).length > 0 ∨ aheadP n g s m (liveQ now Q) = true then (sortP (seatsP n g s m now L), false, L.filter fun x => !overP n g s m now x, waitP ⟨n, g, s, m, clockP now⟩ (liveQ now Q))
  else ([], true, putP ⟨n, g, s, m, clockP now⟩ (L.filter fun x => !overP n g s m now x), (liveQ now Q).filter fun x => !mineP n g s x)
/-- How Grant ends, where r is what it does. -/
def GrantEnd (t : Nat) (born : Int) (r : List Int × Bool × List LE × List LE) (A B : Option Addr) (w : World) (e : Ending) (w' : World) : Prop :=
  ∃ O oc A' B' c' d', e = .returned (.tuple #[.slice O r.1.length oc, .bool r.2.1]) ∧ w'.ownsRow 0 3 1 (.slice O r.1.length oc) r.1.length (ints r.1) ∧ Tab w' t born r.2.2.1 r.2.2.2 A' B' c' d' ∧ Keep (tabOwn t A B) w w' ∧ (∀ k, tabOwn t A' B' k → tabOwn t A B k ∨ w.heap.size ≤ k) ∧ ∀ k, O.map (·.block) = some k → w.heap.size ≤ k
theorem grant_none {t : Nat} {born n g s m now : Int} {L Q : List LE} {A B : Option Addr} {c d : Nat} {w w' : World} (h : Tab w t born L Q A B c d) (hb : Below w.heap.size w w') : GrantEnd t born ([], false, L, Q) A B w (.returned (.tuple #[.slice none 0 0, .bool false])) w' :=
  ⟨none, 0, A, B, c, d, rfl, own_nil' _ _ _ _, h.keep (Keep.of_below (S := fun _ => False) hb) (fun _ _ h => h), Keep.of_below hb, fun k h => .inl h, by simp⟩
theorem grant_wait {t : Nat} {born : Int} {L Q L1 Q1 : List LE} {A B : Option Addr} {c d : Nat} {w w3 w4 w5 : World} {o : List Int} {O : Option Addr} {oc n : Nat} (h : Tab w t born L Q A B c d) (hn : o.length = n) (h3 : w3.ownsRow 0 3 1 (.slice O n oc) n (ints o)) (hO : ∀ k, O.map (·.block) = some k → w.heap.size ≤ k) (hk : Keep (tabOwn t A B) w w3) (h4 : Below w3.heap.size w3 w4)
    (h5 : TabEnd t born L1 Q1 A B w4 (.tuple #[]) (.returned (.tuple #[])) w5) : GrantEnd t born (o, false, L1, Q1) A B w (.returned (.tuple #[.slice O n oc, .bool false])) w5 := by
  subst hn
  obtain ⟨_, A', B', c', d', hT, hk5, h5⟩ := h5
  have hlt := h.lt
  have k35 : Keep (tabOwn t A B) w3 w5 := (Keep.of_below (S := tabOwn t A B) h4).trans hk5 (fun _ _ h => h)
  refine ⟨O, oc, A', B', c', d', rfl, own_keep h3 k35 (fun k e hT => ?_), hT, hk.trans k35 (fun _ _ h => h), fun k hk2 => ?_, hO⟩
  · rw [ownBlock_slice] at e
    have := hO k e
    have := hlt k hT
    omega
  · rcases h5 k hk2 with h | h
    · exact .inl h
    · exact .inr (Nat.le_trans hk.size (Nat.le_trans h4.size h))
theorem grant_ok {t : Nat} {born : Int} {L Q L1 Q1 : List LE} {A B : Option Addr} {c d : Nat} {w w4 w5 : World} (h : Tab w t born L Q A B c d) (hk : Keep (tabOwn t A B) w w4) {e : Ending}
    (h5 : SetEnd t born L1 Q1 A B w4 e w5) : (∃ b, e = .returned (.bool b)) ∧ GrantEnd t born ([], true, L1, Q1) A B w (.returned (.tuple #[.slice none 0 0, .bool true])) w5 := by
  obtain ⟨b, he, A', B', c', d', hT, hk5, h5⟩ := h5
  refine ⟨⟨b, he⟩, none, 0, A', B', c', d', rfl, own_nil' _ _ _ _, hT, hk.trans hk5 (fun _ _ h => h), fun k hk2 => ?_, by simp⟩
  rcases h5 k hk2 with h | h
  · exact .inl h
  · exact .inr (Nat.le_trans hk.size h)
theorem grant_nil (n g s m now : Int) (w : World) :
    Calls Try.prog 10 #[.pointer none, .agg #[.int .i64 n, .int .i64 g], .int .i64 s, .int .i64 m, .int .i64 now] w fun e w' => e = .returned (.tuple #[.slice none 0 0, .bool false]) ∧ Below w.heap.size w w' := by
  obtain ⟨x1, x2, x3, x4, x5⟩ := two_box w n g now 34 3
  go_enter Try.func10, Try.ntmps10
  go_wp2
  go_ret2
  exact ⟨rfl, x1⟩
set_option maxHeartbeats 2000000 in
theorem grant_walk (t : Nat) (born n g s m now : Int) (L Q : List LE) (A B : Option Addr) (c d : Nat) (w : World) (h : Tab w t born L Q A B c d) (hf : L.length + Q.length < 1000000) :
    Calls Try.prog 10 #[.pointer (some ⟨t, 0, none⟩), .agg #[.int .i64 n, .int .i64 g], .int .i64 s, .int .i64 m, .int .i64 now] w (GrantEnd t born (grantP n g s m now L Q) A B w) := by
  have hc := blk_cells h.blk
  have ht := blk_lt h.blk
  have HRT := Lib.hid (right_walk s m)
  cases hr : rightP s m with
  | false =>
    have hg : grantP n g s m now L Q = ([], false, L, Q) := by simp [grantP, hr]
    rw [hg]
    rw [hr] at HRT
    have HN := Lib.hid (fun w' hb => grant_none (n := n) (g := g) (s := s) (m := m) (now := now) (w' := w') h hb)
    obtain ⟨x1, x2, x3, x4, x5⟩ := two_box w n g now 34 3
    clear h hr hg
    go_enter Try.func10, Try.ntmps10
    go_wp2_with fail
    refine (HRT.out _).mono ?_
    rintro e w1 ⟨rfl, rfl⟩
    go_wp2
    go_ret2
    exact HN.out _ x1
  | true =>
    rw [hr] at HRT
    have hdq := fun (w0 : World) (hb : Below w.heap.size w w0) (hs : w.heap.size + 2 ≤ w0.heap.size) (e2 : w0.cell? ⟨w.heap.size + 1, 0, none⟩ = some (.int .i64 now)) =>
      del_queue h hb 31 #[.pointer (some ⟨w.heap.size + 1, 0, none⟩)] (fun x => pastP x.x now 12) (enters_of Try.func31 (by kernel_rfl) rfl)
        (fun x hx W hk => grant1_walk x (w.heap.size + 1) now W (h.cq x hx).1 (h.cq x hx).2 (hk.cell e2 (fun e => by have := h.lt _ (.inr (.inr e)); simp at this; omega)))
    have hnb : ∀ k, w.heap.size ≤ k → ¬ tabOwn t A B k := fun k hk e => by have := h.lt k e; omega
    have HX := Lib.hid hdq
    have HNB := Lib.hid hnb
    have HT := Lib.hid h
    have hfq : (liveQ now Q).length ≤ Q.length := List.length_filter_le _ _
    have hfl : (L.filter fun x => !overP n g s m now x).length ≤ L.length := List.length_filter_le _ _
    have hg : grantP n g s m now L Q = if (seatsP n g s m now L).length > 0 ∨ aheadP n g s m (liveQ now Q) = true then (sortP (seatsP n g s m now L), false, L.filter fun x => !overP n g s m now x, waitP ⟨n, g, s, m, clockP now⟩ (liveQ now Q))
      else ([], true, putP ⟨n, g, s, m, clockP now⟩ (L.filter fun x => !overP n g s m now x), (liveQ now Q).filter fun x => !mineP n g s x) := by rw [grantP, if_neg (by simp [hr])]
    have HG := Lib.hid hg
    clear hdq hnb h hr hg
    go_enter Try.func10, Try.ntmps10
    go_wp2_with fail
    refine (HRT.out _).mono ?_
    rintro e w1 ⟨rfl, rfl⟩
    go_wp2_with fail
    obtain ⟨x1, x2, x3, x4, x5⟩ := two_box w n g now 34 3
    refine (HX.out _ x1 x2 x5).mono ?_
    rintro e w1 ⟨rfl, hb1, hk1, hT2, hK2⟩
    have q0 : ∀ k, w.heap.size ≤ k → ¬ (B.map (·.block) = some k) := fun k hk e => HNB.out k hk (.inr (.inr e))
    have y3 := hk1.cell x3 (q0 _ (Nat.le_refl _))
    have y4 := hk1.cell x4 (q0 _ (Nat.le_refl _))
    have y5 := hk1.cell x5 (q0 _ (Nat.le_succ _))
    have ct := blk_cells hb1
    have ft := blk_frees hb1
    have lt1 := blk_lt hb1
    have kq : Keep (fun k => k = t) w1 (w1.setCell ⟨t, 2, none⟩ (.slice B (Q.filter fun x => !pastP x.x now 12).length d)) := (Keep.refl (fun k => k = t) w1).setCell (fun _ => rfl) _
    have c0 := kq.cell y3 (by show ¬ w.heap.size = t; omega)
    have c1 := kq.cell y4 (by show ¬ w.heap.size = t; omega)
    have c2 := kq.cell y5 (by show ¬ w.heap.size + 1 = t; omega)
    clear x1 x2 x3 x4 x5 hb1 hk1 hc y3 y4 y5 kq q0
    obtain ⟨W2, hW2⟩ : ∃ W2, W2 = w1.setCell ⟨t, 2, none⟩ (.slice B (Q.filter fun x => !pastP x.x now 12).length d) := ⟨_, rfl⟩
    have HD0 := Lib.hid c0
    have HD1 := Lib.hid c1
    have HD2 := Lib.hid c2
    rw [← hW2] at hT2 hK2 HD0 HD1 HD2
    have HW2 := Lib.hid hW2
    have HT2 := Lib.hid hT2
    have HK2 := Lib.hid hK2
    clear hT2 hK2 hW2
    go_wp2_with fail
    rw [← HW2.out]
    refine (blocks_walk t born n g s m now L _ A B c d W2 HT2.out).mono ?_
    rintro e w3 ⟨O, oc, rfl, h3, hO, hT3, hk3⟩
    have hk3' := HK2.out.trans hk3 (fun _ _ h => h)
    have d0 := hk3.cell HD0.out (HNB.out _ (Nat.le_refl _))
    have d1 := hk3.cell HD1.out (HNB.out _ (Nat.le_refl _))
    have d2 := hk3.cell HD2.out (HNB.out _ (Nat.le_succ _))
    have hO' : ∀ k, O.map (·.block) = some k → w.heap.size ≤ k := fun k e => Nat.le_trans HK2.out.size (hO k e)
    have H3 := Lib.hid h3
    have HO := Lib.hid hO'
    have HT3 := Lib.hid hT3
    have HK3 := Lib.hid hk3'
    have lt3 := blk_lt hT3.blk
    clear h3 hO hT3 hk3 hk3' hO' ct ft lt1 c0 c1 c2 HD0 HD1 HD2
    by_cases h0 : 0 < (seatsP n g s m now L).length
    · have h0' : (0 : Int) < ((seatsP n g s m now L).length : Int) := by omega
      go_wp2_with fail
      refine (wait_walk t born n g s m now _ _ A B c d w3 HT3.out (by have := hfq; unfold liveQ at this; omega)).mono ?_
      rintro e w5 hend
      have he := hend.1
      subst he
      have HF := Lib.hid (grant_wait HT.out (sortP_length _) H3.out HO.out HK3.out (Below.refl _ _) hend)
      clear hend
      go_wp2
      go_ret2
      rw [HG.out, if_pos (.inl h0)]
      exact HF.out
    · have h0' : ((seatsP n g s m now L).length : Int) = 0 := by omega
      have h0n : (seatsP n g s m now L).length = 0 := by omega
      have HAW := Lib.hid (ahead_walk t born n g s m _ (liveQ now Q) A B c d w3 HT3.out)
      cases ha : aheadP n g s m (liveQ now Q) with
      | true =>
        rw [ha] at HAW
        have HA := Lib.hid ha
        clear ha
        go_wp2_with fail
        refine HAW.out.mono ?_
        rintro e w4 ⟨rfl, hb4⟩
        have f0 := (Keep.of_below (S := fun _ => False) hb4).cell d0 id
        have f1 := (Keep.of_below (S := fun _ => False) hb4).cell d1 id
        have f2 := (Keep.of_below (S := fun _ => False) hb4).cell d2 id
        have HT4 := Lib.hid (HT3.out.keep (Keep.of_below (S := fun _ => False) hb4) (fun _ _ h => h))
        have HB4 := Lib.hid hb4
        clear hb4 d0 d1 d2
        go_wp2_with fail
        refine (wait_walk t born n g s m now _ _ A B c d w4 HT4.out (by have := hfq; unfold liveQ at this; omega)).mono ?_
        rintro e w5 hend
        have he := hend.1
        subst he
        have hfin := grant_wait HT.out (sortP_length _) H3.out HO.out HK3.out HB4.out hend
        rw [h0n] at hfin
        have HF := Lib.hid hfin
        clear hfin
        clear hend
        go_wp2
        go_ret2
        rw [HG.out, if_pos (.inr HA.out)]
        exact HF.out
      | false =>
        rw [ha] at HAW
        have HA := Lib.hid ha
        clear ha
        go_wp2_with fail
        refine HAW.out.mono ?_
        rintro e w4 ⟨rfl, hb4⟩
        have f0 := (Keep.of_below (S := fun _ => False) hb4).cell d0 id
        have f1 := (Keep.of_below (S := fun _ => False) hb4).cell d1 id
        have f2 := (Keep.of_below (S := fun _ => False) hb4).cell d2 id
        have HT4 := Lib.hid (HT3.out.keep (Keep.of_below (S := fun _ => False) hb4) (fun _ _ h => h))
        have HK4 := Lib.hid (HK3.out.trans (Keep.of_below (S := tabOwn t A B) hb4) (fun _ _ h => h))
        clear hb4 d0 d1 d2
        go_wp2_with fail
        refine (set_walk t born n g s m now _ _ A B c d w4 HT4.out (by have := hfq; unfold liveQ at this; omega)).mono ?_
        rintro e w5 hend
        obtain ⟨⟨b, rfl⟩, hfin⟩ := grant_ok HT.out HK4.out hend
        have HF := Lib.hid hfin
        clear hend hfin
        go_wp2
        go_ret2
        rw [HG.out, if_neg (by rintro (h | h); exact h0 h; rw [HA.out] at h; cases h)]
        exact HF.out
end Go.Proofs.Ytmfgkddndlleoaa
