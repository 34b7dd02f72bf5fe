/- memfaultref40.Source: by which operation a word was written, by the reference. -/
import Derived.Test.YthpoanlmaafanaaPgPl
import Derived.Deep.RegionLaw
namespace Go.Proofs.Ythpoanlmaafanaa
set_option linter.unusedSimpArgs false
set_option linter.unusedVariables false
open Go.RowKit
set_option maxRecDepth 100000
attribute [local irreducible] wpX wpF Calls

theorem HS.at' {D : Nat → Prop} {W w : World} {L : List Item} (h : HS D W L w) (A : Item) (hA : A ∈ L) : A.ok w := h.ok A hA
set_option maxHeartbeats 16000000 in
theorem rsource_any {l : List Ox} (hx : l.length ≤ 1000000) (i : Int) {sa : Option Addr} {c : Nat} (hc : l.length ≤ c) (w : World) (hl : Lies w w.heap.size sa 6 l.length (fun j => oxC l[j]!)) :
    Calls Try.prog 13 #[.slice sa l.length c, .int .i64 i] w (Gives (.tuple #[.int .i64 (sourceP l i).1, .bool (sourceP l i).2]) w) := by
  obtain ⟨R, hR⟩ : ∃ R, R = sourceP l i := ⟨_, rfl⟩
  rw [← hR]
  unfold sourceP at hR
  by_cases h0 : i < 0
  · rw [if_pos (.inl h0)] at hR
    subst hR
    clear hl
    go_enter Try.func13, Try.ntmps13
    have H := HS.start NoD w
    go_wp2_with fail
    go_ret2
    exact ⟨rfl, H.done⟩
  by_cases h1 : (l.length : Int) ≤ i
  · rw [if_pos (.inr h1)] at hR
    subst hR
    clear hl
    go_enter Try.func13, Try.ntmps13
    have H := HS.start NoD w
    go_wp2_with fail
    go_ret2
    exact ⟨rfl, H.done⟩
  rw [if_neg (by omega)] at hR
  obtain ⟨m, rfl⟩ : ∃ m : Nat, i = m := ⟨i.toNat, by omega⟩
  have hm : m < l.length := by omega
  rw [show ((m : Nat) : Int).toNat = m from rfl] at hR
  clear h0 h1
  obtain ⟨b, o, rfl, hb, c0, c1, c2, c3, c4, c5⟩ := oxCells hl hm
  have HL := Lib.hid hl
  clear hl
  obtain ⟨x, hxm⟩ : ∃ x, x = l[m]! := ⟨_, rfl⟩
  rw [← hxm] at hR c0 c1 c2 c3 c4 c5
  have HME := Lib.hid (fun w => rmeans_any x w)
  have HMK := Lib.hid (fun h => means_k (x := x) h)
  have hmi : (m : Int) < l.length := by omega
  have hmc : (m : Int) < c := by omega
  have hmn : ¬ l.length ≤ m := by omega
  have hm0 : ¬ (m : Int) < 0 := by omega
  have hmj : ¬ (l.length : Int) ≤ m := by omega
  clear hxm
  generalize hmb : meansO x = mb at HME hR
  have HMB := Lib.hid hmb
  clear hmb
  obtain ⟨xk, xp, xg, xw, xo, xsa, xn, xc⟩ := x
  have HVO := Lib.hid (show vOx ⟨xk, xp, xg, xw, xo, xsa, xn, xc⟩ = .agg #[.int .i64 xk, .int .i64 xp, .int .i64 xg, .int .i64 xw, .int .i64 xo, .slice xsa xn xc] from rfl)
  rw [HVO.out] at HME
  clear HVO
  dsimp only at hR c0 c1 c2 c3 c4 c5 HMK
  have hnb : (b = w.heap.size) = False := eq_false (by omega)
  have hnb' : (w.heap.size = b) = False := eq_false (by omega)
  by_cases k1 : xk = 1
  case neg =>
    rw [if_pos (.inl k1)] at hR
    subst hR
    have k1b : (xk != 1) = true := bne_iff_ne.2 k1
    go_enter Try.func13, Try.ntmps13
    have H := HS.start NoD w
    go_wp2_with fail
    go_ret2
    exact ⟨rfl, H.done⟩
  subst k1
  cases mb with
  | false =>
    rw [if_pos (.inr rfl)] at hR
    subst hR
    go_enter Try.func13, Try.ntmps13
    have H := HS.start NoD w
    go_wp2_with fail
    refine (HME.out _).mono ?_
    rintro _ w1 ⟨rfl, hb⟩
    replace H := H.below hb
    clear hb
    try clear C
    try simp only [World.size_alloc, List.nil_append, List.cons_append, List.append_assoc] at H
    have C := H.cells
    try simp only [cellsOf, cellsM, apartOf, apartM, and_true] at C
    dsimp only
    go_wp2_with fail
    go_ret2
    exact ⟨rfl, H.done⟩
  | true =>
    rw [if_neg (by simp)] at hR
    have HR := Lib.hid hR
    have HBB := Lib.hid hb
    have HC1 := Lib.hid c1
    have HC2 := Lib.hid c2
    have HC3 := Lib.hid c3
    clear hR
    have HPL := Lib.hid (show ∀ wx, Lies wx wx.heap.size (some ⟨b, o, none⟩) 6 l.length (fun i => oxC l[i]!) → Calls Try.prog 25 #[.slice (some ⟨b, o, none⟩) m c] wx (GivesMap (runF 0 (l.take m) noF) wx) from fun wx hx => by
      have e : (l.take m).length = m := by rw [List.length_take]; omega
      have h9 := Lies.take (i := m) hx (Nat.le_of_lt hm)
      have := rplay_any (l := l.take m) (by omega) (sa := some ⟨b, o, none⟩) c wx h9
      rw [e] at this
      exact this)
    have hmcl : (m : Int) ≤ c := by omega
    have HT : Try.prog.underlying 57 = some (.map 40 53) := by kernel_rfl
    have HE : ∀ w, (zeroValue 53).run Try.prog w = .ok (.agg #[.int .i64 0, .int .i64 0, .int .i64 0, .int .i64 0]) w := fun w => by rfl
    have HTA := Lib.hid HT
    have HEA := Lib.hid HE
    clear HT HE
    go_enter Try.func13, Try.ntmps13
    have H := HS.start NoD w
    go_wp2_with fail
    refine (HME.out _).mono ?_
    rintro _ w1 ⟨rfl, hb⟩
    replace H := H.below hb
    clear hb
    try clear C
    try simp only [World.size_alloc, List.nil_append, List.cons_append, List.append_assoc] at H
    have C := H.cells
    try simp only [cellsOf, cellsM, apartOf, apartM, and_true] at C
    dsimp only
    clear HME c0 c3 c4 c5
    go_upto_region 3 with fail
    have c1 := (H.was (p := ⟨b, o + m * 6 + 1, none⟩) HBB.out id).trans HC1.out
    have c2 := (H.was (p := ⟨b, o + m * 6 + 2, none⟩) HBB.out id).trans HC2.out
    have hbl : b < (w1).heap.size := Nat.lt_of_lt_of_le HBB.out H.size
    have q1 : (b = (w1).heap.size) = False := eq_false (by omega)
    have q2 : ((w1).heap.size = b) = False := eq_false (by omega)
    have HZ1 := Lib.hid (fun (wd : World) (bM : Nat) (es : Array MapEntry) (ck : Nat) (M : List ((Int × Int) × Value)) (hb : wd.heap[bM]? = some (.map es ck)) (hM : MapG kU es ck M) => run_lookup_G HTA.out keyU HEA.out hb hM (xp, xg))
    go_cut [6, 7] from 32 to 50 (fun y z wx => ∃ (bF : Nat) (a0 a1 a2 a3 : Int) (ok : Bool), y = .pointer (some ⟨bF, 0, none⟩) ∧ z = .bool ok ∧ Hid (runF 0 (l.take m) noF (xp, xg) = if ok = true then some ⟨a0, a1, a2, a3⟩ else none) ∧ HS NoD w [.blk bF #[.int .i64 a0, .int .i64 a1, .int .i64 a2, .int .i64 a3] 53] wx)
    case first =>
      go_region_law (first
        | (go_simp; go_at_call 25
           first
             | (refine (HPL.out _ (H.drew.liesUp HL.out)).mono ?_; rintro _ wd ⟨bM, es, ck, M, rfl, hM, hG, K⟩; have HA := H.drew.join K (fun A hA => by simp only [List.mem_cons, List.mem_nil_iff, or_false] at hA; rcases hA with rfl; rfl); have HX := HA.alloc (cs := #[.int .i64 0, .int .i64 0, .int .i64 0, .int .i64 0]) (t := 53))
             | (refine (HPL.out _ (H.drew.alloc.liesUp HL.out)).mono ?_; rintro _ wd ⟨bM, es, ck, M, rfl, hM, hG, K⟩; have HA := H.drew.alloc.join K (fun A hA => by simp only [List.mem_cons, List.mem_nil_iff, or_false] at hA; rcases hA with rfl; rfl); have HX := HA)
           simp only [List.nil_append, List.cons_append, World.size_drew] at HX HA
           have e1 := (HA.was (p := ⟨b, o + m * 6 + 1, none⟩) HBB.out id).trans HC1.out
           have e2 := (HA.was (p := ⟨b, o + m * 6 + 2, none⟩) HBB.out id).trans HC2.out
           have hl2 : b < wd.heap.size := Nat.lt_of_lt_of_le HBB.out HA.size
           have q3 : (b = wd.heap.size) = False := eq_false (by omega)
           have q4 : (wd.heap.size = b) = False := eq_false (by omega)
           obtain ⟨u0, u1, u2, u3, ok, hqv, hqo, hqf⟩ : ∃ q0 q1 q2 q3 ok, (getG (xp, xg) M).getD (.agg #[.int .i64 0, .int .i64 0, .int .i64 0, .int .i64 0]) = .agg #[.int .i64 q0, .int .i64 q1, .int .i64 q2, .int .i64 q3] ∧ (getG (xp, xg) M).isSome = ok ∧ runF 0 (l.take m) noF (xp, xg) = if ok = true then some ⟨q0, q1, q2, q3⟩ else none := by
             have h1 := hG (xp, xg)
             cases hq : runF 0 (l.take m) noF (xp, xg) with
             | none => rw [hq] at h1; rw [h1]; exact ⟨0, 0, 0, 0, false, rfl, rfl, rfl⟩
             | some q => rw [hq] at h1; rw [h1]; obtain ⟨q0, q1, q2, q3⟩ := q; exact ⟨q0, q1, q2, q3, true, rfl, rfl, rfl⟩
           have HQF := Lib.hid hqf
           have l1 := HZ1.out wd bM es ck M (HA.at' (.obj bM (.map es ck)) (by simp)) hM
           have l2 := HZ1.out _ bM es ck M (HX.at' (.obj bM (.map es ck)) (by simp)) hM
           rw [hqv, hqo] at l1 l2
           simp only [kU] at l1 l2
           have CX := HX.cells
           simp only [cellsOf, apartOf, and_true, true_and] at CX
           clear hqv hqo hqf hG hM K))
      all_goals go_wp2_with fail
      all_goals go_meet
      all_goals refine ⟨_, u0, u1, u2, u3, ok, rfl, rfl, HQF, ?_⟩
      all_goals first
        | exact HS.less HA.alloc (.cons _ (List.Sublist.refl _))
        | exact HS.less HA.alloc.drew (.cons _ (List.Sublist.refl _))
        | exact HS.less (HX.putAll (i := 1) rfl (vs := [.int .i64 u0, .int .i64 u1, .int .i64 u2, .int .i64 u3]) rfl rfl) (.cons _ (List.Sublist.refl _))
        | exact HS.less (HX.putAll (i := 0) rfl (vs := [.int .i64 u0, .int .i64 u1, .int .i64 u2, .int .i64 u3]) rfl rfl) (.cons_cons _ (.cons _ (List.Sublist.refl _)))
        | trace_state
    case rest =>
      clear H c1 c2 hbl q1 q2 HZ1
      obtain ⟨bF, a0, a1, a2, a3, ok, rfl, rfl, HQF, H⟩ := hcut
      skip
      try clear C
      try simp only [World.size_alloc, List.nil_append, List.cons_append, List.append_assoc] at H
      have C := H.cells
      try simp only [cellsOf, cellsM, apartOf, apartM, and_true] at C
      have c3 := (H.was (p := ⟨b, o + m * 6 + 3, none⟩) HBB.out id).trans HC3.out
      have hkk := HMK.out HMB.out
      have hw : xw = 0 ∨ xw = 1 ∨ xw = 2 ∨ xw = 3 := by omega
      clear hkk HMK HMB
      cases ok with
      | false =>
        have HG := Lib.hid (show R = (0, false) by rw [HR.out, HQF.out]; rfl)
        go_wp2_with fail
        go_ret2
        exact ⟨by rw [HG.out]; rfl, H.done⟩
      | true =>
        have HG := Lib.hid (show R = (Q4.get ⟨a0, a1, a2, a3⟩ xw, true) by rw [HR.out, HQF.out]; rfl)
        rcases hw with hw | hw | hw | hw
        all_goals
          subst hw
          skip
          go_wp2_with fail
          go_ret2
          exact ⟨by rw [HG.out]; rfl, H.done⟩
end Go.Proofs.Ythpoanlmaafanaa
