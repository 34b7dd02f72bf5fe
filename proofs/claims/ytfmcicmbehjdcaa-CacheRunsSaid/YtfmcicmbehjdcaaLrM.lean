/- memfaultref31.Get. -/
import Derived.Test.YtfmcicmbehjdcaaLrK
import Derived.Test.YtfmcicmbehjdcaaXst
namespace Go.Proofs.Ytfmcicmbehjdcaa
set_option linter.unusedSimpArgs false
set_option linter.unusedVariables false
open Go.RowKit
set_option maxRecDepth 100000
attribute [local irreducible] wpX wpF Calls

/-- A call that hands back a cache, a line and whether there was one. -/
def GivesLk (S W : Nat) (size : Int) (P : List Sm × Lm × Bool → Prop) (w : World) (e : Ending) (w' : World) : Prop := ∃ (o : List Sm × Lm × Bool) (s : Option Addr) (c : Nat) (qs : List Sw) (y : Sv) (F : Nat → Prop), P o ∧ qs.map Sw.s = o.1 ∧ e = .returned (.tuple #[caV S W size ⟨s, qs.length, c⟩, lnV o.2.1 y, .bool o.2.2]) ∧ HS NoD w [rowS s qs.length c qs, .any F (fun w => SlotsOk w qs ∧ BytesAt w y o.2.1.bs)] w'
theorem GoodC.len32 {S W : Nat} {size : Int} {l : List Sm} (h : GoodC S W size l) : l.length ≤ 32 := by
  rw [h.len]
  exact Nat.le_trans (Nat.mul_le_mul h.S8 h.W4) (by omega)
theorem GoodC.bytes {S W : Nat} {size : Int} {l : List Sm} (h : GoodC S W size l) {j : Nat} (hj : j < l.length) : (l[j]!).ln.bs.length ≤ 32 := by
  obtain ⟨c1, c2, c3⟩ := h.coord hj
  have hs := h.sets _ c1
  have e : rowG W l (j / W) (j % W) = l[j]! := by unfold rowG; rw [c3]
  cases hu : (l[j]!).u
  · have := hs.zero _ c2 (by rw [e]; exact hu)
    rw [e] at this
    rw [this]; exact Nat.zero_le _
  · have h1 := of_decide_eq_true (hs.line _ c2 (by rw [e]; exact hu))
    rw [e] at h1
    have := h.z32
    omega
theorem GoodC.small {S W : Nat} {size : Int} {l : List Sm} (h : GoodC S W size l) : SmallL l := ⟨by have := h.len32; omega, fun j hj => by have := h.bytes hj; omega⟩
theorem SlotsAt.line {w : World} {x : Sv} {l : List Sm} (h : SlotsAt w x l) {k : Nat} (hk : k < l.length) : ∃ b o y, x.sa = some ⟨b, o, none⟩ ∧ b < w.heap.size ∧ BytesAt w y (l[k]!).ln.bs ∧ x.n = l.length ∧ (∀ i u, (swC ⟨l[k]!, y⟩)[i]? = some u → w.cell? ⟨b, o + k * 6 + i, none⟩ = some u) := by
  obtain ⟨q0, hql, hn, hcap, hl, hb⟩ := h
  have hk' : k < q0.length := by rw [← hql, List.length_map] at hk; exact hk
  obtain ⟨b, o, e, hbl, hc⟩ := hl.at hk'
  have e1 : (q0[k]!).s = l[k]! := by rw [← hql, map_get _ _ _ hk']
  refine ⟨b, o, (q0[k]!).x, e, hbl, by have := hb k hk'; rwa [e1] at this, by rw [hn, ← hql, List.length_map], fun i u hu => hc i u ?_⟩
  rw [← e1] at hu
  exact hu
set_option maxHeartbeats 16000000 in
theorem r31get_any {S W : Nat} {size : Int} {l : List Sm} (hg : GoodC S W size l) (x : Sv) (a : Int) (w : World) (h : SlotsAt w x l) :
    Calls Try.prog 27 #[caV S W size x, .int .i64 a] w (GivesLk S W size (GetR S W l a) w) := by
  obtain ⟨xa, xn, xc⟩ := x
  have HSL := Lib.hid h
  have HG := Lib.hid hg
  have HCP := Lib.hid (fun wx hx => r31copy_any S W size ⟨xa, xn, xc⟩ l hg.small wx hx)
  have HAT := Lib.hid (fun wx hx => r31at_any S W size ⟨xa, xn, xc⟩ l (by have := hg.len32; omega) a wx hx)
  clear h hg
  show Calls Try.prog 27 #[.agg #[.int .i64 S, .int .i64 W, .int .i64 size, .slice xa xn xc], .int .i64 a] w _
  go_enter Try.func27, Try.ntmps27
  have H := HS.start NoD w
  go_upto_region 1 with fail
  generalize hwb : ((w.alloc _).alloc _).alloc _ = w1
  replace H := HS.eqW hwb H.alloc.alloc.alloc
  try simp only [World.size_alloc, List.nil_append, List.cons_append, List.append_assoc] at H
  clear hwb
  generalize w.heap.size + 2 = bL at H ⊢
  generalize w.heap.size + 1 = bR at H ⊢
  generalize w.heap.size = bX at H ⊢
  try clear C
  have C := H.cells
  try simp only [cellsOf, cellsM, apartOf, apartM, and_true] at C
  go_wp2_with fail
  refine (HCP.out _ (HSL.out.up H.done)).mono ?_
  rintro _ w2 ⟨s2, c2, qs, F, hqs, rfl, K⟩
  replace H := H.join K (two_low rfl rfl)
  have HQS := Lib.hid hqs
  clear K HCP hqs
  try simp only [List.nil_append, List.cons_append] at H
  skip
  try clear C
  try simp only [World.size_alloc, List.nil_append, List.cons_append, List.append_assoc] at H
  have C := H.cells
  try simp only [cellsOf, cellsM, apartOf, apartM, and_true] at C
  dsimp only [caV]
  go_upto_region 2 with fail
  generalize hwb : w2.alloc _ = w2
  replace H := HS.eqW hwb H.alloc
  try simp only [World.size_alloc, List.nil_append, List.cons_append, List.append_assoc] at H
  clear hwb
  generalize w2.heap.size = bO at H ⊢
  try clear C
  try clear w2
  have C := H.cells
  try simp only [cellsOf, cellsM, apartOf, apartM, and_true] at C
  go_wp2_with fail
  refine (HAT.out _ (HSL.out.up H.done)).mono ?_
  rintro _ w4 ⟨r, rfl, hr, hb⟩
  replace H := H.below hb
  clear hb HAT
  skip
  try clear C
  try simp only [World.size_alloc, List.nil_append, List.cons_append, List.append_assoc] at H
  have C := H.cells
  try simp only [cellsOf, cellsM, apartOf, apartM, and_true] at C
  dsimp only
  rcases hr with ⟨rfl, hno⟩ | ⟨k, hk, rfl, hit⟩
  · have HNO := Lib.hid hno
    clear hno
    repeat go_step
    generalize hwb : (((w4.setCell _ _).setCell _ _).setCell _ _).setCell _ _ = w3
    replace H := HS.eqW hwb (H.putAll (i := 1) rfl (vs := [.int .i64 S, .int .i64 W, .int .i64 size, .slice s2 qs.length c2]) rfl rfl)
    simp only [List.nil_append, List.cons_append, List.append_assoc, List.set_cons_succ, List.set_cons_zero] at H
    clear hwb
    try clear C
    try clear w4
    have C := H.cells
    try simp only [cellsOf, cellsM, apartOf, apartM, and_true] at C
    generalize hwb : (((w3.setCell _ _).setCell _ _).setCell _ _).setCell _ _ = w4
    replace H := HS.eqW hwb (H.putAll (i := 2) rfl (vs := [.int .i64 0, .slice none 0 0, .bool false, .bool false]) rfl rfl)
    simp only [List.nil_append, List.cons_append, List.append_assoc, List.set_cons_succ, List.set_cons_zero] at H
    clear hwb
    try clear C
    try clear w3
    have C := H.cells
    try simp only [cellsOf, cellsM, apartOf, apartM, and_true] at C
    refine bodyPost_ret (v := .tuple #[.agg #[.int .i64 S, .int .i64 W, .int .i64 size, .slice s2 qs.length c2], .agg #[.int .i64 0, .slice none 0 0, .bool false, .bool false], .bool false]) (by simp [results, Try.results27, go_sem, C]) rfl ?_
    have H9 := HS.less (L' := [rowS s2 qs.length c2 qs, anyS F qs]) H (by repeat (first | exact .slnil | refine .cons_cons _ ?_ | refine .cons _ ?_))
    exact ⟨(l, zLm, false), s2, c2, qs, ⟨none, 0, 0⟩, F, .inl ⟨HNO.out, rfl⟩, HQS.out, rfl, HS.weak (L := [_]) H9 fun w' h => ⟨h, bytes_nil w'⟩⟩
  · have HKL := Lib.hid hk
    obtain ⟨c1, c5, c3⟩ := HG.out.coord hk
    have HSR := Lib.hid (show ∃ s r, s < S ∧ r < W ∧ k = s * W + r from ⟨k / W, k % W, c1, c5, c3.symm⟩)
    have HIT := Lib.hid hit
    have hql : qs.length = l.length := by rw [← HQS.out, List.length_map]
    have HQL := Lib.hid hql
    have hkq : k < qs.length := by omega
    obtain ⟨g, cap, hv, -, -⟩ := World.ownsRow.form (H.at 3 rfl) (by omega)
    obtain ⟨rfl, -, rfl⟩ := Value.slice.inj hv
    have HUS := Lib.hid (fun wx hr => by
      have := r31use_any (S := S) (W := W) (size := size) (qs := qs) (by rw [HQS.out]; exact HG.out) (g := g) (c := c2) c1 c5 wx hr
      rw [c3] at this
      exact this)
    have HQ2 := Lib.hid (show (useQ W (k / W) (k % W) qs).map Sw.s = onSet W (k / W) l (useG (rowG W l (k / W)) (k % W)) by
      rw [useQ_map (by have := HG.out.fits c1; omega) c5, HQS.out])
    have HQ3 := Lib.hid (fun (wx : World) (h : SlotsOk wx qs) => useQ_ok (W := W) (s := k / W) (r := k % W) h)
    have HQ4 := Lib.hid (useQ_len W (k / W) (k % W) qs)
    generalize useQ W (k / W) (k % W) qs = qs2 at HUS HQ2 HQ3 HQ4
    have HRES := Lib.hid (show GetR S W l a (onSet W (k / W) l (useG (rowG W l (k / W)) (k % W)), (l[k]!).ln, true) from .inr ⟨k / W, k % W, c1, c5, by rw [c3]; exact hit, by rw [c3]⟩)
    clear hv c1 c5 c3 hit hql
    have hki : ¬ ((k : Int) < 0) := by omega
    go_wp2_with fail
    refine (HUS.out _ (H.at 3 rfl)).mono ?_
    rintro _ w5 ⟨rfl, K⟩
    replace H := H.turnOwn 3 rfl K
    clear K HUS
    try simp only [List.set_cons_succ, List.set_cons_zero] at H
    skip
    try clear C
    try simp only [World.size_alloc, List.nil_append, List.cons_append, List.append_assoc] at H
    have C := H.cells
    try simp only [cellsOf, cellsM, apartOf, apartM, and_true] at C
    dsimp only
    have LCP := Lib.hid (fun wx (m : Lm) (y : Sv) (hm : m.bs.length ≤ 1000) (hx : BytesAt wx y m.bs) => l30copy_any m y hm wx hx)
    go_upto_region 6 with fail
    refine wp_region_xH (by kernel_rfl) (by kernel_rfl) (by kernel_rfl) (by kernel_rfl) (fun k => k = bR ∨ k = bL) (H) ?_
    clear H; intro w5 H hz0 hs0
    try clear C
    try simp only [World.size_alloc, List.nil_append, List.cons_append, List.append_assoc] at H hz0
    clear hz0
    try clear w5
    have C := H.cells
    try simp only [cellsOf, cellsM, apartOf, apartM, and_true] at C
    have Z := H.zs
    try simp only [ltsOf, ltsM, and_true] at Z
    have hz0 := Nat.le_refl w5.heap.size
    obtain ⟨bb, oo, y, e, hbl, hby, hxn, hcc⟩ := (HSL.out.up H.done).line HKL.out
    dsimp only at e hxn
    have hb1 : (bb = bR) = False := eq_false (fun e9 => by have := H.mine 1 rfl; have hh := HSL.out.line HKL.out; obtain ⟨b9, o9, y9, e10, hb9, -⟩ := hh; dsimp only at e10; rw [e] at e10; injection e10 with e10; injection e10 with e11; omega)
    have hb2 : (bb = bL) = False := eq_false (fun e9 => by have := H.mine 2 rfl; have hh := HSL.out.line HKL.out; obtain ⟨b9, o9, y9, e10, hb9, -⟩ := hh; dsimp only at e10; rw [e] at e10; injection e10 with e10; injection e10 with e11; omega)
    subst e hxn
    have HBY := Lib.hid hby
    have HML := Lib.hid (HG.out.bytes HKL.out)
    generalize l[k]! = sk at hcc HBY HML HRES
    obtain ⟨u, age, ⟨ad, bs, d, p⟩⟩ := sk
    obtain ⟨ya, yn, yc⟩ := y
    have k2 : w5.cell? ⟨bb, oo + k * 6 + 2, none⟩ = some (.int .i64 ad) := hcc 2 _ rfl
    have k3 : w5.cell? ⟨bb, oo + k * 6 + 3, none⟩ = some (.slice ya yn yc) := hcc 3 _ rfl
    have k4 : w5.cell? ⟨bb, oo + k * 6 + 4, none⟩ = some (.bool d) := hcc 4 _ rfl
    have k5 : w5.cell? ⟨bb, oo + k * 6 + 5, none⟩ = some (.bool p) := hcc 5 _ rfl
    have hkl : (k : Int) < l.length := by have := HKL.out; omega
    clear hcc hby
    repeat (first | (refine wpX_skip rfl ?_; go_simp) | (refine wpX_free rfl rfl rfl (fun K hK => ?_); go_step; refine hK _ _ ?_; clear hK K) | (refine wpX_load rfl rfl rfl (by simp [Stay, OneD, NoD, *]) hs0 (by simp [*]) (fun K hK => ?_); go_step; refine hK _ _ ?_; clear hK K))
    refine wpX_eff rfl rfl (fun _ _ => ?_)
    go_step
    refine (LCP.out _ ⟨ad, bs, d, p⟩ ⟨ya, yn, yc⟩ (Nat.le_trans HML.out (by omega)) HBY.out).mono ?_
    rintro _ w6 ⟨⟨ra, rn, rc⟩, G, rfl, K⟩
    replace hs0 := hs0.belowS hz0 K.done
    replace hz0 := Nat.le_trans hz0 K.done.size
    replace H := H.join K (one_low rfl)
    clear K
    try simp only [List.nil_append, List.cons_append, List.append_assoc] at H
    try clear C
    have C := H.cells
    try simp only [cellsOf, cellsM, apartOf, apartM, and_true] at C
    try clear w5
    dsimp only
    go_step
    refine ⟨hs0, ?_⟩
    dsimp only [lnV]
    refine wpX_eff rfl rfl (fun _ _ => ?_)
    go_step
    go_step
    generalize hwb : (((w6.setCell _ _).setCell _ _).setCell _ _).setCell _ _ = w7
    replace hs0 := Same.eqW hwb (hs0.setAll (b := bR) (fun k hk e => hk.2 (by simp [e])) 0 [.int .i64 S, .int .i64 W, .int .i64 size, .slice (some ⟨g, 0, none⟩) qs.length c2])
    replace hz0 := Nat.le_trans hz0 (Nat.le_of_eq ((setAll_same [.int .i64 S, .int .i64 W, .int .i64 size, .slice (some ⟨g, 0, none⟩) qs.length c2] bR 0 w6).2.2.2.1.symm.trans (congrArg (fun w => w.heap.size) hwb)))
    replace H := HS.eqW hwb (H.putAll (i := 1) rfl (vs := [.int .i64 S, .int .i64 W, .int .i64 size, .slice (some ⟨g, 0, none⟩) qs.length c2]) rfl rfl)
    simp only [List.nil_append, List.cons_append, List.append_assoc, List.set_cons_succ, List.set_cons_zero] at H
    clear hwb
    try clear C
    try clear w6
    have C := H.cells
    try simp only [cellsOf, cellsM, apartOf, apartM, and_true] at C
    refine ⟨hs0, ?_⟩
    refine wpX_eff rfl rfl (fun _ _ => ?_)
    go_step
    go_step
    generalize hwb : (((w7.setCell _ _).setCell _ _).setCell _ _).setCell _ _ = w8
    replace hs0 := Same.eqW hwb (hs0.setAll (b := bL) (fun k hk e => hk.2 (by simp [e])) 0 [.int .i64 ad, .slice ra rn rc, .bool d, .bool p])
    replace hz0 := Nat.le_trans hz0 (Nat.le_of_eq ((setAll_same [.int .i64 ad, .slice ra rn rc, .bool d, .bool p] bL 0 w7).2.2.2.1.symm.trans (congrArg (fun w => w.heap.size) hwb)))
    replace H := HS.eqW hwb (H.putAll (i := 2) rfl (vs := [.int .i64 ad, .slice ra rn rc, .bool d, .bool p]) rfl rfl)
    simp only [List.nil_append, List.cons_append, List.append_assoc, List.set_cons_succ, List.set_cons_zero] at H
    clear hwb
    try clear C
    try clear w7
    have C := H.cells
    try simp only [cellsOf, cellsM, apartOf, apartM, and_true] at C
    refine ⟨hs0, ?_⟩
    repeat (first | (refine wpX_skip rfl ?_; go_simp) | (refine wpX_free rfl rfl rfl (fun K hK => ?_); go_step; refine hK _ _ ?_; clear hK K) | (refine wpX_load rfl rfl rfl (by simp [Stay, OneD, NoD, *]) hs0 (by simp [*]) (fun K hK => ?_); go_step; refine hK _ _ ?_; clear hK K))
    (refine wpX_nil ?_; go_step)
    repeat go_step
    refine bodyPost_ret (v := .tuple #[.agg #[.int .i64 S, .int .i64 W, .int .i64 size, .slice (some ⟨g, 0, none⟩) qs.length c2], .agg #[.int .i64 ad, .slice ra rn rc, .bool d, .bool p], .bool true]) (by simp [results, Try.results27, go_sem, C]) rfl ?_
    have H9 := HS.less (L' := [rowS (some ⟨g, 0, none⟩) qs.length c2 qs2, anyS F qs, .any G (fun w => BytesAt w ⟨ra, rn, rc⟩ bs)]) H (by repeat (first | exact .slnil | refine .cons_cons _ ?_ | refine .cons _ ?_))
    have H8 := HS.merge (L := [_]) H9
    have H7 := HS.weak (L := [_]) H8 (K' := fun w => SlotsOk w qs2 ∧ BytesAt w ⟨ra, rn, rc⟩ bs) (fun w' h => ⟨HQ3.out w' h.1, h.2⟩)
    rw [← HQ4.out] at H7 ⊢
    exact ⟨_, _, _, qs2, ⟨ra, rn, rc⟩, _, HRES.out, HQ2.out, rfl, H7⟩
end Go.Proofs.Ytfmcicmbehjdcaa
