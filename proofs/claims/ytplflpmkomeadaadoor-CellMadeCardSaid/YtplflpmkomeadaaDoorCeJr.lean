/- ref13.Put: what it hands back as rows of one's own. -/
import Derived.Test.YtplflpmkomeadaaDoorCeJ
namespace Go.Proofs.YtplflpmkomeadaaDoor
set_option linter.unusedSimpArgs false
set_option linter.unusedVariables false
open Go.RowKit
set_option maxRecDepth 100000
attribute [local irreducible] wpX wpF Calls

theorem two_lowJ {A B : Item} (ha : A.low = 0) (hb : B.low = 0) : ∀ X ∈ [A, B], X.low = 0 := fun X hX => by
  rcases List.mem_cons.1 hX with rfl | hX
  · exact ha
  · cases List.mem_singleton.1 hX; exact hb
/-- A copied memory: its words frozen, its faults still one's own, as one. -/
theorem HS.memMany {D : Nat → Prop} {W w : World} {L : List Item} {s t : Option Addr} {n c k d : Nat} {qs : List (Wm × Sv)} {F : Nat → Prop} {fs : List Fa} (h : HS D W (L ++ [rowCw s n c qs, anyCw F qs, rowCf t k d fs]) w) (hn : n = qs.length) (hk : k = fs.length) : ∃ G, HS D W (L ++ [Item.many [.any G (fun w => CwLie w ⟨s, n, c⟩ qs), rowCf t k d fs]]) w := by
  have h1 : HS D W ((L ++ [rowCf t k d fs, anyCw F qs]) ++ [rowCw s n c qs]) w := h.permu (by
    rw [List.append_assoc]
    refine List.Perm.append_left L ?_
    show List.Perm [rowCw s n c qs, anyCw F qs, rowCf t k d fs] [rowCf t k d fs, anyCw F qs, rowCw s n c qs]
    exact (List.Perm.swap _ _ _).trans ((List.Perm.cons _ (List.Perm.swap _ _ _)).trans (List.Perm.swap _ _ _ |>.trans (List.Perm.refl _))))
  have h2 := HS.anyOf h1 rfl
  rw [List.append_assoc] at h2
  have h3 : HS D W ((L ++ [rowCf t k d fs]) ++ [anyCw F qs, .any (rowCw s n c qs).fp (rowCw s n c qs).ok]) w := by rw [List.append_assoc]; exact h2
  have h4 := HS.merge h3
  have h5 := HS.weak h4 (K' := fun w => CwLie w ⟨s, n, c⟩ qs) (fun w' h => cwLie_of h.2 hn h.1)
  have h6 : HS D W (L ++ [.any _ (fun w => CwLie w ⟨s, n, c⟩ qs), rowCf t k d fs]) w := h5.permu (by
    rw [List.append_assoc]
    exact List.Perm.append_left L (List.Perm.swap _ _ _))
  exact ⟨_, h6.toMany (fun X hX => two_lowJ rfl rfl X hX)⟩
theorem HS.manyAdd {D : Nat → Prop} {W w : World} {L : List Item} {G F : Nat → Prop} {K J : World → Prop} {X : Item} (h : HS D W (L ++ [Item.many [.any G K, X], .any F J]) w) (hX : X.low = 0) : HS D W (L ++ [Item.many [.any (fun k => G k ∨ F k) (fun w => K w ∧ J w), X]]) w := by
  have h1 : HS D W ((L ++ [.any F J]) ++ [Item.many [.any G K, X]]) w := h.permu (by
    rw [List.append_assoc]
    exact List.Perm.append_left L (List.Perm.swap _ _ _))
  have h2 := h1.ofMany
  have h3 : HS D W ((L ++ [X]) ++ [.any G K, .any F J]) w := h2.permu (by
    rw [List.append_assoc, List.append_assoc]
    refine List.Perm.append_left L ?_
    show List.Perm [.any F J, .any G K, X] [X, .any G K, .any F J]
    exact (List.Perm.cons _ (List.Perm.swap _ _ _)).trans ((List.Perm.swap _ _ _).trans (List.Perm.cons _ (List.Perm.swap _ _ _))))
  have h4 := HS.merge h3
  have h5 : HS D W (L ++ [.any (fun k => G k ∨ F k) (fun w => K w ∧ J w), X]) w := h4.permu (by
    rw [List.append_assoc]
    exact List.Perm.append_left L (List.Perm.swap _ _ _))
  exact h5.toMany (fun Y hY => two_lowJ rfl hX Y hY)
theorem putM3 {w : World} {F : Nat → Prop} {pa ra : Option Addr} {pc rc : Nat} {qs : List (Wm × Sv)} {fs : List Fa} {bs : List Int} {z : Sv} (h : (Item.many [.any F (fun w => CwLie w ⟨pa, qs.length, pc⟩ qs ∧ BytesAt w z bs), rowCf ra fs.length rc fs]).ok w) :
    (CwLie w ⟨pa, qs.length, pc⟩ qs ∧ CfAt w ⟨ra, fs.length, rc⟩ fs) ∧ BytesAt w z bs := by
  have h1 := (Item.ofMany h).1
  have h2 := (h1 _ List.mem_cons_self).1
  have h3 := (h1 _ (List.mem_cons_of_mem _ List.mem_cons_self)).1
  exact ⟨⟨h2.1.1, cfAt_of h3 rfl⟩, h2.1.2⟩
set_option maxHeartbeats 16000000 in
theorem put13R_any (M : Mm) (x y : Sv) (hs : SmallM M) (hso : M.ws.Pairwise (fun x y => x.ix < y.ix)) (m : Wm) (z : Sv) (hz : m.bs.length ≤ 1000) (w : World) (h : MeAt w x y M) (hb : BytesAt w z m.bs) : Calls Tryd.prog 71 #[meV M x y, cwV m z] w (GivesMeR (setWs M (putW M.ws m)) w) := by
  have HCPY := Lib.hid (fun wx hx => r13copyR_any M x y hs wx hx)
  have HME := Lib.hid h
  have hws := hs.ws
  obtain ⟨s0, s1, s2, s3, s4, s5, kd, dt, ck, fx, ws, fs⟩ := M
  obtain ⟨wi, bs, po⟩ := m
  obtain ⟨xa0, xn0, xc0⟩ := x
  obtain ⟨ya0, yn0, yc0⟩ := y
  obtain ⟨za, zn, zc⟩ := z
  obtain rfl : zn = bs.length := hb.len
  have HBZ := Lib.hid hb
  have HZB := Lib.hid (fun wx (sz : Option Addr) (cz : Nat) h1 => zeros13_any ⟨sz, bs.length, cz⟩ bs (Nat.le_trans hz (by decide)) wx h1)
  have hbs : bs.length ≤ 1000 := hz
  dsimp only at hso hws
  clear hs h hb hz
  replace HCPY := Lib.hid (fun wx hx => (show Calls Tryd.prog 70 #[.agg #[.int .i64 s0, .int .i64 s1, .int .i64 s2, .int .i64 s3, .int .i64 s4, .int .i64 s5, .int .i64 kd, .int .i64 dt, .int .i64 ck, .int .i64 fx, .slice xa0 xn0 xc0, .slice ya0 yn0 yc0]] wx _ from HCPY.out wx hx))
  show Calls Tryd.prog 71 #[.agg #[.int .i64 s0, .int .i64 s1, .int .i64 s2, .int .i64 s3, .int .i64 s4, .int .i64 s5, .int .i64 kd, .int .i64 dt, .int .i64 ck, .int .i64 fx, .slice xa0 xn0 xc0, .slice ya0 yn0 yc0], .agg #[.int .i64 wi, .slice za bs.length zc, .bool po]] w _
  go_enter Tryd.func71, Tryd.ntmps71
  have H := HS.start NoD w
  go_upto_region 1 with fail
  generalize hwb : ((w.alloc _).alloc _).alloc _ = w1
  replace H := HS.eqW hwb H.alloc.alloc.alloc
  try simp only [World.size_alloc, List.nil_append, List.cons_append, List.append_assoc] at H
  clear hwb
  generalize w.heap.size + 2 = b4 at H ⊢
  generalize w.heap.size + 1 = b3 at H ⊢
  generalize w.heap.size = b2 at H ⊢
  try clear C
  have C := H.cells
  try simp only [cellsOf, cellsM, apartOf, apartM, and_true] at C
  go_wp2_with fail
  refine (HCPY.out _ (HME.out.up H.done)).mono ?_
  rintro _ w50 ⟨pa, pc, ra, rc, qs, Fm, hqm, rfl, K0⟩
  replace H := H.join K0 (fun X hX => by
    rcases List.mem_cons.1 hX with rfl | hX
    · rfl
    · exact two_lowJ rfl rfl X hX)
  obtain ⟨Gm, H9⟩ := HS.memMany (L := [_, _, _]) H rfl rfl
  clear H
  have H := H9
  clear H9
  clear K0 HCPY HME
  try simp only [List.nil_append, List.cons_append] at H
  skip
  try clear C
  try simp only [World.size_alloc, List.nil_append, List.cons_append, List.append_assoc] at H
  have C := H.cells
  try simp only [cellsOf, cellsM, apartOf, apartM, and_true] at C
  dsimp only at hqm H
  subst hqm
  dsimp only [meV]
  have HSO := Lib.hid hso
  have hql : qs.length ≤ 1000 := by rw [List.length_map] at hws; exact hws
  have HQL := Lib.hid hql
  clear hso hws
  go_upto_region 2 with fail
  generalize hwb : (((((((((((w50.setCell _ _).setCell _ _).setCell _ _).setCell _ _).setCell _ _).setCell _ _).setCell _ _).setCell _ _).setCell _ _).setCell _ _).setCell _ _).setCell _ _ = w2
  replace H := HS.eqW hwb (H.putAll (i := 0) rfl (vs := [.int .i64 s0, .int .i64 s1, .int .i64 s2, .int .i64 s3, .int .i64 s4, .int .i64 s5, .int .i64 kd, .int .i64 dt, .int .i64 ck, .int .i64 fx, .slice pa qs.length pc, .slice ra fs.length rc]) rfl rfl)
  simp only [List.nil_append, List.cons_append, List.append_assoc, List.set_cons_succ, List.set_cons_zero] at H
  clear hwb
  try clear C
  try clear w50
  have C := H.cells
  try simp only [cellsOf, cellsM, apartOf, apartM, and_true] at C
  have hn1 := H.nilRow 5 1
  clear H C
  have H := hn1
  clear hn1
  try simp only [List.nil_append, List.cons_append] at H
  try clear C
  try simp only [World.size_alloc, List.nil_append, List.cons_append, List.append_assoc] at H
  have C := H.cells
  try simp only [cellsOf, cellsM, apartOf, apartM, and_true] at C
  have HCZ := Lib.hid (show bs.length ≤ zc ∧ (za = none → zc = 0) from HBZ.out.cap)
  go_upto_region 3 with (at_builtin; refine wpList_apX rfl (.const (.slice none 0 0)) (.tmp 11) 48 rfl elemBy H 4 rfl rfl rfl (Lies.srcX bC1_len (by decide) HCZ.out.1 (H.liesUp HBZ.out.lies) HCZ.out.2) (flat_len bC1_len bs) (bC1_one bs) (by unfold maxLen; omega) (by omega) (N := bs.length) (by omega) (fun sz cz w22 HZ hg => ?_); clear H C hg; replace HZ := HZ; simp only [List.nil_append, List.cons_append, List.append_assoc, List.set_cons_succ, List.set_cons_zero] at HZ; have H := HZ; clear HZ; have C := H.cells; simp only [cellsOf, cellsM, apartOf, apartM, and_true] at C)
  skip
  generalize hwb : World.setCell _ _ _ = w23
  replace H := HS.eqW hwb (H.setTo (o := 1) (v := .slice sz bs.length cz) 1 rfl rfl)
  clear hwb C HBZ HCZ
  simp only [List.set_cons_succ, List.set_cons_zero] at H
  have H8 := HS.anyOf (L := [_, _, _, _]) H rfl
  have H7 := HS.weak (L := [_, _, _, _]) H8 (K' := fun w => BytesAt w ⟨sz, bs.length, cz⟩ bs) (fun w' h => bytes_row rfl h)
  have H6 := HS.manyAdd (L := [_, _, _]) H7 rfl
  clear H H8 H7
  obtain ⟨F, H6⟩ : ∃ F6, HS NoD w [.blk b2 #[.int .i64 s0, .int .i64 s1, .int .i64 s2, .int .i64 s3, .int .i64 s4, .int .i64 s5, .int .i64 kd, .int .i64 dt, .int .i64 ck, .int .i64 fx, .slice pa qs.length pc, .slice ra fs.length rc] 34, .blk b3 #[.int .i64 wi, .slice sz bs.length cz, .bool po] 50, .blk b4 #[.int .i64 0, .int .i64 0, .int .i64 0, .int .i64 0, .int .i64 0, .int .i64 0, .int .i64 0, .int .i64 0, .int .i64 0, .int .i64 0, .slice none 0 0, .slice none 0 0] 34, Item.many [.any F6 (fun w => CwLie w ⟨pa, qs.length, pc⟩ qs ∧ BytesAt w ⟨sz, bs.length, cz⟩ bs), rowCf ra fs.length rc fs]] w23 := ⟨_, H6⟩
  have H := H6.nilRow 50 3
  clear H6
  try simp only [List.nil_append, List.cons_append] at H
  replace HZB := Lib.hid (fun wx h1 => HZB.out wx sz cz h1)
  skip
  try clear C
  try simp only [World.size_alloc, List.nil_append, List.cons_append, List.append_assoc] at H
  have C := H.cells
  try simp only [cellsOf, cellsM, apartOf, apartM, and_true] at C
  go_wp2_with fail
  go_loopw [5, 6, 7] (fun sv dv iv wr => ∃ (i : Nat) (s : Option Addr) (c : Nat) (ys : List (Wm × Sv)) (d : Bool), iv = .int .i64 i ∧ sv = .slice s ys.length c ∧ dv = .bool d ∧ i ≤ qs.length + 1 ∧ ((d = false → ys.length ≤ i) ∧ ys.length ≤ i + 1) ∧ Hid (PutI (qs.map Prod.fst) (⟨wi, bs, po⟩ : Wm) i d (ys.map Prod.fst)) ∧ Hid (∀ q ∈ ys, q ∈ qs ∨ q = ((⟨wi, bs, po⟩ : Wm), (⟨sz, bs.length, cz⟩ : Sv))) ∧ HS NoD w [.blk b2 #[.int .i64 s0, .int .i64 s1, .int .i64 s2, .int .i64 s3, .int .i64 s4, .int .i64 s5, .int .i64 kd, .int .i64 dt, .int .i64 ck, .int .i64 fx, .slice pa qs.length pc, .slice ra fs.length rc] 34, .blk b3 #[.int .i64 wi, .slice sz bs.length cz, .bool po] 50, .blk b4 #[.int .i64 0, .int .i64 0, .int .i64 0, .int .i64 0, .int .i64 0, .int .i64 0, .int .i64 0, .int .i64 0, .int .i64 0, .int .i64 0, .slice none 0 0, .slice none 0 0] 34, Item.many [.any F (fun w => CwLie w ⟨pa, qs.length, pc⟩ qs ∧ BytesAt w ⟨sz, bs.length, cz⟩ bs), rowCf ra fs.length rc fs], rowCw s ys.length c ys] wr) (fun _ _ iv _ => qs.length + 1 - (intOf iv).toNat)
  case atStart => exact ⟨0, none, 0, [], false, rfl, rfl, rfl, Nat.zero_le _, ⟨fun _ => Nat.le_refl _, Nat.zero_le _⟩, (show Hid _ from PutI.start), (show Hid _ from fun q hq => absurd hq List.not_mem_nil), H⟩
  case round =>
    clear H C
    obtain ⟨i, s, c, ys, d, rfl, rfl, rfl, hi, ⟨hyd, hyb⟩, HPI, HSR, H⟩ := hrel
    skip
    try clear C
    try simp only [World.size_alloc, List.nil_append, List.cons_append, List.append_assoc] at H
    have C := H.cells
    try simp only [cellsOf, cellsM, apartOf, apartM, and_true] at C
    have HYB := Lib.hid (show ys.length ≤ i + 1 ∧ i ≤ qs.length + 1 ∧ qs.length ≤ 1000 from ⟨hyb, hi, HQL.out⟩)
    have HYD := Lib.hid hyd
    clear hyd hyb
    by_cases hil : i ≤ qs.length
    · have HIL := Lib.hid hil
      have hili : (i : Int) ≤ qs.length := by omega
      skip
      cases d with
      | true =>
        by_cases hlt : i < qs.length
        · skip
          have HLT := Lib.hid hlt
          have hii : (i : Int) < qs.length := by omega
          have hin : ¬ (i : Int) = qs.length := by omega
          have hinb : ((i : Int) == qs.length) = false := beq_eq_false_iff_ne.2 hin
          obtain ⟨b, o, rfl, hb, -⟩ := (putM3 (H.at 3 rfl)).1.1.2.2.1.at hlt
          have HLQ := Lib.hid (fun (wx : World) (hx : Lies wx wx.heap.size (some ⟨b, o, none⟩) 3 qs.length (fun j => cwC qs[j]!)) => show (∀ m v, (cwC qs[i]!)[m]? = some v → wx.cell? ⟨b, o + i * 3 + m, none⟩ = some v) ∧ b < wx.heap.size from by
            obtain ⟨b9, o9, e9, hb9, h9⟩ := hx.at hlt
            cases e9
            exact ⟨h9, hb9⟩)
          have HXQ0 := Lib.hid (mem_bang2 hlt)
          have HXI0 := Lib.hid (map_bang hlt)
          generalize qs[i]! = q at HLQ HXQ0 HXI0
          obtain ⟨⟨ix, xb, xp⟩, ⟨xa, xn, xc⟩⟩ := q
          have HXQ := Lib.hid HXQ0.out
          have HXI := Lib.hid (show ((qs.map Prod.fst)[i]!) = (⟨ix, xb, xp⟩ : Wm) from HXI0.out)
          clear HXQ0 HXI0 hb
          have HG := Lib.hid (show wi < ix from HPI.out.later HSO.out HLT.out (by rw [HXI.out]))
          have hne : (ix != wi) = true := bne_iff_ne.2 (by have := HG.out; omega)
          go_upto_region 8 with fail
          refine wp_region_xH (by kernel_rfl) (by kernel_rfl) (by kernel_rfl) (by kernel_rfl) (fun _ => False) (H) ?_
          clear H; intro w3 H hz0 hs0
          try clear C
          try simp only [World.size_alloc, List.nil_append, List.cons_append, List.append_assoc] at H hz0
          clear hz0
          try clear wr
          have C := H.cells
          try simp only [cellsOf, cellsM, apartOf, apartM, and_true] at C
          have Z := H.zs
          try simp only [ltsOf, ltsM, and_true] at Z
          have hz0 := Nat.le_refl w3.heap.size
          repeat (first | (refine wpX_skip rfl ?_; go_simp) | (refine wpX_free rfl rfl rfl (fun K hK => ?_); go_step; refine hK _ _ ?_; clear hK K) | (refine wpX_load rfl rfl rfl (by simp [Stay, OneD, NoD, *]) hs0 (by simp [*]) (fun K hK => ?_); go_step; refine hK _ _ ?_; clear hK K))
          (refine wpX_nil ?_; go_step)
          go_upto_region 12 with fail
          refine wp_region_xH (by kernel_rfl) (by kernel_rfl) (by kernel_rfl) (by kernel_rfl) (fun _ => False) (H) ?_
          clear H; intro w4 H hz0 hs0
          try clear C
          try simp only [World.size_alloc, List.nil_append, List.cons_append, List.append_assoc] at H hz0
          clear hz0
          try clear w3
          have C := H.cells
          try simp only [cellsOf, cellsM, apartOf, apartM, and_true] at C
          have Z := H.zs
          try simp only [ltsOf, ltsM, and_true] at Z
          have hz0 := Nat.le_refl w4.heap.size
          obtain ⟨hcq, hbq⟩ := HLQ.out _ (putM3 (H.at 3 rfl)).1.1.2.2.1
          have e0 : w4.cell? ⟨b, o + i * 3, none⟩ = some (.int .i64 ix) := hcq 0 _ rfl
          have e1 : w4.cell? ⟨b, o + i * 3 + 1, none⟩ = some (.slice xa xn xc) := hcq 1 _ rfl
          have e2 : w4.cell? ⟨b, o + i * 3 + 2, none⟩ = some (.bool xp) := hcq 2 _ rfl
          clear hcq
          repeat (first | (refine wpX_skip rfl ?_; go_simp) | (refine wpX_free rfl rfl rfl (fun K hK => ?_); go_step; refine hK _ _ ?_; clear hK K) | (refine wpX_load rfl rfl rfl (by simp [Stay, OneD, NoD, *]) hs0 (by simp [*]) (fun K hK => ?_); go_step; refine hK _ _ ?_; clear hK K))
          (refine wpX_nil ?_; go_step)
          clear e0 e1 e2 hbq
          obtain ⟨hcq, hbq⟩ := HLQ.out _ (putM3 (H.at 3 rfl)).1.1.2.2.1
          have e0 : w4.cell? ⟨b, o + i * 3, none⟩ = some (.int .i64 ix) := hcq 0 _ rfl
          have e1 : w4.cell? ⟨b, o + i * 3 + 1, none⟩ = some (.slice xa xn xc) := hcq 1 _ rfl
          have e2 : w4.cell? ⟨b, o + i * 3 + 2, none⟩ = some (.bool xp) := hcq 2 _ rfl
          have n1 : (b = w4.heap.size) = False := eq_false (by omega)
          have n2 : (w4.heap.size = b) = False := eq_false (by omega)
          clear hcq
          have hyb : ys.length ≤ 1003 := by have := HYB.out; omega
          go_wp2_with (at_builtin; go_loud (refine wpList_append_H rfl (.tmp 69) (.tmp 75) 31 rfl elemCw H.alloc 4 rfl rfl 5 rfl rfl rfl rfl (by decide) (by unfold maxLen; omega) (by omega) (fun gz9 cz9 w62 HZ => ?_)); clear H C; have C := HZ.cells; simp only [List.nil_append, List.cons_append, List.append_assoc, List.set_cons_succ, List.set_cons_zero] at C; simp only [cellsOf, cellsM, apartOf, apartM, and_true] at C)
          simp only [List.set_cons_succ, List.set_cons_zero, List.nil_append, List.cons_append, List.append_assoc] at HZ
          have H9 := HS.less (L' := [.blk b2 #[.int .i64 s0, .int .i64 s1, .int .i64 s2, .int .i64 s3, .int .i64 s4, .int .i64 s5, .int .i64 kd, .int .i64 dt, .int .i64 ck, .int .i64 fx, .slice (some ⟨b, o, none⟩) qs.length pc, .slice ra fs.length rc] 34, .blk b3 #[.int .i64 wi, .slice sz bs.length cz, .bool po] 50, .blk b4 #[.int .i64 0, .int .i64 0, .int .i64 0, .int .i64 0, .int .i64 0, .int .i64 0, .int .i64 0, .int .i64 0, .int .i64 0, .int .i64 0, .slice none 0 0, .slice none 0 0] 34, Item.many [.any F (fun w => CwLie w ⟨some ⟨b, o, none⟩, qs.length, pc⟩ qs ∧ BytesAt w ⟨sz, bs.length, cz⟩ bs), rowCf ra fs.length rc fs], rowCw (some ⟨gz9, 0, none⟩) (ys.length + 1) cz9 (ys ++ [((⟨ix, xb, xp⟩ : Wm), (⟨xa, xn, xc⟩ : Sv))])]) HZ (by
            dsimp only [rowCw]
            rw [List.flatMap_append]
            repeat (first | exact .slnil | refine .cons_cons _ ?_ | refine .cons _ ?_))
          clear HZ C e0 e1 e2 n1 n2 hbq
          generalize hys9 : ys ++ [((⟨ix, xb, xp⟩ : Wm), (⟨xa, xn, xc⟩ : Sv))] = ys2 at H9
          have hyl9 : ys.length + 1 = ys2.length := by rw [← hys9, List.length_append]; rfl
          rw [hyl9] at H9
          try rw [hyl9]
          have HY9ys2 := Lib.hid hys9
          have HYLys2 := Lib.hid hyl9
          clear hys9 hyl9 hyb
          skip
          have H := H9
          clear H9
          try clear C
          try simp only [World.size_alloc, List.nil_append, List.cons_append, List.append_assoc] at H
          have C := H.cells
          try simp only [cellsOf, cellsM, apartOf, apartM, and_true] at C
          go_wp2_with fail
          go_roundw
          case rel => exact ⟨i + 1, _, _, ys2, true, by go_num, rfl, rfl, by have := HIL.out; omega, ⟨fun e => (by cases e), by have := HYLys2.out; have := HYB.out; omega⟩, (show Hid _ from (by rw [← HY9ys2.out, List.map_append]; exact HPI.out.goon (by rw [List.length_map]; exact HLT.out) HXI.out HG.out)), (show Hid _ from fun q hq => by rw [← HY9ys2.out] at hq; rcases List.mem_append.1 hq with h9 | h9; exact HSR.out q h9; cases List.mem_singleton.1 h9; exact .inl HXQ.out), H⟩
          case measure => first | (simp [intOf]; done) | (simp [intOf]; have := HIL.out; omega)
        · obtain rfl : i = qs.length := by omega
          go_upto_region 8 with fail
          refine wp_region_xH (by kernel_rfl) (by kernel_rfl) (by kernel_rfl) (by kernel_rfl) (fun _ => False) (H) ?_
          clear H; intro w5 H hz0 hs0
          try clear C
          try simp only [World.size_alloc, List.nil_append, List.cons_append, List.append_assoc] at H hz0
          clear hz0
          try clear w62
          have C := H.cells
          try simp only [cellsOf, cellsM, apartOf, apartM, and_true] at C
          have Z := H.zs
          try simp only [ltsOf, ltsM, and_true] at Z
          have hz0 := Nat.le_refl w5.heap.size
          repeat (first | (refine wpX_skip rfl ?_; go_simp) | (refine wpX_free rfl rfl rfl (fun K hK => ?_); go_step; refine hK _ _ ?_; clear hK K) | (refine wpX_load rfl rfl rfl (by simp [Stay, OneD, NoD, *]) hs0 (by simp [*]) (fun K hK => ?_); go_step; refine hK _ _ ?_; clear hK K))
          (refine wpX_nil ?_; go_step)
          go_upto_region 12 with fail
          refine wp_region_xH (by kernel_rfl) (by kernel_rfl) (by kernel_rfl) (by kernel_rfl) (fun _ => False) (H) ?_
          clear H; intro w6 H hz0 hs0
          try clear C
          try simp only [World.size_alloc, List.nil_append, List.cons_append, List.append_assoc] at H hz0
          clear hz0
          try clear w5
          have C := H.cells
          try simp only [cellsOf, cellsM, apartOf, apartM, and_true] at C
          have Z := H.zs
          try simp only [ltsOf, ltsM, and_true] at Z
          have hz0 := Nat.le_refl w6.heap.size
          repeat (first | (refine wpX_skip rfl ?_; go_simp) | (refine wpX_free rfl rfl rfl (fun K hK => ?_); go_step; refine hK _ _ ?_; clear hK K) | (refine wpX_load rfl rfl rfl (by simp [Stay, OneD, NoD, *]) hs0 (by simp [*]) (fun K hK => ?_); go_step; refine hK _ _ ?_; clear hK K))
          (refine wpX_nil ?_; go_step)
          go_wp2_with fail
          go_roundw
          case rel => exact ⟨qs.length + 1, _, _, ys, true, by go_num, rfl, rfl, by have := HIL.out; omega, ⟨fun e => (by cases e), by have := HYB.out; omega⟩, (show Hid _ from HPI.out.stay (by rw [List.length_map]; exact Nat.le_refl _)), (show Hid _ from HSR.out), H⟩
          case measure => first | (simp [intOf]; done) | (simp [intOf]; have := HIL.out; omega)
      | false =>
        have HYE := Lib.hid (HYD.out rfl)
        skip
        by_cases hlt : i < qs.length
        · skip
          have HLT := Lib.hid hlt
          have hii : (i : Int) < qs.length := by omega
          have hin : ¬ (i : Int) = qs.length := by omega
          have hinb : ((i : Int) == qs.length) = false := beq_eq_false_iff_ne.2 hin
          obtain ⟨b, o, rfl, hb, -⟩ := (putM3 (H.at 3 rfl)).1.1.2.2.1.at hlt
          have HLQ := Lib.hid (fun (wx : World) (hx : Lies wx wx.heap.size (some ⟨b, o, none⟩) 3 qs.length (fun j => cwC qs[j]!)) => show (∀ m v, (cwC qs[i]!)[m]? = some v → wx.cell? ⟨b, o + i * 3 + m, none⟩ = some v) ∧ b < wx.heap.size from by
            obtain ⟨b9, o9, e9, hb9, h9⟩ := hx.at hlt
            cases e9
            exact ⟨h9, hb9⟩)
          have HXQ0 := Lib.hid (mem_bang2 hlt)
          have HXI0 := Lib.hid (map_bang hlt)
          generalize qs[i]! = q at HLQ HXQ0 HXI0
          obtain ⟨⟨ix, xb, xp⟩, ⟨xa, xn, xc⟩⟩ := q
          have HXQ := Lib.hid HXQ0.out
          have HXI := Lib.hid (show ((qs.map Prod.fst)[i]!) = (⟨ix, xb, xp⟩ : Wm) from HXI0.out)
          clear HXQ0 HXI0 hb
          by_cases hge : wi ≤ ix
          · have hge2 : ix ≥ wi := hge
            have HIX := Lib.hid (show i < (qs.map Prod.fst).length ∧ ((qs.map Prod.fst)[i]!) = (⟨ix, xb, xp⟩ : Wm) ∧ wi ≤ ix from ⟨by rw [List.length_map]; exact HLT.out, HXI.out, hge⟩)
            go_upto_region 8 with fail
            refine wp_region_xH (by kernel_rfl) (by kernel_rfl) (by kernel_rfl) (by kernel_rfl) (fun _ => False) (H) ?_
            clear H; intro w7 H hz0 hs0
            try clear C
            try simp only [World.size_alloc, List.nil_append, List.cons_append, List.append_assoc] at H hz0
            clear hz0
            try clear wr
            have C := H.cells
            try simp only [cellsOf, cellsM, apartOf, apartM, and_true] at C
            have Z := H.zs
            try simp only [ltsOf, ltsM, and_true] at Z
            have hz0 := Nat.le_refl w7.heap.size
            obtain ⟨hcq, hbq⟩ := HLQ.out _ (putM3 (H.at 3 rfl)).1.1.2.2.1
            have e0 : w7.cell? ⟨b, o + i * 3, none⟩ = some (.int .i64 ix) := hcq 0 _ rfl
            have e1 : w7.cell? ⟨b, o + i * 3 + 1, none⟩ = some (.slice xa xn xc) := hcq 1 _ rfl
            have e2 : w7.cell? ⟨b, o + i * 3 + 2, none⟩ = some (.bool xp) := hcq 2 _ rfl
            clear hcq
            repeat (first | (refine wpX_skip rfl ?_; go_simp) | (refine wpX_free rfl rfl rfl (fun K hK => ?_); go_step; refine hK _ _ ?_; clear hK K) | (refine wpX_load rfl rfl rfl (by simp [Stay, OneD, NoD, *]) hs0 (by simp [*]) (fun K hK => ?_); go_step; refine hK _ _ ?_; clear hK K))
            (refine wpX_nil ?_; go_step)
            clear e0 e1 e2 hbq
            go_upto_region 10 with fail
            skip
            cases po with
            | true =>
              have hbl : blankW (⟨wi, bs, true⟩ : Wm) = false := rfl
              have HBL := Lib.hid hbl
              clear hbl
              have hyb : ys.length ≤ 1003 := by have := HYB.out; omega
              go_wp2_with (at_builtin; go_loud (refine wpList_append_H rfl (.tmp 49) (.tmp 51) 31 rfl elemCw H.alloc 4 rfl rfl 5 rfl rfl rfl rfl (by decide) (by unfold maxLen; omega) (by omega) (fun gz9 cz9 w63 HZ => ?_)); clear H C; have C := HZ.cells; simp only [List.nil_append, List.cons_append, List.append_assoc, List.set_cons_succ, List.set_cons_zero] at C; simp only [cellsOf, cellsM, apartOf, apartM, and_true] at C)
              simp only [List.set_cons_succ, List.set_cons_zero, List.nil_append, List.cons_append, List.append_assoc] at HZ
              have H9 := HS.less (L' := [.blk b2 #[.int .i64 s0, .int .i64 s1, .int .i64 s2, .int .i64 s3, .int .i64 s4, .int .i64 s5, .int .i64 kd, .int .i64 dt, .int .i64 ck, .int .i64 fx, .slice (some ⟨b, o, none⟩) qs.length pc, .slice ra fs.length rc] 34, .blk b3 #[.int .i64 wi, .slice sz bs.length cz, .bool true] 50, .blk b4 #[.int .i64 0, .int .i64 0, .int .i64 0, .int .i64 0, .int .i64 0, .int .i64 0, .int .i64 0, .int .i64 0, .int .i64 0, .int .i64 0, .slice none 0 0, .slice none 0 0] 34, Item.many [.any F (fun w => CwLie w ⟨some ⟨b, o, none⟩, qs.length, pc⟩ qs ∧ BytesAt w ⟨sz, bs.length, cz⟩ bs), rowCf ra fs.length rc fs], rowCw (some ⟨gz9, 0, none⟩) (ys.length + 1) cz9 (ys ++ [((⟨wi, bs, true⟩ : Wm), (⟨sz, bs.length, cz⟩ : Sv))])]) HZ (by
                dsimp only [rowCw]
                rw [List.flatMap_append]
                repeat (first | exact .slnil | refine .cons_cons _ ?_ | refine .cons _ ?_))
              clear HZ C
              generalize hys9 : ys ++ [((⟨wi, bs, true⟩ : Wm), (⟨sz, bs.length, cz⟩ : Sv))] = ys2 at H9
              have hyl9 : ys.length + 1 = ys2.length := by rw [← hys9, List.length_append]; rfl
              rw [hyl9] at H9
              try rw [hyl9]
              have HY9ys2 := Lib.hid hys9
              have HYLys2 := Lib.hid hyl9
              clear hys9 hyl9 hyb
              skip
              have H := H9
              clear H9
              try clear C
              try simp only [World.size_alloc, List.nil_append, List.cons_append, List.append_assoc] at H
              have C := H.cells
              try simp only [cellsOf, cellsM, apartOf, apartM, and_true] at C
              have HSR2 := Lib.hid (show ∀ q ∈ ys2, q ∈ qs ∨ q = ((⟨wi, bs, true⟩ : Wm), (⟨sz, bs.length, cz⟩ : Sv)) from fun q hq => by rw [← HY9ys2.out] at hq; rcases List.mem_append.1 hq with h9 | h9; exact HSR.out q h9; cases List.mem_singleton.1 h9; exact .inr rfl)
              go_upto_region 12 with fail
              skip
              by_cases heq : ix = wi
              · have HE := Lib.hid heq
                have hne : (ix != wi) = false := by rw [heq]; simp
                refine wp_region_xH (by kernel_rfl) (by kernel_rfl) (by kernel_rfl) (by kernel_rfl) (fun _ => False) (H) ?_
                clear H; intro w8 H hz0 hs0
                try clear C
                try simp only [World.size_alloc, List.nil_append, List.cons_append, List.append_assoc] at H hz0
                clear hz0
                try clear w63
                have C := H.cells
                try simp only [cellsOf, cellsM, apartOf, apartM, and_true] at C
                have Z := H.zs
                try simp only [ltsOf, ltsM, and_true] at Z
                have hz0 := Nat.le_refl w8.heap.size
                obtain ⟨hcq, hbq⟩ := HLQ.out _ (putM3 (H.at 3 rfl)).1.1.2.2.1
                have e0 : w8.cell? ⟨b, o + i * 3, none⟩ = some (.int .i64 ix) := hcq 0 _ rfl
                have e1 : w8.cell? ⟨b, o + i * 3 + 1, none⟩ = some (.slice xa xn xc) := hcq 1 _ rfl
                have e2 : w8.cell? ⟨b, o + i * 3 + 2, none⟩ = some (.bool xp) := hcq 2 _ rfl
                clear hcq
                repeat (first | (refine wpX_skip rfl ?_; go_simp) | (refine wpX_free rfl rfl rfl (fun K hK => ?_); go_step; refine hK _ _ ?_; clear hK K) | (refine wpX_load rfl rfl rfl (by simp [Stay, OneD, NoD, *]) hs0 (by simp [*]) (fun K hK => ?_); go_step; refine hK _ _ ?_; clear hK K))
                (refine wpX_nil ?_; go_step)
                clear e0 e1 e2 hbq
                go_wp2_with fail
                go_roundw
                case rel => exact ⟨i + 1, _, _, ys2, true, by go_num, rfl, rfl, by have := HIL.out; omega, ⟨fun e => (by cases e), by have := HYB.out; have := HYLys2.out; have := HYE.out; omega⟩, (show Hid _ from (by rw [← HY9ys2.out, List.map_append]; exact HPI.out.putWeq HIX.out HBL.out HE.out)), (show Hid _ from HSR2.out), H⟩
                case measure => first | (simp [intOf]; done) | (simp [intOf]; have := HIL.out; omega)
              · have HG := Lib.hid (show wi < ix by omega)
                have hne : (ix != wi) = true := bne_iff_ne.2 heq
                skip
                refine wp_region_xH (by kernel_rfl) (by kernel_rfl) (by kernel_rfl) (by kernel_rfl) (fun _ => False) (H) ?_
                clear H; intro w9 H hz0 hs0
                try clear C
                try simp only [World.size_alloc, List.nil_append, List.cons_append, List.append_assoc] at H hz0
                clear hz0
                try clear w63
                have C := H.cells
                try simp only [cellsOf, cellsM, apartOf, apartM, and_true] at C
                have Z := H.zs
                try simp only [ltsOf, ltsM, and_true] at Z
                have hz0 := Nat.le_refl w9.heap.size
                obtain ⟨hcq, hbq⟩ := HLQ.out _ (putM3 (H.at 3 rfl)).1.1.2.2.1
                have e0 : w9.cell? ⟨b, o + i * 3, none⟩ = some (.int .i64 ix) := hcq 0 _ rfl
                have e1 : w9.cell? ⟨b, o + i * 3 + 1, none⟩ = some (.slice xa xn xc) := hcq 1 _ rfl
                have e2 : w9.cell? ⟨b, o + i * 3 + 2, none⟩ = some (.bool xp) := hcq 2 _ rfl
                clear hcq
                repeat (first | (refine wpX_skip rfl ?_; go_simp) | (refine wpX_free rfl rfl rfl (fun K hK => ?_); go_step; refine hK _ _ ?_; clear hK K) | (refine wpX_load rfl rfl rfl (by simp [Stay, OneD, NoD, *]) hs0 (by simp [*]) (fun K hK => ?_); go_step; refine hK _ _ ?_; clear hK K))
                (refine wpX_nil ?_; go_step)
                clear e0 e1 e2 hbq
                obtain ⟨hcq, hbq⟩ := HLQ.out _ (putM3 (H.at 3 rfl)).1.1.2.2.1
                have e0 : w9.cell? ⟨b, o + i * 3, none⟩ = some (.int .i64 ix) := hcq 0 _ rfl
                have e1 : w9.cell? ⟨b, o + i * 3 + 1, none⟩ = some (.slice xa xn xc) := hcq 1 _ rfl
                have e2 : w9.cell? ⟨b, o + i * 3 + 2, none⟩ = some (.bool xp) := hcq 2 _ rfl
                have n1 : (b = w9.heap.size) = False := eq_false (by omega)
                have n2 : (w9.heap.size = b) = False := eq_false (by omega)
                clear hcq
                have hyb : ys2.length ≤ 1003 := by have := HYB.out; have := HYLys2.out; omega
                go_wp2_with (at_builtin; go_loud (refine wpList_append_H rfl (.tmp 69) (.tmp 75) 31 rfl elemCw H.alloc 4 rfl rfl 5 rfl rfl rfl rfl (by decide) (by unfold maxLen; omega) (by omega) (fun gz9 cz9 w64 HZ => ?_)); clear H C; have C := HZ.cells; simp only [List.nil_append, List.cons_append, List.append_assoc, List.set_cons_succ, List.set_cons_zero] at C; simp only [cellsOf, cellsM, apartOf, apartM, and_true] at C)
                simp only [List.set_cons_succ, List.set_cons_zero, List.nil_append, List.cons_append, List.append_assoc] at HZ
                have H9 := HS.less (L' := [.blk b2 #[.int .i64 s0, .int .i64 s1, .int .i64 s2, .int .i64 s3, .int .i64 s4, .int .i64 s5, .int .i64 kd, .int .i64 dt, .int .i64 ck, .int .i64 fx, .slice (some ⟨b, o, none⟩) qs.length pc, .slice ra fs.length rc] 34, .blk b3 #[.int .i64 wi, .slice sz bs.length cz, .bool true] 50, .blk b4 #[.int .i64 0, .int .i64 0, .int .i64 0, .int .i64 0, .int .i64 0, .int .i64 0, .int .i64 0, .int .i64 0, .int .i64 0, .int .i64 0, .slice none 0 0, .slice none 0 0] 34, Item.many [.any F (fun w => CwLie w ⟨some ⟨b, o, none⟩, qs.length, pc⟩ qs ∧ BytesAt w ⟨sz, bs.length, cz⟩ bs), rowCf ra fs.length rc fs], rowCw (some ⟨gz9, 0, none⟩) (ys2.length + 1) cz9 (ys2 ++ [((⟨ix, xb, xp⟩ : Wm), (⟨xa, xn, xc⟩ : Sv))])]) HZ (by
                  dsimp only [rowCw]
                  rw [List.flatMap_append]
                  repeat (first | exact .slnil | refine .cons_cons _ ?_ | refine .cons _ ?_))
                clear HZ C e0 e1 e2 n1 n2 hbq
                generalize hys9 : ys2 ++ [((⟨ix, xb, xp⟩ : Wm), (⟨xa, xn, xc⟩ : Sv))] = ys3 at H9
                have hyl9 : ys2.length + 1 = ys3.length := by rw [← hys9, List.length_append]; rfl
                rw [hyl9] at H9
                try rw [hyl9]
                have HY9ys3 := Lib.hid hys9
                have HYLys3 := Lib.hid hyl9
                clear hys9 hyl9 hyb
                skip
                have H := H9
                clear H9
                try clear C
                try simp only [World.size_alloc, List.nil_append, List.cons_append, List.append_assoc] at H
                have C := H.cells
                try simp only [cellsOf, cellsM, apartOf, apartM, and_true] at C
                go_wp2_with fail
                go_roundw
                case rel => exact ⟨i + 1, _, _, ys3, true, by go_num, rfl, rfl, by have := HIL.out; omega, ⟨fun e => (by cases e), by have := HYLys3.out; have := HYB.out; have := HYLys2.out; have := HYE.out; omega⟩, (show Hid _ from (by rw [← HY9ys3.out, ← HY9ys2.out, List.map_append, List.map_append]; exact HPI.out.putWgt HIX.out HBL.out HG.out)), (show Hid _ from fun q hq => by rw [← HY9ys3.out] at hq; rcases List.mem_append.1 hq with h9 | h9; exact HSR2.out q h9; cases List.mem_singleton.1 h9; exact .inl HXQ.out), H⟩
                case measure => first | (simp [intOf]; done) | (simp [intOf]; have := HIL.out; omega)
            | false =>
              skip
              go_wp2_with fail
              refine (HZB.out _ (putM3 (H.at 3 rfl)).2).mono ?_
              rintro _ w59 ⟨rfl, hb9⟩
              replace H := H.below hb9
              clear hb9
              skip
              try clear C
              try simp only [World.size_alloc, List.nil_append, List.cons_append, List.append_assoc] at H
              have C := H.cells
              try simp only [cellsOf, cellsM, apartOf, apartM, and_true] at C
              skip
              cases hzz : zeroB bs with
              | true =>
                have HBL := Lib.hid (show blankW (⟨wi, bs, false⟩ : Wm) = true by unfold blankW; rw [hzz]; rfl)
                clear hzz
                go_upto_region 12 with fail
                skip
                by_cases heq : ix = wi
                · have HE := Lib.hid heq
                  have hne : (ix != wi) = false := by rw [heq]; simp
                  refine wp_region_xH (by kernel_rfl) (by kernel_rfl) (by kernel_rfl) (by kernel_rfl) (fun _ => False) (H) ?_
                  clear H; intro w10 H hz0 hs0
                  try clear C
                  try simp only [World.size_alloc, List.nil_append, List.cons_append, List.append_assoc] at H hz0
                  clear hz0
                  try clear w59
                  have C := H.cells
                  try simp only [cellsOf, cellsM, apartOf, apartM, and_true] at C
                  have Z := H.zs
                  try simp only [ltsOf, ltsM, and_true] at Z
                  have hz0 := Nat.le_refl w10.heap.size
                  obtain ⟨hcq, hbq⟩ := HLQ.out _ (putM3 (H.at 3 rfl)).1.1.2.2.1
                  have e0 : w10.cell? ⟨b, o + i * 3, none⟩ = some (.int .i64 ix) := hcq 0 _ rfl
                  have e1 : w10.cell? ⟨b, o + i * 3 + 1, none⟩ = some (.slice xa xn xc) := hcq 1 _ rfl
                  have e2 : w10.cell? ⟨b, o + i * 3 + 2, none⟩ = some (.bool xp) := hcq 2 _ rfl
                  clear hcq
                  repeat (first | (refine wpX_skip rfl ?_; go_simp) | (refine wpX_free rfl rfl rfl (fun K hK => ?_); go_step; refine hK _ _ ?_; clear hK K) | (refine wpX_load rfl rfl rfl (by simp [Stay, OneD, NoD, *]) hs0 (by simp [*]) (fun K hK => ?_); go_step; refine hK _ _ ?_; clear hK K))
                  (refine wpX_nil ?_; go_step)
                  clear e0 e1 e2 hbq
                  go_wp2_with fail
                  go_roundw
                  case rel => exact ⟨i + 1, _, _, ys, true, by go_num, rfl, rfl, by have := HIL.out; omega, ⟨fun e => (by cases e), by have := HYB.out; omega⟩, (show Hid _ from HPI.out.putBeq HIX.out HBL.out HE.out), (show Hid _ from HSR.out), H⟩
                  case measure => first | (simp [intOf]; done) | (simp [intOf]; have := HIL.out; omega)
                · have HG := Lib.hid (show wi < ix by omega)
                  have hne : (ix != wi) = true := bne_iff_ne.2 heq
                  skip
                  refine wp_region_xH (by kernel_rfl) (by kernel_rfl) (by kernel_rfl) (by kernel_rfl) (fun _ => False) (H) ?_
                  clear H; intro w11 H hz0 hs0
                  try clear C
                  try simp only [World.size_alloc, List.nil_append, List.cons_append, List.append_assoc] at H hz0
                  clear hz0
                  try clear w59
                  have C := H.cells
                  try simp only [cellsOf, cellsM, apartOf, apartM, and_true] at C
                  have Z := H.zs
                  try simp only [ltsOf, ltsM, and_true] at Z
                  have hz0 := Nat.le_refl w11.heap.size
                  obtain ⟨hcq, hbq⟩ := HLQ.out _ (putM3 (H.at 3 rfl)).1.1.2.2.1
                  have e0 : w11.cell? ⟨b, o + i * 3, none⟩ = some (.int .i64 ix) := hcq 0 _ rfl
                  have e1 : w11.cell? ⟨b, o + i * 3 + 1, none⟩ = some (.slice xa xn xc) := hcq 1 _ rfl
                  have e2 : w11.cell? ⟨b, o + i * 3 + 2, none⟩ = some (.bool xp) := hcq 2 _ rfl
                  clear hcq
                  repeat (first | (refine wpX_skip rfl ?_; go_simp) | (refine wpX_free rfl rfl rfl (fun K hK => ?_); go_step; refine hK _ _ ?_; clear hK K) | (refine wpX_load rfl rfl rfl (by simp [Stay, OneD, NoD, *]) hs0 (by simp [*]) (fun K hK => ?_); go_step; refine hK _ _ ?_; clear hK K))
                  (refine wpX_nil ?_; go_step)
                  clear e0 e1 e2 hbq
                  obtain ⟨hcq, hbq⟩ := HLQ.out _ (putM3 (H.at 3 rfl)).1.1.2.2.1
                  have e0 : w11.cell? ⟨b, o + i * 3, none⟩ = some (.int .i64 ix) := hcq 0 _ rfl
                  have e1 : w11.cell? ⟨b, o + i * 3 + 1, none⟩ = some (.slice xa xn xc) := hcq 1 _ rfl
                  have e2 : w11.cell? ⟨b, o + i * 3 + 2, none⟩ = some (.bool xp) := hcq 2 _ rfl
                  have n1 : (b = w11.heap.size) = False := eq_false (by omega)
                  have n2 : (w11.heap.size = b) = False := eq_false (by omega)
                  clear hcq
                  have hyb : ys.length ≤ 1003 := by have := HYB.out; omega
                  go_wp2_with (at_builtin; go_loud (refine wpList_append_H rfl (.tmp 69) (.tmp 75) 31 rfl elemCw H.alloc 4 rfl rfl 5 rfl rfl rfl rfl (by decide) (by unfold maxLen; omega) (by omega) (fun gz9 cz9 w65 HZ => ?_)); clear H C; have C := HZ.cells; simp only [List.nil_append, List.cons_append, List.append_assoc, List.set_cons_succ, List.set_cons_zero] at C; simp only [cellsOf, cellsM, apartOf, apartM, and_true] at C)
                  simp only [List.set_cons_succ, List.set_cons_zero, List.nil_append, List.cons_append, List.append_assoc] at HZ
                  have H9 := HS.less (L' := [.blk b2 #[.int .i64 s0, .int .i64 s1, .int .i64 s2, .int .i64 s3, .int .i64 s4, .int .i64 s5, .int .i64 kd, .int .i64 dt, .int .i64 ck, .int .i64 fx, .slice (some ⟨b, o, none⟩) qs.length pc, .slice ra fs.length rc] 34, .blk b3 #[.int .i64 wi, .slice sz bs.length cz, .bool false] 50, .blk b4 #[.int .i64 0, .int .i64 0, .int .i64 0, .int .i64 0, .int .i64 0, .int .i64 0, .int .i64 0, .int .i64 0, .int .i64 0, .int .i64 0, .slice none 0 0, .slice none 0 0] 34, Item.many [.any F (fun w => CwLie w ⟨some ⟨b, o, none⟩, qs.length, pc⟩ qs ∧ BytesAt w ⟨sz, bs.length, cz⟩ bs), rowCf ra fs.length rc fs], rowCw (some ⟨gz9, 0, none⟩) (ys.length + 1) cz9 (ys ++ [((⟨ix, xb, xp⟩ : Wm), (⟨xa, xn, xc⟩ : Sv))])]) HZ (by
                    dsimp only [rowCw]
                    rw [List.flatMap_append]
                    repeat (first | exact .slnil | refine .cons_cons _ ?_ | refine .cons _ ?_))
                  clear HZ C e0 e1 e2 n1 n2 hbq
                  generalize hys9 : ys ++ [((⟨ix, xb, xp⟩ : Wm), (⟨xa, xn, xc⟩ : Sv))] = ys3 at H9
                  have hyl9 : ys.length + 1 = ys3.length := by rw [← hys9, List.length_append]; rfl
                  rw [hyl9] at H9
                  try rw [hyl9]
                  have HY9ys3 := Lib.hid hys9
                  have HYLys3 := Lib.hid hyl9
                  clear hys9 hyl9 hyb
                  skip
                  have H := H9
                  clear H9
                  try clear C
                  try simp only [World.size_alloc, List.nil_append, List.cons_append, List.append_assoc] at H
                  have C := H.cells
                  try simp only [cellsOf, cellsM, apartOf, apartM, and_true] at C
                  go_wp2_with fail
                  go_roundw
                  case rel => exact ⟨i + 1, _, _, ys3, true, by go_num, rfl, rfl, by have := HIL.out; omega, ⟨fun e => (by cases e), by have := HYLys3.out; have := HYB.out; have := HYE.out; omega⟩, (show Hid _ from (by rw [← HY9ys3.out, List.map_append]; exact HPI.out.putBgt HIX.out HBL.out HG.out)), (show Hid _ from fun q hq => by rw [← HY9ys3.out] at hq; rcases List.mem_append.1 hq with h9 | h9; exact HSR.out q h9; cases List.mem_singleton.1 h9; exact .inl HXQ.out), H⟩
                  case measure => first | (simp [intOf]; done) | (simp [intOf]; have := HIL.out; omega)
              | false =>
                skip
                have HBL := Lib.hid (show blankW (⟨wi, bs, false⟩ : Wm) = false by unfold blankW; rw [hzz]; rfl)
                clear hzz
                have hyb : ys.length ≤ 1003 := by have := HYB.out; omega
                go_wp2_with (at_builtin; go_loud (refine wpList_append_H rfl (.tmp 49) (.tmp 51) 31 rfl elemCw H.alloc 4 rfl rfl 5 rfl rfl rfl rfl (by decide) (by unfold maxLen; omega) (by omega) (fun gz9 cz9 w66 HZ => ?_)); clear H C; have C := HZ.cells; simp only [List.nil_append, List.cons_append, List.append_assoc, List.set_cons_succ, List.set_cons_zero] at C; simp only [cellsOf, cellsM, apartOf, apartM, and_true] at C)
                simp only [List.set_cons_succ, List.set_cons_zero, List.nil_append, List.cons_append, List.append_assoc] at HZ
                have H9 := HS.less (L' := [.blk b2 #[.int .i64 s0, .int .i64 s1, .int .i64 s2, .int .i64 s3, .int .i64 s4, .int .i64 s5, .int .i64 kd, .int .i64 dt, .int .i64 ck, .int .i64 fx, .slice (some ⟨b, o, none⟩) qs.length pc, .slice ra fs.length rc] 34, .blk b3 #[.int .i64 wi, .slice sz bs.length cz, .bool false] 50, .blk b4 #[.int .i64 0, .int .i64 0, .int .i64 0, .int .i64 0, .int .i64 0, .int .i64 0, .int .i64 0, .int .i64 0, .int .i64 0, .int .i64 0, .slice none 0 0, .slice none 0 0] 34, Item.many [.any F (fun w => CwLie w ⟨some ⟨b, o, none⟩, qs.length, pc⟩ qs ∧ BytesAt w ⟨sz, bs.length, cz⟩ bs), rowCf ra fs.length rc fs], rowCw (some ⟨gz9, 0, none⟩) (ys.length + 1) cz9 (ys ++ [((⟨wi, bs, false⟩ : Wm), (⟨sz, bs.length, cz⟩ : Sv))])]) HZ (by
                  dsimp only [rowCw]
                  rw [List.flatMap_append]
                  repeat (first | exact .slnil | refine .cons_cons _ ?_ | refine .cons _ ?_))
                clear HZ C
                generalize hys9 : ys ++ [((⟨wi, bs, false⟩ : Wm), (⟨sz, bs.length, cz⟩ : Sv))] = ys2 at H9
                have hyl9 : ys.length + 1 = ys2.length := by rw [← hys9, List.length_append]; rfl
                rw [hyl9] at H9
                try rw [hyl9]
                have HY9ys2 := Lib.hid hys9
                have HYLys2 := Lib.hid hyl9
                clear hys9 hyl9 hyb
                skip
                have H := H9
                clear H9
                try clear C
                try simp only [World.size_alloc, List.nil_append, List.cons_append, List.append_assoc] at H
                have C := H.cells
                try simp only [cellsOf, cellsM, apartOf, apartM, and_true] at C
                have HSR2 := Lib.hid (show ∀ q ∈ ys2, q ∈ qs ∨ q = ((⟨wi, bs, false⟩ : Wm), (⟨sz, bs.length, cz⟩ : Sv)) from fun q hq => by rw [← HY9ys2.out] at hq; rcases List.mem_append.1 hq with h9 | h9; exact HSR.out q h9; cases List.mem_singleton.1 h9; exact .inr rfl)
                go_upto_region 12 with fail
                skip
                by_cases heq : ix = wi
                · have HE := Lib.hid heq
                  have hne : (ix != wi) = false := by rw [heq]; simp
                  refine wp_region_xH (by kernel_rfl) (by kernel_rfl) (by kernel_rfl) (by kernel_rfl) (fun _ => False) (H) ?_
                  clear H; intro w12 H hz0 hs0
                  try clear C
                  try simp only [World.size_alloc, List.nil_append, List.cons_append, List.append_assoc] at H hz0
                  clear hz0
                  try clear w66
                  have C := H.cells
                  try simp only [cellsOf, cellsM, apartOf, apartM, and_true] at C
                  have Z := H.zs
                  try simp only [ltsOf, ltsM, and_true] at Z
                  have hz0 := Nat.le_refl w12.heap.size
                  obtain ⟨hcq, hbq⟩ := HLQ.out _ (putM3 (H.at 3 rfl)).1.1.2.2.1
                  have e0 : w12.cell? ⟨b, o + i * 3, none⟩ = some (.int .i64 ix) := hcq 0 _ rfl
                  have e1 : w12.cell? ⟨b, o + i * 3 + 1, none⟩ = some (.slice xa xn xc) := hcq 1 _ rfl
                  have e2 : w12.cell? ⟨b, o + i * 3 + 2, none⟩ = some (.bool xp) := hcq 2 _ rfl
                  clear hcq
                  repeat (first | (refine wpX_skip rfl ?_; go_simp) | (refine wpX_free rfl rfl rfl (fun K hK => ?_); go_step; refine hK _ _ ?_; clear hK K) | (refine wpX_load rfl rfl rfl (by simp [Stay, OneD, NoD, *]) hs0 (by simp [*]) (fun K hK => ?_); go_step; refine hK _ _ ?_; clear hK K))
                  (refine wpX_nil ?_; go_step)
                  clear e0 e1 e2 hbq
                  go_wp2_with fail
                  go_roundw
                  case rel => exact ⟨i + 1, _, _, ys2, true, by go_num, rfl, rfl, by have := HIL.out; omega, ⟨fun e => (by cases e), by have := HYB.out; have := HYLys2.out; have := HYE.out; omega⟩, (show Hid _ from (by rw [← HY9ys2.out, List.map_append]; exact HPI.out.putWeq HIX.out HBL.out HE.out)), (show Hid _ from HSR2.out), H⟩
                  case measure => first | (simp [intOf]; done) | (simp [intOf]; have := HIL.out; omega)
                · have HG := Lib.hid (show wi < ix by omega)
                  have hne : (ix != wi) = true := bne_iff_ne.2 heq
                  skip
                  refine wp_region_xH (by kernel_rfl) (by kernel_rfl) (by kernel_rfl) (by kernel_rfl) (fun _ => False) (H) ?_
                  clear H; intro w13 H hz0 hs0
                  try clear C
                  try simp only [World.size_alloc, List.nil_append, List.cons_append, List.append_assoc] at H hz0
                  clear hz0
                  try clear w66
                  have C := H.cells
                  try simp only [cellsOf, cellsM, apartOf, apartM, and_true] at C
                  have Z := H.zs
                  try simp only [ltsOf, ltsM, and_true] at Z
                  have hz0 := Nat.le_refl w13.heap.size
                  obtain ⟨hcq, hbq⟩ := HLQ.out _ (putM3 (H.at 3 rfl)).1.1.2.2.1
                  have e0 : w13.cell? ⟨b, o + i * 3, none⟩ = some (.int .i64 ix) := hcq 0 _ rfl
                  have e1 : w13.cell? ⟨b, o + i * 3 + 1, none⟩ = some (.slice xa xn xc) := hcq 1 _ rfl
                  have e2 : w13.cell? ⟨b, o + i * 3 + 2, none⟩ = some (.bool xp) := hcq 2 _ rfl
                  clear hcq
                  repeat (first | (refine wpX_skip rfl ?_; go_simp) | (refine wpX_free rfl rfl rfl (fun K hK => ?_); go_step; refine hK _ _ ?_; clear hK K) | (refine wpX_load rfl rfl rfl (by simp [Stay, OneD, NoD, *]) hs0 (by simp [*]) (fun K hK => ?_); go_step; refine hK _ _ ?_; clear hK K))
                  (refine wpX_nil ?_; go_step)
                  clear e0 e1 e2 hbq
                  obtain ⟨hcq, hbq⟩ := HLQ.out _ (putM3 (H.at 3 rfl)).1.1.2.2.1
                  have e0 : w13.cell? ⟨b, o + i * 3, none⟩ = some (.int .i64 ix) := hcq 0 _ rfl
                  have e1 : w13.cell? ⟨b, o + i * 3 + 1, none⟩ = some (.slice xa xn xc) := hcq 1 _ rfl
                  have e2 : w13.cell? ⟨b, o + i * 3 + 2, none⟩ = some (.bool xp) := hcq 2 _ rfl
                  have n1 : (b = w13.heap.size) = False := eq_false (by omega)
                  have n2 : (w13.heap.size = b) = False := eq_false (by omega)
                  clear hcq
                  have hyb : ys2.length ≤ 1003 := by have := HYB.out; have := HYLys2.out; omega
                  go_wp2_with (at_builtin; go_loud (refine wpList_append_H rfl (.tmp 69) (.tmp 75) 31 rfl elemCw H.alloc 4 rfl rfl 5 rfl rfl rfl rfl (by decide) (by unfold maxLen; omega) (by omega) (fun gz9 cz9 w67 HZ => ?_)); clear H C; have C := HZ.cells; simp only [List.nil_append, List.cons_append, List.append_assoc, List.set_cons_succ, List.set_cons_zero] at C; simp only [cellsOf, cellsM, apartOf, apartM, and_true] at C)
                  simp only [List.set_cons_succ, List.set_cons_zero, List.nil_append, List.cons_append, List.append_assoc] at HZ
                  have H9 := HS.less (L' := [.blk b2 #[.int .i64 s0, .int .i64 s1, .int .i64 s2, .int .i64 s3, .int .i64 s4, .int .i64 s5, .int .i64 kd, .int .i64 dt, .int .i64 ck, .int .i64 fx, .slice (some ⟨b, o, none⟩) qs.length pc, .slice ra fs.length rc] 34, .blk b3 #[.int .i64 wi, .slice sz bs.length cz, .bool false] 50, .blk b4 #[.int .i64 0, .int .i64 0, .int .i64 0, .int .i64 0, .int .i64 0, .int .i64 0, .int .i64 0, .int .i64 0, .int .i64 0, .int .i64 0, .slice none 0 0, .slice none 0 0] 34, Item.many [.any F (fun w => CwLie w ⟨some ⟨b, o, none⟩, qs.length, pc⟩ qs ∧ BytesAt w ⟨sz, bs.length, cz⟩ bs), rowCf ra fs.length rc fs], rowCw (some ⟨gz9, 0, none⟩) (ys2.length + 1) cz9 (ys2 ++ [((⟨ix, xb, xp⟩ : Wm), (⟨xa, xn, xc⟩ : Sv))])]) HZ (by
                    dsimp only [rowCw]
                    rw [List.flatMap_append]
                    repeat (first | exact .slnil | refine .cons_cons _ ?_ | refine .cons _ ?_))
                  clear HZ C e0 e1 e2 n1 n2 hbq
                  generalize hys9 : ys2 ++ [((⟨ix, xb, xp⟩ : Wm), (⟨xa, xn, xc⟩ : Sv))] = ys3 at H9
                  have hyl9 : ys2.length + 1 = ys3.length := by rw [← hys9, List.length_append]; rfl
                  rw [hyl9] at H9
                  try rw [hyl9]
                  have HY9ys3 := Lib.hid hys9
                  have HYLys3 := Lib.hid hyl9
                  clear hys9 hyl9 hyb
                  skip
                  have H := H9
                  clear H9
                  try clear C
                  try simp only [World.size_alloc, List.nil_append, List.cons_append, List.append_assoc] at H
                  have C := H.cells
                  try simp only [cellsOf, cellsM, apartOf, apartM, and_true] at C
                  go_wp2_with fail
                  go_roundw
                  case rel => exact ⟨i + 1, _, _, ys3, true, by go_num, rfl, rfl, by have := HIL.out; omega, ⟨fun e => (by cases e), by have := HYLys3.out; have := HYB.out; have := HYLys2.out; have := HYE.out; omega⟩, (show Hid _ from (by rw [← HY9ys3.out, ← HY9ys2.out, List.map_append, List.map_append]; exact HPI.out.putWgt HIX.out HBL.out HG.out)), (show Hid _ from fun q hq => by rw [← HY9ys3.out] at hq; rcases List.mem_append.1 hq with h9 | h9; exact HSR2.out q h9; cases List.mem_singleton.1 h9; exact .inl HXQ.out), H⟩
                  case measure => first | (simp [intOf]; done) | (simp [intOf]; have := HIL.out; omega)
          · have hge2 : ¬ ix ≥ wi := hge
            have hne : (ix != wi) = true := bne_iff_ne.2 (by omega)
            have HIX := Lib.hid (show i < (qs.map Prod.fst).length ∧ ((qs.map Prod.fst)[i]!) = (⟨ix, xb, xp⟩ : Wm) ∧ ix < wi from ⟨by rw [List.length_map]; exact HLT.out, HXI.out, by omega⟩)
            skip
            go_upto_region 8 with fail
            refine wp_region_xH (by kernel_rfl) (by kernel_rfl) (by kernel_rfl) (by kernel_rfl) (fun _ => False) (H) ?_
            clear H; intro w14 H hz0 hs0
            try clear C
            try simp only [World.size_alloc, List.nil_append, List.cons_append, List.append_assoc] at H hz0
            clear hz0
            try clear wr
            have C := H.cells
            try simp only [cellsOf, cellsM, apartOf, apartM, and_true] at C
            have Z := H.zs
            try simp only [ltsOf, ltsM, and_true] at Z
            have hz0 := Nat.le_refl w14.heap.size
            obtain ⟨hcq, hbq⟩ := HLQ.out _ (putM3 (H.at 3 rfl)).1.1.2.2.1
            have e0 : w14.cell? ⟨b, o + i * 3, none⟩ = some (.int .i64 ix) := hcq 0 _ rfl
            have e1 : w14.cell? ⟨b, o + i * 3 + 1, none⟩ = some (.slice xa xn xc) := hcq 1 _ rfl
            have e2 : w14.cell? ⟨b, o + i * 3 + 2, none⟩ = some (.bool xp) := hcq 2 _ rfl
            clear hcq
            repeat (first | (refine wpX_skip rfl ?_; go_simp) | (refine wpX_free rfl rfl rfl (fun K hK => ?_); go_step; refine hK _ _ ?_; clear hK K) | (refine wpX_load rfl rfl rfl (by simp [Stay, OneD, NoD, *]) hs0 (by simp [*]) (fun K hK => ?_); go_step; refine hK _ _ ?_; clear hK K))
            (refine wpX_nil ?_; go_step)
            clear e0 e1 e2 hbq
            go_upto_region 12 with fail
            refine wp_region_xH (by kernel_rfl) (by kernel_rfl) (by kernel_rfl) (by kernel_rfl) (fun _ => False) (H) ?_
            clear H; intro w15 H hz0 hs0
            try clear C
            try simp only [World.size_alloc, List.nil_append, List.cons_append, List.append_assoc] at H hz0
            clear hz0
            try clear w14
            have C := H.cells
            try simp only [cellsOf, cellsM, apartOf, apartM, and_true] at C
            have Z := H.zs
            try simp only [ltsOf, ltsM, and_true] at Z
            have hz0 := Nat.le_refl w15.heap.size
            obtain ⟨hcq, hbq⟩ := HLQ.out _ (putM3 (H.at 3 rfl)).1.1.2.2.1
            have e0 : w15.cell? ⟨b, o + i * 3, none⟩ = some (.int .i64 ix) := hcq 0 _ rfl
            have e1 : w15.cell? ⟨b, o + i * 3 + 1, none⟩ = some (.slice xa xn xc) := hcq 1 _ rfl
            have e2 : w15.cell? ⟨b, o + i * 3 + 2, none⟩ = some (.bool xp) := hcq 2 _ rfl
            clear hcq
            repeat (first | (refine wpX_skip rfl ?_; go_simp) | (refine wpX_free rfl rfl rfl (fun K hK => ?_); go_step; refine hK _ _ ?_; clear hK K) | (refine wpX_load rfl rfl rfl (by simp [Stay, OneD, NoD, *]) hs0 (by simp [*]) (fun K hK => ?_); go_step; refine hK _ _ ?_; clear hK K))
            (refine wpX_nil ?_; go_step)
            clear e0 e1 e2 hbq
            obtain ⟨hcq, hbq⟩ := HLQ.out _ (putM3 (H.at 3 rfl)).1.1.2.2.1
            have e0 : w15.cell? ⟨b, o + i * 3, none⟩ = some (.int .i64 ix) := hcq 0 _ rfl
            have e1 : w15.cell? ⟨b, o + i * 3 + 1, none⟩ = some (.slice xa xn xc) := hcq 1 _ rfl
            have e2 : w15.cell? ⟨b, o + i * 3 + 2, none⟩ = some (.bool xp) := hcq 2 _ rfl
            have n1 : (b = w15.heap.size) = False := eq_false (by omega)
            have n2 : (w15.heap.size = b) = False := eq_false (by omega)
            clear hcq
            have hyb : ys.length ≤ 1003 := by have := HYB.out; omega
            go_wp2_with (at_builtin; go_loud (refine wpList_append_H rfl (.tmp 69) (.tmp 75) 31 rfl elemCw H.alloc 4 rfl rfl 5 rfl rfl rfl rfl (by decide) (by unfold maxLen; omega) (by omega) (fun gz9 cz9 w61 HZ => ?_)); clear H C; have C := HZ.cells; simp only [List.nil_append, List.cons_append, List.append_assoc, List.set_cons_succ, List.set_cons_zero] at C; simp only [cellsOf, cellsM, apartOf, apartM, and_true] at C)
            simp only [List.set_cons_succ, List.set_cons_zero, List.nil_append, List.cons_append, List.append_assoc] at HZ
            have H9 := HS.less (L' := [.blk b2 #[.int .i64 s0, .int .i64 s1, .int .i64 s2, .int .i64 s3, .int .i64 s4, .int .i64 s5, .int .i64 kd, .int .i64 dt, .int .i64 ck, .int .i64 fx, .slice (some ⟨b, o, none⟩) qs.length pc, .slice ra fs.length rc] 34, .blk b3 #[.int .i64 wi, .slice sz bs.length cz, .bool po] 50, .blk b4 #[.int .i64 0, .int .i64 0, .int .i64 0, .int .i64 0, .int .i64 0, .int .i64 0, .int .i64 0, .int .i64 0, .int .i64 0, .int .i64 0, .slice none 0 0, .slice none 0 0] 34, Item.many [.any F (fun w => CwLie w ⟨some ⟨b, o, none⟩, qs.length, pc⟩ qs ∧ BytesAt w ⟨sz, bs.length, cz⟩ bs), rowCf ra fs.length rc fs], rowCw (some ⟨gz9, 0, none⟩) (ys.length + 1) cz9 (ys ++ [((⟨ix, xb, xp⟩ : Wm), (⟨xa, xn, xc⟩ : Sv))])]) HZ (by
              dsimp only [rowCw]
              rw [List.flatMap_append]
              repeat (first | exact .slnil | refine .cons_cons _ ?_ | refine .cons _ ?_))
            clear HZ C e0 e1 e2 n1 n2 hbq
            generalize hys9 : ys ++ [((⟨ix, xb, xp⟩ : Wm), (⟨xa, xn, xc⟩ : Sv))] = ys2 at H9
            have hyl9 : ys.length + 1 = ys2.length := by rw [← hys9, List.length_append]; rfl
            rw [hyl9] at H9
            try rw [hyl9]
            have HY9ys2 := Lib.hid hys9
            have HYLys2 := Lib.hid hyl9
            clear hys9 hyl9 hyb
            skip
            have H := H9
            clear H9
            try clear C
            try simp only [World.size_alloc, List.nil_append, List.cons_append, List.append_assoc] at H
            have C := H.cells
            try simp only [cellsOf, cellsM, apartOf, apartM, and_true] at C
            go_wp2_with fail
            go_roundw
            case rel => exact ⟨i + 1, _, _, ys2, false, by go_num, rfl, rfl, by have := HIL.out; omega, ⟨fun _ => (by have := HYLys2.out; have := HYE.out; omega), by have := HYLys2.out; have := HYB.out; omega⟩, (show Hid _ from (by rw [← HY9ys2.out, List.map_append]; exact HPI.out.below HIX.out)), (show Hid _ from fun q hq => by rw [← HY9ys2.out] at hq; rcases List.mem_append.1 hq with h9 | h9; exact HSR.out q h9; cases List.mem_singleton.1 h9; exact .inl HXQ.out), H⟩
            case measure => first | (simp [intOf]; done) | (simp [intOf]; have := HIL.out; omega)
        · obtain rfl : i = qs.length := by omega
          have HILE := Lib.hid (show (qs.map Prod.fst).length ≤ qs.length by rw [List.length_map]; exact Nat.le_refl _)
          skip
          go_upto_region 8 with fail
          refine wp_region_xH (by kernel_rfl) (by kernel_rfl) (by kernel_rfl) (by kernel_rfl) (fun _ => False) (H) ?_
          clear H; intro w16 H hz0 hs0
          try clear C
          try simp only [World.size_alloc, List.nil_append, List.cons_append, List.append_assoc] at H hz0
          clear hz0
          try clear wr
          have C := H.cells
          try simp only [cellsOf, cellsM, apartOf, apartM, and_true] at C
          have Z := H.zs
          try simp only [ltsOf, ltsM, and_true] at Z
          have hz0 := Nat.le_refl w16.heap.size
          repeat (first | (refine wpX_skip rfl ?_; go_simp) | (refine wpX_free rfl rfl rfl (fun K hK => ?_); go_step; refine hK _ _ ?_; clear hK K) | (refine wpX_load rfl rfl rfl (by simp [Stay, OneD, NoD, *]) hs0 (by simp [*]) (fun K hK => ?_); go_step; refine hK _ _ ?_; clear hK K))
          (refine wpX_nil ?_; go_step)
          go_upto_region 10 with fail
          skip
          cases po with
          | true =>
            have hbl : blankW (⟨wi, bs, true⟩ : Wm) = false := rfl
            have HBL := Lib.hid hbl
            clear hbl
            have hyb : ys.length ≤ 1003 := by have := HYB.out; omega
            go_wp2_with (at_builtin; go_loud (refine wpList_append_H rfl (.tmp 49) (.tmp 51) 31 rfl elemCw H.alloc 4 rfl rfl 5 rfl rfl rfl rfl (by decide) (by unfold maxLen; omega) (by omega) (fun gz9 cz9 w68 HZ => ?_)); clear H C; have C := HZ.cells; simp only [List.nil_append, List.cons_append, List.append_assoc, List.set_cons_succ, List.set_cons_zero] at C; simp only [cellsOf, cellsM, apartOf, apartM, and_true] at C)
            simp only [List.set_cons_succ, List.set_cons_zero, List.nil_append, List.cons_append, List.append_assoc] at HZ
            have H9 := HS.less (L' := [.blk b2 #[.int .i64 s0, .int .i64 s1, .int .i64 s2, .int .i64 s3, .int .i64 s4, .int .i64 s5, .int .i64 kd, .int .i64 dt, .int .i64 ck, .int .i64 fx, .slice pa qs.length pc, .slice ra fs.length rc] 34, .blk b3 #[.int .i64 wi, .slice sz bs.length cz, .bool true] 50, .blk b4 #[.int .i64 0, .int .i64 0, .int .i64 0, .int .i64 0, .int .i64 0, .int .i64 0, .int .i64 0, .int .i64 0, .int .i64 0, .int .i64 0, .slice none 0 0, .slice none 0 0] 34, Item.many [.any F (fun w => CwLie w ⟨pa, qs.length, pc⟩ qs ∧ BytesAt w ⟨sz, bs.length, cz⟩ bs), rowCf ra fs.length rc fs], rowCw (some ⟨gz9, 0, none⟩) (ys.length + 1) cz9 (ys ++ [((⟨wi, bs, true⟩ : Wm), (⟨sz, bs.length, cz⟩ : Sv))])]) HZ (by
              dsimp only [rowCw]
              rw [List.flatMap_append]
              repeat (first | exact .slnil | refine .cons_cons _ ?_ | refine .cons _ ?_))
            clear HZ C
            generalize hys9 : ys ++ [((⟨wi, bs, true⟩ : Wm), (⟨sz, bs.length, cz⟩ : Sv))] = ys2 at H9
            have hyl9 : ys.length + 1 = ys2.length := by rw [← hys9, List.length_append]; rfl
            rw [hyl9] at H9
            try rw [hyl9]
            have HY9ys2 := Lib.hid hys9
            have HYLys2 := Lib.hid hyl9
            clear hys9 hyl9 hyb
            skip
            have H := H9
            clear H9
            try clear C
            try simp only [World.size_alloc, List.nil_append, List.cons_append, List.append_assoc] at H
            have C := H.cells
            try simp only [cellsOf, cellsM, apartOf, apartM, and_true] at C
            have HSR2 := Lib.hid (show ∀ q ∈ ys2, q ∈ qs ∨ q = ((⟨wi, bs, true⟩ : Wm), (⟨sz, bs.length, cz⟩ : Sv)) from fun q hq => by rw [← HY9ys2.out] at hq; rcases List.mem_append.1 hq with h9 | h9; exact HSR.out q h9; cases List.mem_singleton.1 h9; exact .inr rfl)
            go_upto_region 12 with fail
            refine wp_region_xH (by kernel_rfl) (by kernel_rfl) (by kernel_rfl) (by kernel_rfl) (fun _ => False) (H) ?_
            clear H; intro w17 H hz0 hs0
            try clear C
            try simp only [World.size_alloc, List.nil_append, List.cons_append, List.append_assoc] at H hz0
            clear hz0
            try clear w68
            have C := H.cells
            try simp only [cellsOf, cellsM, apartOf, apartM, and_true] at C
            have Z := H.zs
            try simp only [ltsOf, ltsM, and_true] at Z
            have hz0 := Nat.le_refl w17.heap.size
            repeat (first | (refine wpX_skip rfl ?_; go_simp) | (refine wpX_free rfl rfl rfl (fun K hK => ?_); go_step; refine hK _ _ ?_; clear hK K) | (refine wpX_load rfl rfl rfl (by simp [Stay, OneD, NoD, *]) hs0 (by simp [*]) (fun K hK => ?_); go_step; refine hK _ _ ?_; clear hK K))
            (refine wpX_nil ?_; go_step)
            go_wp2_with fail
            go_roundw
            case rel => exact ⟨qs.length + 1, _, _, ys2, true, by go_num, rfl, rfl, by have := HIL.out; omega, ⟨fun e => (by cases e), by have := HYB.out; have := HYLys2.out; have := HYE.out; omega⟩, (show Hid _ from (by rw [← HY9ys2.out, List.map_append]; exact HPI.out.putW (.inr HILE.out) HBL.out)), (show Hid _ from fun q hq => by rw [← HY9ys2.out] at hq; rcases List.mem_append.1 hq with h9 | h9; exact HSR.out q h9; cases List.mem_singleton.1 h9; exact .inr rfl), H⟩
            case measure => first | (simp [intOf]; done) | (simp [intOf]; have := HIL.out; omega)
          | false =>
            skip
            go_wp2_with fail
            refine (HZB.out _ (putM3 (H.at 3 rfl)).2).mono ?_
            rintro _ w59 ⟨rfl, hb9⟩
            replace H := H.below hb9
            clear hb9
            skip
            try clear C
            try simp only [World.size_alloc, List.nil_append, List.cons_append, List.append_assoc] at H
            have C := H.cells
            try simp only [cellsOf, cellsM, apartOf, apartM, and_true] at C
            skip
            cases hzz : zeroB bs with
            | true =>
              have HBL := Lib.hid (show blankW (⟨wi, bs, false⟩ : Wm) = true by unfold blankW; rw [hzz]; rfl)
              clear hzz
              go_upto_region 12 with fail
              refine wp_region_xH (by kernel_rfl) (by kernel_rfl) (by kernel_rfl) (by kernel_rfl) (fun _ => False) (H) ?_
              clear H; intro w18 H hz0 hs0
              try clear C
              try simp only [World.size_alloc, List.nil_append, List.cons_append, List.append_assoc] at H hz0
              clear hz0
              try clear w59
              have C := H.cells
              try simp only [cellsOf, cellsM, apartOf, apartM, and_true] at C
              have Z := H.zs
              try simp only [ltsOf, ltsM, and_true] at Z
              have hz0 := Nat.le_refl w18.heap.size
              repeat (first | (refine wpX_skip rfl ?_; go_simp) | (refine wpX_free rfl rfl rfl (fun K hK => ?_); go_step; refine hK _ _ ?_; clear hK K) | (refine wpX_load rfl rfl rfl (by simp [Stay, OneD, NoD, *]) hs0 (by simp [*]) (fun K hK => ?_); go_step; refine hK _ _ ?_; clear hK K))
              (refine wpX_nil ?_; go_step)
              go_wp2_with fail
              go_roundw
              case rel => exact ⟨qs.length + 1, _, _, ys, true, by go_num, rfl, rfl, by have := HIL.out; omega, ⟨fun e => (by cases e), by have := HYB.out; omega⟩, (show Hid _ from HPI.out.putB (.inr HILE.out) HBL.out), (show Hid _ from HSR.out), H⟩
              case measure => first | (simp [intOf]; done) | (simp [intOf]; have := HIL.out; omega)
            | false =>
              skip
              have HBL := Lib.hid (show blankW (⟨wi, bs, false⟩ : Wm) = false by unfold blankW; rw [hzz]; rfl)
              clear hzz
              have hyb : ys.length ≤ 1003 := by have := HYB.out; omega
              go_wp2_with (at_builtin; go_loud (refine wpList_append_H rfl (.tmp 49) (.tmp 51) 31 rfl elemCw H.alloc 4 rfl rfl 5 rfl rfl rfl rfl (by decide) (by unfold maxLen; omega) (by omega) (fun gz9 cz9 w69 HZ => ?_)); clear H C; have C := HZ.cells; simp only [List.nil_append, List.cons_append, List.append_assoc, List.set_cons_succ, List.set_cons_zero] at C; simp only [cellsOf, cellsM, apartOf, apartM, and_true] at C)
              simp only [List.set_cons_succ, List.set_cons_zero, List.nil_append, List.cons_append, List.append_assoc] at HZ
              have H9 := HS.less (L' := [.blk b2 #[.int .i64 s0, .int .i64 s1, .int .i64 s2, .int .i64 s3, .int .i64 s4, .int .i64 s5, .int .i64 kd, .int .i64 dt, .int .i64 ck, .int .i64 fx, .slice pa qs.length pc, .slice ra fs.length rc] 34, .blk b3 #[.int .i64 wi, .slice sz bs.length cz, .bool false] 50, .blk b4 #[.int .i64 0, .int .i64 0, .int .i64 0, .int .i64 0, .int .i64 0, .int .i64 0, .int .i64 0, .int .i64 0, .int .i64 0, .int .i64 0, .slice none 0 0, .slice none 0 0] 34, Item.many [.any F (fun w => CwLie w ⟨pa, qs.length, pc⟩ qs ∧ BytesAt w ⟨sz, bs.length, cz⟩ bs), rowCf ra fs.length rc fs], rowCw (some ⟨gz9, 0, none⟩) (ys.length + 1) cz9 (ys ++ [((⟨wi, bs, false⟩ : Wm), (⟨sz, bs.length, cz⟩ : Sv))])]) HZ (by
                dsimp only [rowCw]
                rw [List.flatMap_append]
                repeat (first | exact .slnil | refine .cons_cons _ ?_ | refine .cons _ ?_))
              clear HZ C
              generalize hys9 : ys ++ [((⟨wi, bs, false⟩ : Wm), (⟨sz, bs.length, cz⟩ : Sv))] = ys2 at H9
              have hyl9 : ys.length + 1 = ys2.length := by rw [← hys9, List.length_append]; rfl
              rw [hyl9] at H9
              try rw [hyl9]
              have HY9ys2 := Lib.hid hys9
              have HYLys2 := Lib.hid hyl9
              clear hys9 hyl9 hyb
              skip
              have H := H9
              clear H9
              try clear C
              try simp only [World.size_alloc, List.nil_append, List.cons_append, List.append_assoc] at H
              have C := H.cells
              try simp only [cellsOf, cellsM, apartOf, apartM, and_true] at C
              have HSR2 := Lib.hid (show ∀ q ∈ ys2, q ∈ qs ∨ q = ((⟨wi, bs, false⟩ : Wm), (⟨sz, bs.length, cz⟩ : Sv)) from fun q hq => by rw [← HY9ys2.out] at hq; rcases List.mem_append.1 hq with h9 | h9; exact HSR.out q h9; cases List.mem_singleton.1 h9; exact .inr rfl)
              go_upto_region 12 with fail
              refine wp_region_xH (by kernel_rfl) (by kernel_rfl) (by kernel_rfl) (by kernel_rfl) (fun _ => False) (H) ?_
              clear H; intro w19 H hz0 hs0
              try clear C
              try simp only [World.size_alloc, List.nil_append, List.cons_append, List.append_assoc] at H hz0
              clear hz0
              try clear w69
              have C := H.cells
              try simp only [cellsOf, cellsM, apartOf, apartM, and_true] at C
              have Z := H.zs
              try simp only [ltsOf, ltsM, and_true] at Z
              have hz0 := Nat.le_refl w19.heap.size
              repeat (first | (refine wpX_skip rfl ?_; go_simp) | (refine wpX_free rfl rfl rfl (fun K hK => ?_); go_step; refine hK _ _ ?_; clear hK K) | (refine wpX_load rfl rfl rfl (by simp [Stay, OneD, NoD, *]) hs0 (by simp [*]) (fun K hK => ?_); go_step; refine hK _ _ ?_; clear hK K))
              (refine wpX_nil ?_; go_step)
              go_wp2_with fail
              go_roundw
              case rel => exact ⟨qs.length + 1, _, _, ys2, true, by go_num, rfl, rfl, by have := HIL.out; omega, ⟨fun e => (by cases e), by have := HYB.out; have := HYLys2.out; have := HYE.out; omega⟩, (show Hid _ from (by rw [← HY9ys2.out, List.map_append]; exact HPI.out.putW (.inr HILE.out) HBL.out)), (show Hid _ from fun q hq => by rw [← HY9ys2.out] at hq; rcases List.mem_append.1 hq with h9 | h9; exact HSR.out q h9; cases List.mem_singleton.1 h9; exact .inr rfl), H⟩
              case measure => first | (simp [intOf]; done) | (simp [intOf]; have := HIL.out; omega)
    · obtain rfl : i = qs.length + 1 := by omega
      have HYS := Lib.hid (HPI.out.done (by rw [List.length_map]; omega))
      skip
      go_upto_region 15 with fail
      generalize hwb : World.setCell _ _ _ = w24
      replace H := HS.eqW hwb (H.setTo (o := 10) (v := .slice s ys.length c) 0 rfl rfl)
      clear hwb C
      simp only [List.set_cons_succ, List.set_cons_zero] at H
      skip
      try clear C
      try simp only [World.size_alloc, List.nil_append, List.cons_append, List.append_assoc] at H
      have C := H.cells
      try simp only [cellsOf, cellsM, apartOf, apartM, and_true] at C
      go_wp2_with fail
      generalize hwb : (((((((((((w24.setCell _ _).setCell _ _).setCell _ _).setCell _ _).setCell _ _).setCell _ _).setCell _ _).setCell _ _).setCell _ _).setCell _ _).setCell _ _).setCell _ _ = w20
      replace H := HS.eqW hwb (H.putAll (i := 2) rfl (vs := [.int .i64 s0, .int .i64 s1, .int .i64 s2, .int .i64 s3, .int .i64 s4, .int .i64 s5, .int .i64 kd, .int .i64 dt, .int .i64 ck, .int .i64 fx, .slice s ys.length c, .slice ra fs.length rc]) rfl rfl)
      simp only [List.nil_append, List.cons_append, List.append_assoc, List.set_cons_succ, List.set_cons_zero] at H
      clear hwb
      try clear C
      try clear w24
      have C := H.cells
      try simp only [cellsOf, cellsM, apartOf, apartM, and_true] at C
      refine bodyPost_ret (by simp [results, Tryd.results71, go_sem, C]; try rfl) rfl ?_
      have H9 := HS.less (L' := [Item.many [.any F (fun w => CwLie w ⟨pa, qs.length, pc⟩ qs ∧ BytesAt w ⟨sz, bs.length, cz⟩ bs), rowCf ra fs.length rc fs], rowCw s ys.length c ys]) H (by repeat (first | exact .slnil | refine .cons_cons _ ?_ | refine .cons _ ?_))
      have H8 := HS.ofMany (L := [_]) (H9.permu (L' := [_, _]) (List.Perm.swap _ _ _))
      have H7 := HS.less (L' := [_, _, _]) (H8.last 1 rfl) (List.Sublist.refl _)
      have H6 := HS.weak (L := [_, _]) H7 (K' := fun w => CwOk w ys) (fun w' h q hq => by
        rcases HSR.out q hq with h9 | h9
        · exact h.1.2.2.2 q h9
        · rw [h9]; exact h.2)
      have H5 := H6.permu (L' := [_, _, _]) (.cons _ (List.Perm.swap _ _ _))
      exact ⟨s, c, ra, rc, ys, _, HYS.out, rfl, H5⟩
theorem put13_any (M : Mm) (x y : Sv) (hs : SmallM M) (hso : M.ws.Pairwise (fun x y => x.ix < y.ix)) (m : Wm) (z : Sv) (hz : m.bs.length ≤ 1000) (w : World) (h : MeAt w x y M) (hb : BytesAt w z m.bs) : Calls Tryd.prog 71 #[meV M x y, cwV m z] w (GivesMe (setWs M (putW M.ws m)) w) := (put13R_any M x y hs hso m z hz w h hb).mono fun _ _ h => h.me
end Go.Proofs.YtplflpmkomeadaaDoor
