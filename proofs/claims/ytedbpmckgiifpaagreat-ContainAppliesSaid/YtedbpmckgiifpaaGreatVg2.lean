/- Package owner: Valid, whatever the programs. -/
import Derived.Test.YtedbpmckgiifpaaGreatVg1
import Derived.Test.YtedbpmckgiifpaaGreatVld2
namespace Go.Proofs.YtedbpmckgiifpaaGreat
set_option linter.unusedSimpArgs false
set_option linter.unusedVariables false
open Go.RowKit
set_option maxRecDepth 100000
attribute [local go_sem] lt_more ne_more ne_more'
attribute [local go_sem] run_mkMapV
attribute [local irreducible] wpX wpF Calls

noncomputable def goodB (F : Int) (ps : List Pr) : Bool := @decide (GoodP F ps) (Classical.propDecidable _)
theorem goodB_t {F : Int} {ps : List Pr} (h : GoodP F ps) : goodB F ps = true := @decide_eq_true _ (Classical.propDecidable _) h
theorem goodB_f {F : Int} {ps : List Pr} (h : ¬ GoodP F ps) : goodB F ps = false := @decide_eq_false _ (Classical.propDecidable _) h
/-- The entries that were looked at are right. -/
def SeenOk (es : Array MapEntry) (seen : Array Nat) (fs : List Fv) : Prop := ∀ q ∈ fs, ∀ e ∈ es.toList, e.key = .int .i64 q.f → seen.contains e.born = true → FrOk q.l
theorem SeenOk.nil {es : Array MapEntry} {fs : List Fv} : SeenOk es #[] fs := fun q hq e he hk hs => by simp at hs
theorem SeenOk.all {es : Array MapEntry} {seen : Array Nat} {fs : List Fv} {clock : Nat} (h : SeenOk es seen fs) (hM : MapV es clock (mapOf fs)) (hd : ∀ e ∈ es.toList, seen.contains e.born = true) : ∀ q ∈ fs, FrOk q.l := fun q hq => by
  have h1 : ((.int .i64 q.f : Value), q.v) ∈ (mapOf fs).map (fun p => ((.int .i64 p.1 : Value), p.2)) := List.mem_map.2 ⟨(q.f, q.v), List.mem_map.2 ⟨q, hq, rfl⟩, rfl⟩
  rw [← hM.kv] at h1
  obtain ⟨e, he, hk⟩ := List.mem_map.1 h1
  exact h q hq e he (congrArg Prod.fst hk) (hd e he)
theorem nodup_same {α β : Type} {f : α → β} : ∀ {l : List α}, (l.map f).Nodup → ∀ {a b : α}, a ∈ l → b ∈ l → f a = f b → a = b
  | [], _, _, _, h, _, _ => absurd h List.not_mem_nil
  | x :: l, hn, a, b, ha, hb, e => by
    rw [List.map_cons, List.nodup_cons] at hn
    rcases List.mem_cons.1 ha with h1 | h1
    · rcases List.mem_cons.1 hb with h2 | h2
      · rw [h1, h2]
      · exact absurd (show f x ∈ List.map f l from List.mem_map.2 ⟨b, h2, by rw [← h1]; exact e.symm⟩) hn.1
    · rcases List.mem_cons.1 hb with h2 | h2
      · exact absurd (show f x ∈ List.map f l from List.mem_map.2 ⟨a, h1, by rw [← h2]; exact e⟩) hn.1
      · exact nodup_same hn.2 h1 h2 e
theorem SeenOk.push {es : Array MapEntry} {seen : Array Nat} {fs : List Fv} {clock : Nat} {M : List (Int × Value)} {A : List Pg} (h : SeenOk es seen fs) (hM : MapV es clock M) (hq : QOk fs A) {e : MapEntry} (he : e ∈ es.toList) {q : Fv} (hqm : q ∈ fs) (hk : e.key = .int .i64 q.f) (hok : FrOk q.l) : SeenOk es (seen.push e.born) fs := fun q' hq' e' he' hk' hs => by
  have : seen.contains e'.born = true ∨ e'.born = e.born := by
    have := hs
    simp [Array.mem_push] at this ⊢
    rcases this with h | h
    · first | exact .inl h | exact .inr h
    · first | exact .inl h | exact .inr h
  rcases this with h1 | h1
  · exact h q' hq' e' he' hk' h1
  · have e1 := nodup_same hM.nodup he' he h1
    subst e1
    have e2 : q'.f = q.f := by
      have := hk'.symm.trans hk
      injection this
    have e3 := nodup_same hq.nodup hq' hqm e2
    rw [e3]; exact hok
set_option maxHeartbeats 16000000 in
theorem ovalid_gen {F : Int} {v : Value} {ps : List Pr} (hsm : SmallP ps) (w : World) (hl : Ps w w.heap.size v ps) :
    Calls Tryz.prog 43 #[v, .int .i64 F] w (Gives (.bool (goodB F ps)) w) := by
  have HT : Tryz.prog.underlying 96 = some (.map 3 50) := by kernel_rfl
  have HK : Tryz.prog.underlying 3 = some (.int .i64) := by kernel_rfl
  have HE : ∀ w, (zeroValue 50).run Tryz.prog w = .ok (.slice none 0 0) w := fun w => by rfl
  obtain ⟨R, hR⟩ : ∃ R, R = goodB F ps := ⟨_, rfl⟩
  have HRT := Lib.hid (fun h => hR.trans (goodB_t (F := F) (ps := ps) h))
  have HRF := Lib.hid (fun h => hR.trans (goodB_f (F := F) (ps := ps) h))
  rw [← hR]
  clear hR
  obtain ⟨qs, hqs, ⟨sa, c, rfl, hc, hl⟩, hi⟩ := hl
  have hx0 : qs.length ≤ 1000 := by have := hsm.1; rw [← hqs] at this; simpa using this
  have HSM := Lib.hid (fun j => smallQ (j := j) hsm hqs)
  have HL := Lib.hid hl
  have HI := Lib.hid hi
  have HQS := Lib.hid hqs
  have hpl : ps.length = qs.length := by rw [← hqs]; simp
  have HPL := Lib.hid hpl
  clear hl hi hqs hc hsm hpl
  go_enter Tryz.func43, Tryz.ntmps43
  have H := HS.start NoD w
  go_upto_region 2 with fail
  generalize hwb : (w.alloc _) = wm
  replace H := HS.eqW hwb H.allocObj
  try simp only [World.size_alloc, List.nil_append, List.cons_append, List.append_assoc] at H
  clear hwb
  generalize w.heap.size = bm at H ⊢
  replace H := HS.toMany (L := [_]) (R := fvR []) H (fun A hA => by cases hA)
  simp only [List.nil_append, List.cons_append] at H
  skip
  try clear C
  try simp only [World.size_alloc, List.nil_append, List.cons_append, List.append_assoc] at H
  have C := H.cells
  try simp only [cellsOf, cellsM, apartOf, apartM, and_true] at C
  go_wp2_with fail
  go_loopw [15] (fun jj wr => ∃ (j : Nat) (es : Array MapEntry) (clock : Nat) (fs : List Fv), jj = .int .i64 j ∧ j ≤ qs.length ∧ Hid (MapV es clock (mapOf fs)) ∧ Hid (QOk fs (allPg (ps.take j))) ∧ Hid (OkPr F (ps.take j)) ∧ HS NoD w [.obj bm (.map es clock), Item.many (fvR fs)] wr) (fun jj _ => qs.length - (intOf jj).toNat)
  case atStart => exact ⟨0, #[], 0, [], rfl, Nat.zero_le _, MapV.nil, QOk.nil, OkPr.nil F, H⟩
  case round =>
    clear H C
    obtain ⟨j, es, clock, fs, rfl, hj, HM, HQ, HOP, H⟩ := hrel
    skip
    try clear C
    try simp only [World.size_alloc, List.nil_append, List.cons_append, List.append_assoc] at H
    have C := H.cells
    try simp only [cellsOf, cellsM, apartOf, apartM, and_true] at C
    by_cases hlt : j < qs.length
    · have HMM := HM
      clear HM
      obtain ⟨b, o, e0, hb, hc⟩ := (H.lies HL.out).at hlt
      cases e0
      have HM := Lib.hid (map_at hlt)
      have hpv := HI.out _ (mem_at hlt)
      obtain ⟨q, hxj⟩ : ∃ q, q = qs[j]! := ⟨_, rfl⟩
      rw [← hxj] at hc hpv
      have HX := Lib.hid hxj
      obtain ⟨⟨pi, pt, pd, pg, td⟩, pa, ta⟩ := q
      obtain ⟨⟨pb, pc, e1, hpc, hpl⟩, ⟨tb, tc, e2, htc, htl⟩⟩ := hpv
      have f1 : pa = .slice pb pg.length pc := e1
      have f2 : ta = .slice tb td.length tc := e2
      clear e1 e2
      subst f1 f2
      have HPG : Hid (Lies w w.heap.size pb 3 pg.length (fun j => pgC pg[j]!)) := hpl
      have HTD : Hid (Lies w w.heap.size tb 1 td.length (fun j => iC td[j]!)) := htl
      have HPC : Hid (pg.length ≤ pc ∧ (pb = none → pc = 0)) := hpc
      have HTC : Hid (td.length ≤ tc ∧ (tb = none → tc = 0)) := htc
      clear hpc htc
      clear hpl htl
      have c0 : wr.cell? ⟨b, o + j * 5, none⟩ = some (.int .i64 pi) := hc 0 _ rfl
      have c1 : wr.cell? ⟨b, o + j * 5 + 1, none⟩ = some (.bool pt) := hc 1 _ rfl
      have c2 : wr.cell? ⟨b, o + j * 5 + 2, none⟩ = some (.bool pd) := hc 2 _ rfl
      have c3 : wr.cell? ⟨b, o + j * 5 + 3, none⟩ = some (.slice pb pg.length pc) := hc 3 _ rfl
      have c4 : wr.cell? ⟨b, o + j * 5 + 4, none⟩ = some (.slice tb td.length tc) := hc 4 _ rfl
      clear hc hxj
      have HM0 := HM
      clear HM
      have HM := HMM
      clear HMM
      have hsm1 := HSM.out j hlt
      rw [← HX.out] at hsm1
      have hs1 : pg.length ≤ 1000 := hsm1.1
      have HSP := Lib.hid hsm1
      have hjp : j < ps.length := by rw [HPL.out]; exact hlt
      have hpe : ps[j]! = ⟨pi, pt, pd, pg, td⟩ := by rw [← HQS.out, HM0.out, ← HX.out]
      have HSUC := Lib.hid (allPg_succ hjp)
      rw [hpe] at HSUC
      dsimp only at HSUC
      have hok := okPr_succ hjp HOP.out
      rw [hpe] at hok
      have HOK := Lib.hid hok
      have HAJ : Hid ((allPg (ps.take j)).length ≤ 16000) := by
        have h1 := allPg_len HOP.out.one
        rw [List.length_take] at h1
        show (allPg (ps.take j)).length ≤ 16000
        omega
      clear hsm1 hpe hok
      go_upto_region 5 with fail
      clear c0 c1 c2 c3 c4
      generalize hwb : wr.alloc _ = w1
      replace H := HS.eqW hwb H.alloc
      try simp only [World.size_alloc, List.nil_append, List.cons_append, List.append_assoc] at H
      clear hwb
      generalize wr.heap.size = b7 at H ⊢
      try clear C
      try clear wr
      have C := H.cells
      try simp only [cellsOf, cellsM, apartOf, apartM, and_true] at C
      go_cut [38] from 20 to 37 (fun y wx => ∃ tt : Bool, y = .bool tt ∧ Hid (tt = false ↔ OkPr F (ps.take (j + 1))) ∧ HS NoD w [.obj bm (.map es clock), Item.many (fvR fs), .blk b7 #[.int .i64 pi, .bool pt, .bool pd, .slice pb pg.length pc, .slice tb td.length tc] 52] wx)
      case first =>
        have HV := Lib.hid (fun w h => ovalid1_gen (F := F) (q := ⟨⟨pi, pt, pd, pg, td⟩, .slice pb pg.length pc, .slice tb td.length tc⟩) HSP.out w h)
        by_cases hgd : Good1 F ⟨pi, pt, pd, pg, td⟩
        · rw [g1B_t hgd] at HV
          by_cases hj0 : j = 0
          · have HOK2 := Lib.hid (HOK.out.2 ⟨hgd, fun h => absurd h (by omega)⟩)
            have hgt : decide ((0 : Int) < (j : Int)) = false := decide_eq_false (by omega)
            have hgn : decide (0 < j) = false := decide_eq_false (by omega)
            clear hj0 hgd
            refine wp_region_xH (by kernel_rfl) (by kernel_rfl) (by kernel_rfl) (by kernel_rfl) (fun _ => False) (H) ?_
            clear H; intro w2 H hz0 hs0
            try clear C
            try simp only [World.size_alloc, List.nil_append, List.cons_append, List.append_assoc] at H hz0
            clear hz0
            try clear w1
            have C := H.cells
            try simp only [cellsOf, cellsM, apartOf, apartM, and_true] at C
            have Z := H.zs
            try simp only [ltsOf, ltsM, and_true] at Z
            have hz0 := Nat.le_refl w2.heap.size
            repeat (first | (refine wpX_skip rfl ?_; go_simp) | (refine wpX_free rfl rfl rfl (fun K hK => ?_); go_step; refine hK _ _ ?_; clear hK K) | (refine wpX_load rfl rfl rfl (by simp [Stay, OneD, NoD, *]) hs0 (by simp [*]) (fun K hK => ?_); go_step; refine hK _ _ ?_; clear hK K))
            refine wpX_eff rfl rfl (fun _ _ => ?_)
            go_step
            refine (HV.out _ ⟨⟨pb, pc, rfl, HPC.out, H.liesUp HPG.out⟩, ⟨tb, tc, rfl, HTC.out, H.liesUp HTD.out⟩⟩).mono ?_
            rintro _ w3 ⟨rfl, hb⟩
            replace hs0 := hs0.belowS hz0 hb
            replace hz0 := Nat.le_trans hz0 hb.size
            replace H := H.below hb
            clear hb
            try clear C
            have C := H.cells
            try simp only [cellsOf, cellsM, apartOf, apartM, and_true] at C
            try clear w2
            dsimp only
            go_step
            refine ⟨hs0, ?_⟩
            repeat (first | (refine wpX_skip rfl ?_; go_simp) | (refine wpX_free rfl rfl rfl (fun K hK => ?_); go_step; refine hK _ _ ?_; clear hK K) | (refine wpX_load rfl rfl rfl (by simp [Stay, OneD, NoD, *]) hs0 (by simp [*]) (fun K hK => ?_); go_step; refine hK _ _ ?_; clear hK K))
            (refine wpX_nil ?_; go_step)
            go_meet
            exact ⟨false, rfl, Lib.hid ⟨fun _ => HOK2.out, fun _ => rfl⟩, H⟩
          · have hgt : decide ((0 : Int) < (j : Int)) = true := decide_eq_true (by omega)
            have hgn : decide (0 < j) = true := decide_eq_true (by omega)
            have hjt : ((j : Int) - 1).toNat = j - 1 := by omega
            have hjb : (0 : Int) ≤ (j : Int) - 1 := by omega
            have hjl : (j : Int) - 1 < (qs.length : Int) := by omega
            have hml : j - 1 < qs.length := by omega
            obtain ⟨yi, hyi⟩ : ∃ y, y = (qs[j - 1]!).p.id := ⟨_, rfl⟩
            have HYI := Lib.hid hyi
            have HPJ : Hid ((ps[j - 1]!).id = yi) := by show _ = _; rw [← HQS.out, map_at hml, hyi]
            clear hyi
            by_cases hid : pi ≤ yi
            · skip
              have hge : decide (pi ≤ yi) = true := decide_eq_true hid
              have HOK2 := Lib.hid (show ¬ OkPr F (ps.take (j + 1)) from fun h => by have h1 := (HOK.out.1 h).2 (by omega); rw [HPJ.out] at h1; have h2 : yi < pi := h1; omega)
              clear hgd hj0 hid
              have hbB := hb
              skip
              refine wp_region_xH (by kernel_rfl) (by kernel_rfl) (by kernel_rfl) (by kernel_rfl) (fun _ => False) (H) ?_
              clear H; intro w4 H hz0 hs0
              try clear C
              try simp only [World.size_alloc, List.nil_append, List.cons_append, List.append_assoc] at H hz0
              clear hz0
              try clear w1
              have C := H.cells
              try simp only [cellsOf, cellsM, apartOf, apartM, and_true] at C
              have Z := H.zs
              try simp only [ltsOf, ltsM, and_true] at Z
              have hz0 := Nat.le_refl w4.heap.size
              have hbw : b < w4.heap.size := Nat.lt_of_lt_of_le hbB H.size
              repeat (first | (refine wpX_skip rfl ?_; go_simp) | (refine wpX_free rfl rfl rfl (fun K hK => ?_); go_step; refine hK _ _ ?_; clear hK K) | (refine wpX_load rfl rfl rfl (by simp [Stay, OneD, NoD, *]) hs0 (by simp [*]) (fun K hK => ?_); go_step; refine hK _ _ ?_; clear hK K))
              refine wpX_eff rfl rfl (fun _ _ => ?_)
              go_step
              refine (HV.out _ ⟨⟨pb, pc, rfl, HPC.out, H.liesUp HPG.out⟩, ⟨tb, tc, rfl, HTC.out, H.liesUp HTD.out⟩⟩).mono ?_
              rintro _ w5 ⟨rfl, hb⟩
              replace hs0 := hs0.belowS hz0 hb
              replace hz0 := Nat.le_trans hz0 hb.size
              replace H := H.below hb
              clear hb
              try clear C
              have C := H.cells
              try simp only [cellsOf, cellsM, apartOf, apartM, and_true] at C
              try clear w4
              dsimp only
              go_step
              refine ⟨hs0, ?_⟩
              have d3 : w5.cell? ⟨b, o + (j - 1) * 5, none⟩ = some (.int .i64 yi) := by
                obtain ⟨bh, oh, e8, hbh, hch⟩ := (H.lies HL.out).at hml
                obtain ⟨rfl, rfl⟩ : bh = b ∧ oh = o := by simpa using e8.symm
                rw [HYI.out]
                exact hch 0 _ rfl
              repeat (first | (refine wpX_skip rfl ?_; go_simp) | (refine wpX_free rfl rfl rfl (fun K hK => ?_); go_step; refine hK _ _ ?_; clear hK K) | (refine wpX_load rfl rfl rfl (by simp [Stay, OneD, NoD, *]) hs0 (by simp [*]) (fun K hK => ?_); go_step; refine hK _ _ ?_; clear hK K))
              (refine wpX_nil ?_; go_step)
              go_step
              go_meet
              exact ⟨true, rfl, Lib.hid ⟨(fun h => by cases h), fun h => absurd h HOK2.out⟩, H⟩
            · skip
              have hge : decide (pi ≤ yi) = false := decide_eq_false (by omega)
              have HOK2 := Lib.hid (HOK.out.2 ⟨hgd, fun _ => by rw [HPJ.out]; show yi < pi; omega⟩)
              clear hgd hj0 hid
              have hbB := hb
              skip
              refine wp_region_xH (by kernel_rfl) (by kernel_rfl) (by kernel_rfl) (by kernel_rfl) (fun _ => False) (H) ?_
              clear H; intro w6 H hz0 hs0
              try clear C
              try simp only [World.size_alloc, List.nil_append, List.cons_append, List.append_assoc] at H hz0
              clear hz0
              try clear w1
              have C := H.cells
              try simp only [cellsOf, cellsM, apartOf, apartM, and_true] at C
              have Z := H.zs
              try simp only [ltsOf, ltsM, and_true] at Z
              have hz0 := Nat.le_refl w6.heap.size
              have hbw : b < w6.heap.size := Nat.lt_of_lt_of_le hbB H.size
              repeat (first | (refine wpX_skip rfl ?_; go_simp) | (refine wpX_free rfl rfl rfl (fun K hK => ?_); go_step; refine hK _ _ ?_; clear hK K) | (refine wpX_load rfl rfl rfl (by simp [Stay, OneD, NoD, *]) hs0 (by simp [*]) (fun K hK => ?_); go_step; refine hK _ _ ?_; clear hK K))
              refine wpX_eff rfl rfl (fun _ _ => ?_)
              go_step
              refine (HV.out _ ⟨⟨pb, pc, rfl, HPC.out, H.liesUp HPG.out⟩, ⟨tb, tc, rfl, HTC.out, H.liesUp HTD.out⟩⟩).mono ?_
              rintro _ w7 ⟨rfl, hb⟩
              replace hs0 := hs0.belowS hz0 hb
              replace hz0 := Nat.le_trans hz0 hb.size
              replace H := H.below hb
              clear hb
              try clear C
              have C := H.cells
              try simp only [cellsOf, cellsM, apartOf, apartM, and_true] at C
              try clear w6
              dsimp only
              go_step
              refine ⟨hs0, ?_⟩
              have d3 : w7.cell? ⟨b, o + (j - 1) * 5, none⟩ = some (.int .i64 yi) := by
                obtain ⟨bh, oh, e8, hbh, hch⟩ := (H.lies HL.out).at hml
                obtain ⟨rfl, rfl⟩ : bh = b ∧ oh = o := by simpa using e8.symm
                rw [HYI.out]
                exact hch 0 _ rfl
              repeat (first | (refine wpX_skip rfl ?_; go_simp) | (refine wpX_free rfl rfl rfl (fun K hK => ?_); go_step; refine hK _ _ ?_; clear hK K) | (refine wpX_load rfl rfl rfl (by simp [Stay, OneD, NoD, *]) hs0 (by simp [*]) (fun K hK => ?_); go_step; refine hK _ _ ?_; clear hK K))
              (refine wpX_nil ?_; go_step)
              go_step
              go_meet
              exact ⟨false, rfl, Lib.hid ⟨fun _ => HOK2.out, fun _ => rfl⟩, H⟩
        · rw [g1B_f hgd] at HV
          have HOK2 := Lib.hid (fun h => hgd (HOK.out.1 h).1)
          clear hgd
          skip
          refine wp_region_xH (by kernel_rfl) (by kernel_rfl) (by kernel_rfl) (by kernel_rfl) (fun _ => False) (H) ?_
          clear H; intro w8 H hz0 hs0
          try clear C
          try simp only [World.size_alloc, List.nil_append, List.cons_append, List.append_assoc] at H hz0
          clear hz0
          try clear w1
          have C := H.cells
          try simp only [cellsOf, cellsM, apartOf, apartM, and_true] at C
          have Z := H.zs
          try simp only [ltsOf, ltsM, and_true] at Z
          have hz0 := Nat.le_refl w8.heap.size
          repeat (first | (refine wpX_skip rfl ?_; go_simp) | (refine wpX_free rfl rfl rfl (fun K hK => ?_); go_step; refine hK _ _ ?_; clear hK K) | (refine wpX_load rfl rfl rfl (by simp [Stay, OneD, NoD, *]) hs0 (by simp [*]) (fun K hK => ?_); go_step; refine hK _ _ ?_; clear hK K))
          refine wpX_eff rfl rfl (fun _ _ => ?_)
          go_step
          refine (HV.out _ ⟨⟨pb, pc, rfl, HPC.out, H.liesUp HPG.out⟩, ⟨tb, tc, rfl, HTC.out, H.liesUp HTD.out⟩⟩).mono ?_
          rintro _ w9 ⟨rfl, hb⟩
          replace hs0 := hs0.belowS hz0 hb
          replace hz0 := Nat.le_trans hz0 hb.size
          replace H := H.below hb
          clear hb
          try clear C
          have C := H.cells
          try simp only [cellsOf, cellsM, apartOf, apartM, and_true] at C
          try clear w8
          dsimp only
          go_step
          refine ⟨hs0, ?_⟩
          repeat (first | (refine wpX_skip rfl ?_; go_simp) | (refine wpX_free rfl rfl rfl (fun K hK => ?_); go_step; refine hK _ _ ?_; clear hK K) | (refine wpX_load rfl rfl rfl (by simp [Stay, OneD, NoD, *]) hs0 (by simp [*]) (fun K hK => ?_); go_step; refine hK _ _ ?_; clear hK K))
          (refine wpX_nil ?_; go_step)
          go_meet
          exact ⟨true, rfl, Lib.hid ⟨(fun h => by cases h), fun h => absurd h HOK2.out⟩, H⟩
      case rest =>
        clear H C
        obtain ⟨tt, rfl, HTT, H⟩ := hcut
        skip
        try clear C
        try simp only [World.size_alloc, List.nil_append, List.cons_append, List.append_assoc] at H
        have C := H.cells
        try simp only [cellsOf, cellsM, apartOf, apartM, and_true] at C
        cases tt with
        | true =>
          have HF9 := Lib.hid (HRF.out (fun g => by have := HTT.out.2 (g.okPr.take _); cases this))
          go_wp2_with fail
          go_ret
          exact ⟨by rw [HF9.out]; rfl, H.done⟩
        | false =>
        have HOP2 := Lib.hid (HTT.out.1 rfl)
        have hp16 : pg.length ≤ 16 := (HOK.out.1 HOP2.out).1.plen
        skip
        go_wp2_with fail
        go_loopw [42] (fun kk wr => ∃ (k : Nat) (es : Array MapEntry) (clock : Nat) (fs : List Fv), kk = .int .i64 k ∧ k ≤ pg.length ∧ Hid (MapV es clock (mapOf fs)) ∧ Hid (QOk fs (allPg (ps.take j) ++ pg.take k)) ∧ HS NoD w [.obj bm (.map es clock), .blk b7 #[.int .i64 pi, .bool pt, .bool pd, .slice pb pg.length pc, .slice tb td.length tc] 52, Item.many (fvR fs)] wr) (fun kk _ => pg.length - (intOf kk).toNat)
        case atStart => exact ⟨0, es, clock, fs, rfl, Nat.zero_le _, HM.out, by rw [List.take_zero, List.append_nil]; exact HQ.out, H.permu (List.Perm.cons _ (List.Perm.swap _ _ _))⟩
        case round =>
          clear H C HM HQ es clock fs
          obtain ⟨k, es, clock, fs, rfl, hk, HM, HQ, H⟩ := hrel
          skip
          try clear C
          try simp only [World.size_alloc, List.nil_append, List.cons_append, List.append_assoc] at H
          have C := H.cells
          try simp only [cellsOf, cellsM, apartOf, apartM, and_true] at C
          by_cases hlk : k < pg.length
          · obtain ⟨bg, og, e9, hbg, hcg⟩ := (H.lies HPG.out).at hlk
            obtain rfl : pb = some ⟨bg, og, none⟩ := e9
            obtain ⟨xo, hxo⟩ : ∃ x, x = pg[k]! := ⟨_, rfl⟩
            rw [← hxo] at hcg
            have HTK := Lib.hid (show allPg (ps.take j) ++ pg.take (k + 1) = allPg (ps.take j) ++ pg.take k ++ [xo] by rw [take_snoc hlk, hxo, List.append_assoc])
            have hAl : (allPg (ps.take j) ++ pg.take k).length ≤ 17000 := by
              have h1 := HAJ.out
              rw [List.length_append, List.length_take]
              omega
            clear hxo
            obtain ⟨v0, l0, R1, R2, hv0, hl0, H2, HSH⟩ := HS.fvOpen (L := [_, _]) H HQ.out xo
            obtain ⟨xn, xf, xs⟩ := xo
            have HV0 := Lib.hid hv0
            have HSH := Lib.hid HSH
            clear hv0 H C
            have H := H2
            clear H2
            simp only [List.nil_append, List.cons_append] at H
            obtain ⟨s0, e0, rfl⟩ := ownsRow_slice (H.at 3 rfl)
            have d0 : wr.cell? ⟨bg, og + k * 3, none⟩ = some (.int .i64 xn) := hcg 0 _ rfl
            have d1 : wr.cell? ⟨bg, og + k * 3 + 1, none⟩ = some (.int .i64 xf) := hcg 1 _ rfl
            have d2 : wr.cell? ⟨bg, og + k * 3 + 2, none⟩ = some (.bool xs) := hcg 2 _ rfl
            clear hcg
            try clear C
            try simp only [World.size_alloc, List.nil_append, List.cons_append, List.append_assoc] at H
            have C := H.cells
            try simp only [cellsOf, cellsM, apartOf, apartM, and_true] at C
            go_upto_region 10 with fail
            clear d0 d1 d2
            generalize hwb : wr.alloc _ = w10
            replace H := HS.eqW hwb H.alloc
            try simp only [World.size_alloc, List.nil_append, List.cons_append, List.append_assoc] at H
            clear hwb
            generalize wr.heap.size = b9 at H ⊢
            try clear C
            try clear wr
            have C := H.cells
            try simp only [cellsOf, cellsM, apartOf, apartM, and_true] at C
            refine wp_region_zH (by kernel_rfl) (by kernel_rfl) (by kernel_rfl) (by kernel_rfl) (by kernel_rfl) (by dsimp only [List.dropLast]) rfl (fun w => w.heap[bm]? = some (.map es clock) ∧ (∀ o, w.cell? ⟨b9, o, none⟩ = #[Value.int .i64 xn, .int .i64 xf, .bool xs][o]?)) (H) (fun w0 h _ => ⟨h.at 0 rfl, fun o => Blk.cell (h.at 5 rfl) o⟩) ?_
            clear H; intro w11 h0 H hz0
            try clear C
            try simp only [World.size_alloc, List.nil_append, List.cons_append, List.append_assoc] at H hz0
            clear hz0
            try clear w10
            have C := H.cells
            try simp only [cellsOf, cellsM, apartOf, apartM, and_true] at C
            (refine wpX_free rfl rfl rfl (fun K hK => ?_); go_step; refine hK _ _ ?_; clear hK K)
            (refine wpX_free rfl rfl rfl (fun K hK => ?_); go_step; refine hK _ _ ?_; clear hK K)
            (refine wpX_yield rfl rfl (.int .i64 xf) (fun w hw => by obtain ⟨k0, k1⟩ := hw; go_simp) ?_; go_simp)
            (refine wpX_free rfl rfl rfl (fun K hK => ?_); go_step; refine hK _ _ ?_; clear hK K)
            (refine wpX_free rfl rfl rfl (fun K hK => ?_); go_step; refine hK _ _ ?_; clear hK K)
            (refine wpX_yield rfl rfl (.int .i64 xf) (fun w hw => by obtain ⟨k0, k1⟩ := hw; go_simp) ?_; go_simp)
            refine wpX_lookup_V (by rfl) (.tmp 49) (.tmp 51) rfl HT HK HE (fun w hS => hS.1) HM.out rfl rfl (v := .slice s0 l0.length e0) HV0.out ?_
            go_simp
            (refine wpX_yield rfl rfl (.agg #[.int .i64 xn, .int .i64 xf, .bool xs]) (fun w hw => by obtain ⟨k0, k1⟩ := hw; go_simp) ?_; go_simp)
            refine wpX_eff rfl rfl (fun _ _ => ?_)
            go_step
            go_step
            generalize hwb : World.alloc _ _ = w12
            replace H := HS.eqW hwb H.alloc
            try simp only [World.size_alloc, List.nil_append, List.cons_append, List.append_assoc] at H
            clear hwb
            generalize w11.heap.size = bL at H ⊢
            try clear C
            try clear w11
            have C := H.cells
            try simp only [cellsOf, cellsM, apartOf, apartM, and_true] at C
            refine ⟨⟨H.at 0 rfl, fun o => (Blk.cell (H.at 5 rfl) o).trans (by simp)⟩, ?_⟩
            refine wpX_append_H rfl rfl (.tmp 52) (.tmp 54) 50 rfl elemPg H 3 rfl rfl 6 rfl rfl rfl rfl (by decide) (by unfold maxLen; omega) (by omega) (fun gz cz w13 HZ hzz => ?_)
            clear H hzz
            have H := HZ
            clear HZ
            try simp only [List.nil_append, List.cons_append, List.append_assoc, List.set_cons_succ, List.set_cons_zero] at H
            try clear C
            try clear w12
            have C := H.cells
            try simp only [cellsOf, cellsM, apartOf, apartM, and_true] at C
            refine ⟨⟨H.at 0 rfl, fun o => (Blk.cell (H.at 5 rfl) o).trans (by simp)⟩, ?_⟩
            refine wpX_nil ?_
            go_simp
            obtain ⟨fs2, hq2, hm2, hr2⟩ := HSH.out (.slice (some ⟨gz, 0, none⟩) (l0.length + 1) cz)
            have HQ2 := Lib.hid hq2
            have HM2 := Lib.hid hm2
            have HR2 := Lib.hid hr2
            clear hq2 hm2 hr2
            refine wpList_update_V rfl (.tmp 46) (.tmp 48) (.tmp 55) rfl HT HK H 0 rfl HM.out rfl rfl rfl (fun wz es' clock' hM' HZ => ?_)
            clear H C
            simp only [List.set_cons_succ, List.set_cons_zero] at HZ
            replace hM' : MapV es' clock' (putV xf (.slice (some ⟨gz, 0, none⟩) (l0.length + 1) cz) (mapOf fs)) := hM'
            rw [← HM2.out] at hM'
            have e7 : (l0 ++ ([⟨xn, xf, xs⟩] : List Pg)).flatMap pgC = l0.flatMap pgC ++ [.int .i64 xn, .int .i64 xf, .bool xs] := by rw [List.flatMap_append]; rfl
            have H8 : HS NoD w ([.obj bm (.map es' clock'), .blk b7 #[.int .i64 pi, .bool pt, .bool pd, .slice (some ⟨bg, og, none⟩) pg.length pc, .slice tb td.length tc] 52] ++ [Item.many R1, .row (.slice (some ⟨gz, 0, none⟩) (l0.length + 1) cz) 49 3 (l0.length + 1) ((l0 ++ ([⟨xn, xf, xs⟩] : List Pg)).flatMap pgC), Item.many R2]) wz := by
              rw [e7]
              exact HS.less HZ (by repeat (first | exact .slnil | refine .cons_cons _ ?_ | refine .cons _ ?_))
            have H9 := HS.midShut H8 rfl
            rw [HR2.out] at H9
            clear HZ H8
            skip
            go_wp2_with fail
            go_roundw
            case rel => exact ⟨k + 1, es', clock', fs2, by go_num, by omega, hM', (show Hid _ from by show QOk _ _; rw [HTK.out]; exact HQ2.out), H9⟩
            case measure => simp [intOf]; omega
          · have hke : k = pg.length := by omega
            subst hke
            have hq9 := HQ.out
            rw [List.take_length] at hq9
            have HQ9 : Hid (QOk fs (allPg (ps.take (j + 1)))) := by rw [HSUC.out]; exact hq9
            go_wp2_with fail
            go_roundw
            case rel => exact ⟨j + 1, es, clock, fs, by go_num, by omega, HM.out, HQ9.out, HOP2.out, H.less (by repeat (first | exact .slnil | refine .cons_cons _ ?_ | refine .cons _ ?_))⟩
            case measure => simp [intOf]; omega
    · have hje : j = ps.length := by rw [HPL.out]; omega
      have hqe : j = qs.length := by omega
      have hq9 := HQ.out
      have ho9 := HOP.out
      rw [hje, List.take_length] at hq9 ho9
      have HQ8 := Lib.hid hq9
      have HGI := Lib.hid (goodP_iff ho9)
      have HLN : Hid (∀ q ∈ fs, q.l.length ≤ 16000) := fun q hq => by
        have h1 := hq9.len hq
        have h2 := allPg_len ho9.one
        rw [HPL.out] at h2
        omega
      clear hq9 ho9 hje hqe
      go_upto_region 14 with (at_range; refine wpList_range_V rfl (.tmp 58) 96 rfl HT H 0 rfl rfl ?_; clear H C; intro H)
      try simp only [List.nil_append, List.cons_append] at H
      generalize hwb : wr.alloc _ = w2 at H ⊢
      clear hwb
      generalize wr.heap.size = r at H ⊢
      go_frame
      go_loopw [] (fun wr => ∃ seen : Array Nat, Hid (SeenOk es seen fs) ∧ HS NoD w [.obj bm (.map es clock), Item.many (fvR fs), .obj r (.mapIter (some bm) clock seen clock)] wr) (fun wr => itLeftV es r wr)
      case atStart => exact ⟨#[], SeenOk.nil, H⟩
      case round =>
        clear H
        obtain ⟨seen, HSE, H⟩ := hrel
        try clear C
        try simp only [World.size_alloc, List.nil_append, List.cons_append, List.append_assoc] at H
        have C := H.cells
        try simp only [cellsOf, cellsM, apartOf, apartM, and_true] at C
        go_upto_region 15 with (at_next; refine wpList_next_V rfl (.tmp 59) rfl H 0 2 HM.out rfl rfl rfl rfl (by decide) (fun hdone => ?_) (fun x v e wz he hke hve hmM hltn HZ hen => ?_))
        · have HAF := Lib.hid (HQ8.out.fr.2 (HSE.out.all HM.out hdone))
          clear hdone
          by_cases h8 : qs.length ≤ 8
          · have HF9 := Lib.hid (HRT.out (HGI.out.2 ⟨by rw [HPL.out]; exact h8, HAF.out⟩))
            go_ret
            exact ⟨by rw [HF9.out]; simp; omega, H.done⟩
          · have HF9 := Lib.hid (HRF.out (fun g => h8 (by have := (HGI.out.1 g).1; rw [HPL.out] at this; exact this)))
            go_ret
            exact ⟨by rw [HF9.out]; simp; omega, H.done⟩
        · have HOLD := Lib.hid (itLeftV_of (es := es) (H.at 2 rfl))
          clear H C
          have H := HZ
          clear HZ
          simp only [List.set_cons_succ, List.set_cons_zero] at H
          have C := H.cells
          try simp only [cellsOf, cellsM, apartOf, apartM, and_true] at C
          obtain ⟨q, hqm, hqf, hqv⟩ := mem_mapOf hmM
          have hrow : wz.ownsRow 0 49 3 q.v q.l.length (q.l.flatMap pgC) := H.manyOks 1 rfl (.row q.v 49 3 q.l.length (q.l.flatMap pgC)) (List.mem_map.2 ⟨q, hqm, rfl⟩)
          have HNX := Lib.hid (fun (hok : FrOk q.l) => HSE.out.push HM.out HQ8.out he hqm (hke.trans (by rw [hqf])) hok)
          have HBD := Lib.hid (fun (hno : ¬ FrOk q.l) => HRF.out (fun g => hno ((HQ8.out.fr.1 (HGI.out.1 g).2) q hqm)))
          have hll : q.l.length ≤ 16000 := HLN.out q hqm
          obtain ⟨s9, e9, hs9⟩ := ownsRow_slice hrow
          rw [hqv] at hs9 hrow
          subst hs9
          have hli := ownsRow_lies pgC_len rfl hrow
          have HFI := Lib.hid (FrOk.iff q.l)
          generalize q.l = ql at *
          clear hqf hqv hrow hke hve hmM hqm
          skip
          go_step
          refine wpList_entry_V rfl (.tmp 59) rfl rfl hen ?_
          by_cases hlen : 1 < ql.length
          · have hcon := containsPg 66 (fun _ _ => rfl) #[] (fun x => !x.s) e9 (by omega) wz hli (fun W x _ => valid1_any x W)
            have hlen2 : (1 : Int) < ql.length := by omega
            cases hany : ql.any (fun x => !x.s) with
            | false =>
              rw [hany] at hcon
              have HCO := Lib.hid hcon
              have HN9 := Lib.hid (HNX.out (HFI.out.2 (fun h => by rw [hany] at h; cases h.2)))
              clear hcon hany hli he
              go_wp2_with fail
              refine (HCO.out).mono ?_
              rintro _ w14 ⟨rfl, hb⟩
              replace H := H.below hb
              clear hb
              try clear C
              try simp only [World.size_alloc, List.nil_append, List.cons_append, List.append_assoc] at H
              try clear wz
              have C := H.cells
              try simp only [cellsOf, cellsM, apartOf, apartM, and_true] at C
              dsimp only
              go_wp2_with fail
              exact ⟨⟨seen.push e.born, HN9, H⟩, by rw [itLeftV_of (H.at 2 rfl), HOLD.out]; exact hltn⟩
            | true =>
              rw [hany] at hcon
              have HCO := Lib.hid hcon
              have HB9 := Lib.hid (HBD.out (fun h => HFI.out.1 h ⟨hlen, hany⟩))
              clear hcon hany hli he
              skip
              go_wp2_with fail
              refine (HCO.out).mono ?_
              rintro _ w15 ⟨rfl, hb⟩
              replace H := H.below hb
              clear hb
              try clear C
              try simp only [World.size_alloc, List.nil_append, List.cons_append, List.append_assoc] at H
              try clear wz
              have C := H.cells
              try simp only [cellsOf, cellsM, apartOf, apartM, and_true] at C
              dsimp only
              go_wp2_with fail
              go_ret
              exact ⟨by rw [HB9.out]; rfl, H.done⟩
          · have hlen2 : ¬ (1 : Int) < ql.length := by omega
            have HN9 := Lib.hid (HNX.out (HFI.out.2 (fun h => hlen h.1)))
            clear hli he
            skip
            go_wp2_with fail
            exact ⟨⟨seen.push e.born, HN9, H⟩, by rw [itLeftV_of (H.at 2 rfl), HOLD.out]; exact hltn⟩
end Go.Proofs.YtedbpmckgiifpaaGreat
