/- contain.victims: what is done about the programs that have a frame. -/
import Derived.Test.YtedbpmckgiifpaaGreatC2
import Derived.Test.YtedbpmckgiifpaaGreatFrLaw
namespace Go.Proofs.YtedbpmckgiifpaaGreat
set_option linter.unusedSimpArgs false
set_option linter.unusedVariables false
open Go.RowKit
set_option maxRecDepth 100000
attribute [local go_sem] lt_more ne_more ne_more'
attribute [local irreducible] wpX wpF Calls

def ddC (x : Dd) : List Value := [.int .i64 x.k, .int .i64 x.f, .int .i64 x.tq, .int .i64 x.p, .int .i64 x.g]
theorem ddC_len (x : Dd) : (ddC x).length = 5 := rfl
theorem infoDd : (Tryz.prog.info? 24).map (fun i => (i.zero, i.size, i.bytes)) = some (some (.agg #[.int .i64 0, .int .i64 0, .int .i64 0, .int .i64 0, .int .i64 0]), 5, 40) := by kernel_rfl
theorem elemDd : Elem Tryz.prog 39 24 (.agg #[.int .i64 0, .int .i64 0, .int .i64 0, .int .i64 0, .int .i64 0]) 5 40 := Elem.mk' Tryz.underlying39 infoDd rfl (by decide)
theorem mem_users {ps : List Pr} {f : Int} {u : Int × Int} (h : u ∈ usersL ps f) : ∃ p ∈ ps, p.id = u.1 := by
  rw [usersL_eq] at h
  obtain ⟨p, hp, hu⟩ := List.mem_flatMap.1 h
  obtain ⟨x, hx, rfl⟩ := List.mem_map.1 hu
  exact ⟨p, hp, rfl⟩
theorem tells_at {F : Int} {ps : List Pr} (hg : GoodP F ps) {i : Nat} (hi : i < ps.length) {id : Int} (e : (ps[i]!).id = id) : ps.any (fun p => decide (p.id = id) && p.tells) = (ps[i]!).tells := by
  rw [Bool.eq_iff_iff, List.any_eq_true]
  constructor
  · rintro ⟨p, hp, h⟩
    rw [Bool.and_eq_true, decide_eq_true_eq] at h
    obtain ⟨j, hj, rfl⟩ := List.getElem_of_mem hp
    have e2 : i = j := by
      rw [getElem!_pos ps i hi] at e
      rcases Nat.lt_trichotomy i j with h1 | h1 | h1
      · have := List.pairwise_iff_getElem.1 hg.asc i j hi hj h1; omega
      · exact h1
      · have := List.pairwise_iff_getElem.1 hg.asc j i hj hi h1; omega
    subst e2
    rw [getElem!_pos ps i hi]; exact h.2
  · intro h
    exact ⟨_, mem_at hi, by rw [e, h]; simp⟩
theorem vict1_any (x : Pv) (id n : Int) (b : Nat) (w : World) (hb : w.cell? ⟨b, 0, none⟩ = some (.int .i64 id)) (hlt : b < w.heap.size) : Calls Tryz.prog 59 #[.agg (pvC x).toArray, .pointer (some ⟨b, 0, none⟩)] w (Gives (.bool (decide (x.p.id = id))) w) := by
  obtain ⟨⟨pi, pt, pd, pg, td⟩, pa, ta⟩ := x
  have hne : (w.heap.size = b) = False := eq_false (by omega)
  have hne' : (b = w.heap.size) = False := eq_false (by omega)
  show Calls Tryz.prog 59 #[.agg #[.int .i64 pi, .bool pt, .bool pd, pa, ta], .pointer (some ⟨b, 0, none⟩)] w _
  go_enter Tryz.func59, Tryz.ntmps59
  have H := HS.start NoD w
  go_wp2_with fail
  go_ret
  exact ⟨by first | rfl | simp, H.alloc.done⟩
theorem ddOf_succ {us : List (Int × Int)} (ps : List Pr) (f : Int) {k : Nat} (h : k < us.length) : (us.take (k + 1)).map (ddOf ps f) = (us.take k).map (ddOf ps f) ++ [ddOf ps f us[k]!] := by
  rw [List.take_add_one, List.getElem?_eq_getElem h, getElem!_pos us k h, List.map_append]; rfl
theorem ddC_snoc (ds : List Dd) (d : Dd) : (ds ++ [d]).flatMap ddC = ds.flatMap ddC ++ ddC d := by rw [List.flatMap_append]; simp
set_option maxHeartbeats 8000000 in
theorem victims_any (f : Int) {F : Int} {ps : List Pr} (hg : GoodP F ps) {v : Value} (w : World) (hl : Ps w w.heap.size v ps) :
    Calls Tryz.prog 35 #[v, .int .i64 f] w (GivesS (fun v => v) 24 5 (vicP ps f).length ((vicP ps f).flatMap ddC) w) := by
  have HUS := Lib.hid (ousers_any f hg.small w hl)
  have hml : (usersL ps f).length ≤ 100000 := by
    have h1 := hg.smallP
    have : ∀ l : List Pr, (∀ p ∈ l, p.pages.length ≤ 1000) → (usersL l f).length ≤ 1000 * l.length := fun l => by
      induction l with
      | nil => intro _; exact Nat.zero_le _
      | cons p l ih =>
        intro h
        have h2 := ih fun q hq => h q (by simp [hq])
        have h3 := cnt_cons p l f
        unfold cnt at h3
        rw [h3, List.length_cons]
        have h4 : cf p.pages f ≤ p.pages.length := List.length_filter_le _ _
        have h5 := h p (by simp)
        omega
    have h6 := this ps fun p hp => (h1.2 p hp).1
    have h7 := hg.len
    omega
  obtain ⟨us, hus⟩ : ∃ us, us = usersL ps f := ⟨_, rfl⟩
  have HMU := Lib.hid (fun (k : Nat) (h : k < us.length) => mem_users (f := f) (by rw [← hus]; exact mem_at h))
  have HV := Lib.hid (show vicP ps f = us.map (ddOf ps f) by rw [hus]; rfl)
  rw [HV.out]
  rw [← hus] at HUS hml
  clear hus HV
  have HG := Lib.hid hg
  obtain ⟨qs, rfl, ⟨sa, c, rfl, hc, hl⟩, hi⟩ := hl
  have hx1 : qs.length ≤ 8 := by have := hg.len; simpa using this
  have HL := Lib.hid hl
  have HI := Lib.hid hi
  clear hl hi hc hg
  go_enter Tryz.func35, Tryz.ntmps35
  have H := HS.start NoD w
  go_wp2_with fail
  refine (HUS.out).mono ?_
  rintro _ w1 ⟨su, cu, rfl, hr, hb⟩
  replace H := (H).getsRow hb hr
  clear hb hr
  try clear C
  try simp only [World.size_alloc, List.nil_append, List.cons_append, List.append_assoc] at H
  have C := H.cells
  try simp only [cellsOf, cellsM, apartOf, apartM, and_true] at C
  dsimp only
  clear HUS
  have hn := H.nilRow 24 5
  clear H
  have H := hn
  clear hn
  simp only [List.nil_append, List.cons_append] at H
  try clear C
  try simp only [World.size_alloc, List.nil_append, List.cons_append, List.append_assoc] at H
  have C := H.cells
  try simp only [cellsOf, cellsM, apartOf, apartM, and_true] at C
  go_wp2_with fail
  go_loopw [5, 14] (fun u i wr => ∃ (k : Nat) (ds : List Dd), i = .int .i64 k ∧ k ≤ us.length ∧ ds.length = k ∧ Hid (ds = (us.take k).map (ddOf (qs.map (·.p)) f)) ∧ HS NoD w [.row (.slice su us.length cu) 37 2 us.length (us.flatMap uC), .row u 24 5 ds.length (ds.flatMap ddC)] wr) (fun _ i _ => us.length - (intOf i).toNat)
  case atStart => exact ⟨0, [], rfl, Nat.zero_le _, rfl, rfl, H⟩
  case round =>
    clear H C
    obtain ⟨k, ds, rfl, hk, hdl, HD, H⟩ := hrel
    have hdl2 : ds.length ≤ 100000 := by omega
    have HDL := Lib.hid hdl
    clear hdl
    skip
    try clear C
    try simp only [World.size_alloc, List.nil_append, List.cons_append, List.append_assoc] at H
    have C := H.cells
    try simp only [cellsOf, cellsM, apartOf, apartM, and_true] at C
    by_cases hlt : k < us.length
    · have HSU := Lib.hid (ddOf_succ (qs.map (·.p)) f hlt)
      have hmu := HMU.out k hlt
      obtain ⟨b, o, rfl, hb, hc⟩ := (H.rowLies 0 uC_len rfl rfl).at hlt
      obtain ⟨x, hx⟩ : ∃ x, x = us[k]! := ⟨_, rfl⟩
      rw [← hx] at hmu
      rw [← hx] at hc
      have HX := Lib.hid hx
      obtain ⟨xp, xn⟩ := x
      have c0 : wr.cell? ⟨b, o + k * 2, none⟩ = some (.int .i64 xp) := hc 0 _ rfl
      have c1 : wr.cell? ⟨b, o + k * 2 + 1, none⟩ = some (.int .i64 xn) := hc 1 _ rfl
      clear hc hx
      go_upto_region 5 with fail
      clear c0 c1
      generalize hwb : wr.alloc _ = w2
      replace H := HS.eqW hwb H.alloc
      try simp only [World.size_alloc, List.nil_append, List.cons_append, List.append_assoc] at H
      clear hwb
      generalize wr.heap.size = bU at H ⊢
      try clear C
      try clear wr
      have C := H.cells
      try simp only [cellsOf, cellsM, apartOf, apartM, and_true] at C
      have hcon := findPr 59 (fun _ _ => rfl) #[.pointer (some ⟨bU, 0, none⟩)] (fun q => decide (q.p.id = xp)) c (by omega) w2 (H.liesUp HL.out) (fun W x hb => vict1_any x xp xn bU W ((Blk.below (H.at 2 rfl) hb).cell 0) (Blk.below (H.at 2 rfl) hb).lt)
      go_wp2_with fail
      refine (hcon).mono ?_
      rintro _ w3 ⟨r, rfl, hr, hb⟩
      replace H := H.below hb
      clear hb
      try clear C
      try simp only [World.size_alloc, List.nil_append, List.cons_append, List.append_assoc] at H
      try clear w2
      have C := H.cells
      try simp only [cellsOf, cellsM, apartOf, apartM, and_true] at C
      dsimp only
      have hri : ∃ i : Nat, i < qs.length ∧ r = i ∧ (qs[i]!).p.id = xp := by
        rcases hr with ⟨-, h⟩ | ⟨i, hi, rfl, h, -⟩
        · obtain ⟨p, hp, he⟩ := hmu
          obtain ⟨q, hq, rfl⟩ := List.mem_map.1 hp
          obtain ⟨j, hj, rfl⟩ := List.getElem_of_mem hq
          have := h j hj
          rw [getElem!_pos qs j hj] at this
          exact absurd he (of_decide_eq_false this)
        · exact ⟨i, hi, rfl, of_decide_eq_true h⟩
      clear hr hcon hmu
      obtain ⟨i, hltz, rfl, hid⟩ := hri
      have HTE := Lib.hid (tells_at HG.out (show i < (qs.map (·.p)).length by rw [List.length_map]; exact hltz) (show ((qs.map (fun q : Pv => q.p))[i]!).id = xp by rw [map_at hltz]; exact hid))
      go_upto_region 7 with fail
      generalize hwb : w3.alloc _ = w4
      replace H := HS.eqW hwb H.alloc
      try simp only [World.size_alloc, List.nil_append, List.cons_append, List.append_assoc] at H
      clear hwb
      generalize w3.heap.size = bD at H ⊢
      try clear C
      try clear w3
      have C := H.cells
      try simp only [cellsOf, cellsM, apartOf, apartM, and_true] at C
      have HLz := HL
      have HIz := HI
      obtain ⟨bz, oz, e0, hbz, hcz⟩ := (H.lies HLz.out).at hltz
      cases e0
      have HMz := Lib.hid (map_at hltz)
      have hpvz := HIz.out _ (mem_at hltz)
      obtain ⟨qz, hxjz⟩ : ∃ q, q = qs[i]! := ⟨_, rfl⟩
      rw [← hxjz] at hcz hpvz
      have HXz := Lib.hid hxjz
      obtain ⟨⟨piz, ptz, pdz, pgz, tdz⟩, paz, taz⟩ := qz
      obtain ⟨⟨pbz, pcz, e1, hpcz, hplz⟩, ⟨tbz, tcz, e2, htcz, htlz⟩⟩ := hpvz
      have f1 : paz = .slice pbz pgz.length pcz := e1
      have f2 : taz = .slice tbz tdz.length tcz := e2
      clear e1 e2
      subst f1 f2
      have HPGz : Hid (Lies w w.heap.size pbz 3 pgz.length (fun j => pgC pgz[j]!)) := hplz
      have HTDz : Hid (Lies w w.heap.size tbz 1 tdz.length (fun j => iC tdz[j]!)) := htlz
      have HPCz : Hid (pgz.length ≤ pcz ∧ (pbz = none → pcz = 0)) := hpcz
      have HTCz : Hid (tdz.length ≤ tcz ∧ (tbz = none → tcz = 0)) := htcz
      clear hpcz htcz
      clear hplz htlz
      have c0z : w4.cell? ⟨bz, oz + i * 5, none⟩ = some (.int .i64 piz) := hcz 0 _ rfl
      have c1z : w4.cell? ⟨bz, oz + i * 5 + 1, none⟩ = some (.bool ptz) := hcz 1 _ rfl
      have c2z : w4.cell? ⟨bz, oz + i * 5 + 2, none⟩ = some (.bool pdz) := hcz 2 _ rfl
      have c3z : w4.cell? ⟨bz, oz + i * 5 + 3, none⟩ = some (.slice pbz pgz.length pcz) := hcz 3 _ rfl
      have c4z : w4.cell? ⟨bz, oz + i * 5 + 4, none⟩ = some (.slice tbz tdz.length tcz) := hcz 4 _ rfl
      clear hcz hxjz
      have HIDZ := Lib.hid hid
      clear hid
      have HTZ := Lib.hid (HTE.out.trans (show _ = ptz by rw [HMz.out, ← HXz.out]))
      have HDD := Lib.hid (show ddOf (qs.map (·.p)) f us[k]! = ⟨if ptz = true then 4 else 5, f, 0, xp, xn⟩ by rw [← HX.out]; unfold ddOf; rw [HTZ.out])
      clear HTE
      cases ptz
      · go_upto_region 9 with fail
        go_wp2_with (at_builtin; go_loud (refine wpList_append_H rfl (.tmp 33) (.tmp 35) 39 rfl elemDd H.alloc 1 rfl rfl 4 rfl rfl rfl rfl (by decide) (by unfold maxLen; omega) (by omega) (fun g cap wz HZ => ?_)); clear H C)
        go_roundw
        case rel =>
          refine ⟨k + 1, ds ++ [⟨5, f, 0, xp, xn⟩], by go_num, by omega, by have := HDL.out; rw [List.length_append]; simp; omega, (show Hid _ from ?_), ?_⟩
          · show ds ++ _ = _
            rw [HSU.out, HDD.out, ← HD.out]; rfl
          · rw [List.length_append, ddC_snoc]
            exact HZ.less (by repeat (first | exact .slnil | refine .cons_cons _ ?_ | refine .cons _ ?_))
        case measure => simp [intOf]; omega
      · go_upto_region 9 with fail
        generalize hwb : World.setCell _ _ _ = wq
        replace H := HS.eqW hwb (H.setTo (o := 0) (v := .int .i64 4) 3 rfl rfl)
        clear hwb
        replace H : HS NoD w [.row (.slice (some ⟨b, o, none⟩) us.length cu) 37 2 us.length (us.flatMap uC), .row u5 24 5 ds.length (ds.flatMap ddC), .blk bU #[.int .i64 xp, .int .i64 xn] 37, .blk bD #[.int .i64 4, .int .i64 f, .int .i64 0, .int .i64 xp, .int .i64 xn] 24] wq := H
        skip
        try clear C
        try simp only [World.size_alloc, List.nil_append, List.cons_append, List.append_assoc] at H
        have C := H.cells
        try simp only [cellsOf, cellsM, apartOf, apartM, and_true] at C
        go_wp2_with (at_builtin; go_loud (refine wpList_append_H rfl (.tmp 33) (.tmp 35) 39 rfl elemDd H.alloc 1 rfl rfl 4 rfl rfl rfl rfl (by decide) (by unfold maxLen; omega) (by omega) (fun g cap wz HZ => ?_)); clear H C)
        go_roundw
        case rel =>
          refine ⟨k + 1, ds ++ [⟨4, f, 0, xp, xn⟩], by go_num, by omega, by have := HDL.out; rw [List.length_append]; simp; omega, (show Hid _ from ?_), ?_⟩
          · show ds ++ _ = _
            rw [HSU.out, HDD.out, ← HD.out]; rfl
          · rw [List.length_append, ddC_snoc]
            exact HZ.less (by repeat (first | exact .slnil | refine .cons_cons _ ?_ | refine .cons _ ?_))
        case measure => simp [intOf]; omega
    · have hke : k = us.length := by omega
      go_wp2_with fail
      go_ret
      have e : ds = us.map (ddOf (qs.map (·.p)) f) := by rw [HD.out, hke, List.take_length]
      rw [← e]
      replace H := HS.less (L' := [.row u5 24 5 ds.length (ds.flatMap ddC)]) H (by repeat (first | exact .slnil | refine .cons_cons _ ?_ | refine .cons _ ?_))
      obtain ⟨sd, cd, rfl⟩ := ownsRow_slice (H.at 0 rfl)
      exact H.givesS 0 rfl
end Go.Proofs.YtedbpmckgiifpaaGreat
