/- memfaultref34.Same: of stores that are the same. -/
import Derived.Test.YtheccfiidollpaaRlO
import Derived.Laws.BytesArg
namespace Go.Proofs.Ytheccfiidollpaa
set_option linter.unusedSimpArgs false
set_option linter.unusedVariables false
open Go.RowKit
set_option maxRecDepth 100000
attribute [local irreducible] wpX wpF Calls

theorem bC1_getD (bs : List Int) (i : Nat) (h : i < bs.length) : (bC1 bs[i]!)[0]? = some (.int .u8 (bs.getD i 0)) := by
  rw [getElem!_pos bs i h]
  simp [bC1, List.getD, List.getElem?_eq_getElem h]
theorem str_at {w : World} {x : Sv} {bs : List Int} (h : BytesAt w x bs) : (convert 46 9 (.slice x.sa x.n x.c)).run Try.prog w = .ok (.string (strOfNums bs)) w := by
  obtain ⟨sa, n, c⟩ := x
  obtain ⟨hn, hc, hl⟩ := h
  dsimp only at hn hc hl ⊢
  have hs : Try.prog.underlying 46 = some (.slice 5) := by kernel_rfl
  have he : Try.prog.underlying 5 = some (.int .u8) := by kernel_rfl
  have hd : Try.prog.underlying 9 = some .string := by kernel_rfl
  cases sa with
  | none =>
    have h1 : n = 0 := by have := hc.2 rfl; have := hc.1; dsimp only at *; omega
    have h2 : bs = [] := List.length_eq_zero_iff.1 (by omega)
    subst h2
    exact run_convert_bytes_nil w 46 5 hs he n c _ hd
  | some a =>
    by_cases h0 : bs.length = 0
    · have h2 : bs = [] := List.length_eq_zero_iff.1 h0
      subst h2
      have h3 : n = 0 := hn
      subst h3
      rw [run_convert_bytes_string w 46 9 5 _ 0 c hs he hd]
      exact run_bytesToString w a 0 c [] (run_loadCells_list (P := Try.prog) w a [] (fun j v hj => by simp at hj))
    · obtain ⟨b, o, e, -, -⟩ := hl.at (show 0 < bs.length by omega)
      injection e with e
      subst e
      exact run_convert_bytes_arg w 46 5 hs he b o n c bs hn.symm (fun i hi => by
        obtain ⟨b', o', e, -, hcc⟩ := hl.at (show i < bs.length by omega)
        injection e with e
        injection e with e1 e2
        subst e1 e2
        have := hcc 0 _ (bC1_getD bs i (by omega))
        simpa using this) _ hd
set_option maxHeartbeats 8000000 in
theorem rsame34_any (x y : Sv) (l : List Bm) (hs : SmallS l) (w : World) (hx : StoreAt w x l) (hy : StoreAt w y l) : Calls Try.prog 16 #[x.v, y.v] w (Gives (.bool true) w) := by
  obtain ⟨xa, xn, xc⟩ := x
  obtain ⟨ya, yn, yc⟩ := y
  obtain ⟨q0, hql, hn, hcap, hl, hb⟩ := hx
  obtain ⟨r0, hrl, hrn, hrcap, hrr, hrb⟩ := hy
  dsimp only at hn hcap hl hrn hrcap hrr
  subst hn hrn
  have HB := Lib.hid hb
  have HL := Lib.hid hl
  have HRB := Lib.hid hrb
  have HRL := Lib.hid hrr
  rw [hql] at HL
  rw [hrl] at HRL
  have hl1000 := hs.1
  have HSM := Lib.hid hs.2
  show Calls Try.prog 16 #[.slice xa q0.length xc, .slice ya r0.length yc] w _
  rw [hql, hrl]
  clear hb hl hrb hrr hs hql hrl hcap hrcap
  go_enter Try.func16, Try.ntmps16
  have H := HS.start NoD w
  go_wp2_with fail
  go_loopw [16] (fun jj wr => ∃ (j : Nat), jj = .int .i64 j ∧ j ≤ l.length ∧ HS NoD w [] wr) (fun jj _ => l.length - (intOf jj).toNat)
  case atStart => exact ⟨0, rfl, Nat.zero_le _, H⟩
  case round =>
    clear H
    obtain ⟨j, rfl, hj, H⟩ := hrel
    skip
    try clear C
    try simp only [World.size_alloc, List.nil_append, List.cons_append, List.append_assoc] at H
    have C := H.cells
    try simp only [cellsOf, cellsM, apartOf, apartM, and_true] at C
    by_cases hlt : j < l.length
    · obtain ⟨b, o, rfl, hb, hc⟩ := (H.liesUp HL.out).at hlt
      obtain ⟨b', o', rfl, hb', hd⟩ := (H.liesUp HRL.out).at hlt
      have HBJ := Lib.hid (HB.out j hlt)
      have HRJ := Lib.hid (HRB.out j hlt)
      have HSJ := Lib.hid (HSM.out j hlt)
      have HDL := Lib.hid (fun (wx : World) (hx : Lies wx wx.heap.size (some ⟨b', o', none⟩) 2 l.length (fun j => bvC r0[j]!)) => show wx.cell? ⟨b', o' + j * 2, none⟩ = some (.int .i64 (r0[j]!).id) ∧ wx.cell? ⟨b', o' + j * 2 + 1, none⟩ = some (.slice (r0[j]!).x.sa (r0[j]!).x.n (r0[j]!).x.c) ∧ b' < wx.heap.size from by
        obtain ⟨b2, o2, e9, hb2, hd2⟩ := hx.at hlt
        obtain ⟨rfl, rfl⟩ : b' = b2 ∧ o' = o2 := by simpa using e9
        exact ⟨hd2 0 _ rfl, hd2 1 _ rfl, hb2⟩)
      clear hd
      generalize q0[j]! = x at hc HBJ
      generalize r0[j]! = y at HDL HRJ
      obtain ⟨xi, ⟨sa, sn, sc⟩⟩ := x
      obtain ⟨yi, ⟨ta, tn, tc⟩⟩ := y
      dsimp only at HDL
      generalize l[j]! = bm at HBJ HRJ HSJ
      obtain ⟨bid, ws⟩ := bm
      obtain ⟨hid, vs, hvl, hvn, hvc, hvli, hvb⟩ := HBJ.out
      obtain ⟨hid2, us, hul, hun, huc, huli, hub⟩ := HRJ.out
      dsimp only at hid hvl hvn hvli hvb hid2 hul hun huli hub
      obtain rfl : bid = xi := hid.symm
      obtain rfl : bid = yi := hid2.symm
      subst hvn
      have e2 : tn = ws.length := by omega
      subst e2
      rw [hvl] at hc hvli
      rw [hul] at huli
      have HVL := Lib.hid hvli
      have HUL := Lib.hid huli
      have HVB := Lib.hid hvb
      have HUB := Lib.hid hub
      have hw1000 : ws.length ≤ 1000 := HSJ.out.1
      clear hid hid2 hvli huli hvb hub hvc huc hun
      have c0 : wr.cell? ⟨b, o + j * 2, none⟩ = some (.int .i64 bid) := hc 0 _ rfl
      have c1 : wr.cell? ⟨b, o + j * 2 + 1, none⟩ = some (.slice sa ws.length sc) := hc 1 _ rfl
      have n1 : (b = wr.heap.size) = False := eq_false (by omega)
      have n2 : (wr.heap.size = b) = False := eq_false (by omega)
      have hji : (j : Int) < l.length := by omega
      clear hc
      go_upto_region 6 with fail
      clear c0 c1 n1 n2
      generalize hwb : wr.alloc _ = w1
      replace H := HS.eqW hwb H.alloc
      try simp only [World.size_alloc, List.nil_append, List.cons_append, List.append_assoc] at H
      clear hwb
      generalize wr.heap.size = bX at H ⊢
      try clear C
      try clear wr
      have C := H.cells
      try simp only [cellsOf, cellsM, apartOf, apartM, and_true] at C
      refine wp_region_xH (by kernel_rfl) (by kernel_rfl) (by kernel_rfl) (by kernel_rfl) (fun _ => False) (H) ?_
      clear H; intro w2 H hz0 hs0
      try clear C
      try simp only [World.size_alloc, List.nil_append, List.cons_append, List.append_assoc] at H hz0
      clear hz0
      try clear w1
      have C := H.cells
      try simp only [cellsOf, cellsM, apartOf, apartM, and_true] at C
      have Z := H.zs
      try simp only [ltsOf, ltsM, and_true] at Z
      have hz0 := Nat.le_refl w2.heap.size
      obtain ⟨d0, d1, hbw⟩ := HDL.out _ (H.liesUp HRL.out)
      repeat (first | (refine wpX_skip rfl ?_; go_simp) | (refine wpX_free rfl rfl rfl (fun K hK => ?_); go_step; refine hK _ _ ?_; clear hK K) | (refine wpX_load rfl rfl rfl (by simp [Stay, OneD, NoD, *]) hs0 (by simp [*]) (fun K hK => ?_); go_step; refine hK _ _ ?_; clear hK K))
      (refine wpX_nil ?_; go_step)
      go_wp2_with fail
      go_loopw [7, 8, 44] (fun _ _ kk wr => ∃ (k : Nat), kk = .int .i64 k ∧ k ≤ ws.length ∧ HS NoD w [] wr) (fun _ _ kk _ => ws.length - (intOf kk).toNat)
      case atStart => exact ⟨0, rfl, Nat.zero_le _, HS.less H (List.nil_sublist _)⟩
      case round =>
        clear H C
        obtain ⟨k, rfl, hk, H⟩ := hrel
        skip
        try clear C
        try simp only [World.size_alloc, List.nil_append, List.cons_append, List.append_assoc] at H
        have C := H.cells
        try simp only [cellsOf, cellsM, apartOf, apartM, and_true] at C
        by_cases hkl : k < ws.length
        · obtain ⟨bv, ov, e9, hbv, hcv⟩ := (H.liesUp HVL.out).at hkl
          obtain ⟨bu, ou, e8, hbu, hcu⟩ := (H.liesUp HUL.out).at hkl
          obtain ⟨d0, d1, hbw⟩ := HDL.out _ (H.liesUp HRL.out)
          have hs1 := str_at ((HVB.out k hkl).up H.done)
          have hs2 := str_at ((HUB.out k hkl).up H.done)
          have hs3 := str_at ((HVB.out k hkl).up H.drew.done)
          have hs4 := str_at ((HUB.out k hkl).up H.drew.done)
          generalize vs[k]! = v1 at hcv hs1 hs3
          generalize us[k]! = v2 at hcu hs2 hs4
          obtain ⟨v1a, v1n, v1c⟩ := v1
          obtain ⟨v2a, v2n, v2c⟩ := v2
          dsimp only at hs1 hs2 hs3 hs4
          generalize strOfNums ws[k]! = st at hs1 hs2 hs3 hs4
          subst e9 e8
          have f1 : wr.cell? ⟨bv, ov + k, none⟩ = some (.slice v1a v1n v1c) := by have := hcv 0 _ rfl; simpa using this
          have f2 : wr.cell? ⟨bu, ou + k, none⟩ = some (.slice v2a v2n v2c) := by have := hcu 0 _ rfl; simpa using this
          have hki : (k : Int) < ws.length := by omega
          clear hcv hcu
          go_upto_region 11 with fail
          go_region
          go_wp2_with fail
          go_roundw
          case rel => exact ⟨k + 1, by go_num, by omega, H.drew⟩
          case measure => simp [intOf]; omega
        · skip
          go_wp2_with fail
          go_roundw
          case rel => exact ⟨j + 1, by go_num, by omega, H⟩
          case measure => simp [intOf]; omega
    · skip
      go_wp2_with fail
      go_ret
      exact ⟨rfl, H.done⟩
end Go.Proofs.Ytheccfiidollpaa
