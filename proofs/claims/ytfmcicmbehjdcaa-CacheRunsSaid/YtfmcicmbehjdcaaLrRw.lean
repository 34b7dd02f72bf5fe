/- The statement CacheRuns: its walk. -/
import Derived.Test.YtfmcicmbehjdcaaLrX
import Derived.Test.YtfmcicmbehjdcaaLrRv
import Derived.Test.YtfmcicmbehjdcaaLrZ
import Derived.Test.YtfmcicmbehjdcaaLrVa
namespace Go.Proofs.Ytfmcicmbehjdcaa
set_option linter.unusedSimpArgs false
set_option linter.unusedVariables false
open Go.RowKit
set_option maxRecDepth 100000
attribute [local irreducible] wpX wpF Calls

set_option maxHeartbeats 64000000 in
theorem cruns_walk (sa : Option Addr) (len cap : Nat) (hl : len ≤ maxLen) (w : World) (hI : Ints w sa len) :
    Calls Try.prog 4 #[.slice sa len cap] w (Gives (.bool true) w) := by
  have HI := Lib.hid hI
  clear hI
  have hli := light_any sa len cap hl
  clear hl
  have HAW := Lib.hid awake31_any
  by_cases h400 : len ≤ 400
  · rw [decide_eq_true h400] at hli
    have HLI := Lib.hid hli
    clear hli
    go_enter Try.func4, Try.ntmps4
    have H := HS.start NoD w
    go_wp2_with fail
    refine (gives_of31 (HLI.out _)).mono ?_
    rintro _ w1 ⟨rfl, hb⟩
    replace H := H.below hb
    clear hb
    try clear C
    try simp only [World.size_alloc, List.nil_append, List.cons_append, List.append_assoc] at H
    have C := H.cells
    try simp only [cellsOf, cellsM, apartOf, apartM, and_true] at C
    dsimp only
    go_wp2_with fail
    refine (roll_at w.heap.size _ _ _ h400 _ H.size (H.ints HI.out)).mono ?_
    rintro _ w2 ⟨bd, rfl, hd, hb, hbb⟩
    replace H := H.getsDice hb hd hbb (Nat.le_refl _)
    clear hb hd hbb
    try clear C
    try simp only [World.size_alloc, List.nil_append, List.cons_append, List.append_assoc] at H
    try clear w1
    have C := H.cells
    try simp only [cellsOf, cellsM, apartOf, apartM, and_true] at C
    dsimp only
    go_wp2_with fail
    refine (next_any 3 (by omega) w.heap.size bd _ (H.at 0 rfl)).mono ?_
    rintro _ w3 ⟨v0, rfl, hv0, hd, hg⟩
    replace H := (H).diceAt 0 rfl hg hd
    clear hg hd
    try clear C
    try simp only [World.size_alloc, List.nil_append, List.cons_append, List.append_assoc] at H
    try clear w2
    have C := H.cells
    try simp only [cellsOf, cellsM, apartOf, apartM, and_true] at C
    dsimp only
    have hv01 : v0 < 3 := hv0.lt (by omega)
    have hv02 : 0 ≤ v0 := hv0.1
    obtain ⟨S, hS⟩ : ∃ S : Nat, (S : Int) = 1 + v0 := ⟨(1 + v0).toNat, by omega⟩
    have hS3 : 1 ≤ S ∧ S ≤ 3 := by omega
    have hSw : IntKind.i64.wrap (1 + v0) = S := by rw [hS]; exact IntWalk.i64_in _ (by omega)
    have hSe : 1 + v0 = (S : Int) := hS.symm
    clear hv0 hS hv01 hv02
    go_wp2_with fail
    refine (next_any 4 (by omega) w.heap.size bd _ (H.at 0 rfl)).mono ?_
    rintro _ w4 ⟨v1, rfl, hv1, hd, hg⟩
    replace H := (H).diceAt 0 rfl hg hd
    clear hg hd
    try clear C
    try simp only [World.size_alloc, List.nil_append, List.cons_append, List.append_assoc] at H
    try clear w3
    have C := H.cells
    try simp only [cellsOf, cellsM, apartOf, apartM, and_true] at C
    dsimp only
    have hv11 : v1 < 4 := hv1.lt (by omega)
    have hv12 : 0 ≤ v1 := hv1.1
    obtain ⟨W, hW⟩ : ∃ W : Nat, (W : Int) = 1 + v1 := ⟨(1 + v1).toNat, by omega⟩
    have hW4 : 1 ≤ W ∧ W ≤ 4 := by omega
    have hWw : IntKind.i64.wrap (1 + v1) = W := by rw [hW]; exact IntWalk.i64_in _ (by omega)
    have hWe : 1 + v1 = (W : Int) := hW.symm
    clear hv1 hW hv11 hv12
    have hsz : sizedB (S : Int) W 2 = true := decide_eq_true (by omega)
    have HG0 := Lib.hid (GoodC.new hsz)
    have HSZ := Lib.hid hsz
    have HSS := Lib.hid hS3
    have HWW := Lib.hid hW4
    have HNW := Lib.hid (fun w => cnew_any S W 2 w)
    clear hsz
    go_wp2_with fail
    refine (HNW.out _).mono ?_
    rintro _ w50 hnew
    clear hSe hSw hWw hWe HNW hS3 hW4
    rcases hnew with ⟨h1, -⟩ | ⟨-, s0, n0, hn0, rfl, K⟩
    · rw [HSZ.out] at h1; cases h1
    have hn1 : n0 = S * W := by have : ((S * W : Nat) : Int) = S * W := by push_cast; rfl
                                omega
    subst hn1
    have H1 := H.join K (one_low rfl)
    clear K H C hn0
    try simp only [List.nil_append, List.cons_append] at H1
    have H2 := HS.anyOf (L := [_]) H1 rfl
    have H := HS.weak (L := [_]) H2 (K' := fun w => SlotsAt w ⟨s0, S * W, S * W⟩ (List.replicate (S * W) zSm)) (fun w' h => new_at h)
    clear H1 H2
    try simp only [List.nil_append, List.cons_append] at H
    have HR0 := Lib.hid (Runs.new S (S * W))
    obtain ⟨l0, hl0⟩ : ∃ l, l = List.replicate (S * W) zSm := ⟨_, rfl⟩
    obtain ⟨n0, hn0⟩ : ∃ n, n = S * W := ⟨_, rfl⟩
    rw [← hl0] at H HR0 HG0
    rw [← hn0] at H
    rw [← hn0]
    clear hl0 hn0
    skip
    try clear C
    try simp only [World.size_alloc, List.nil_append, List.cons_append, List.append_assoc] at H
    have C := H.cells
    try simp only [cellsOf, cellsM, apartOf, apartM, and_true] at C
    dsimp only
    go_upto_region 5 with fail
    generalize hwb : w50.alloc _ = w5
    replace H := HS.eqW hwb H.alloc
    try simp only [World.size_alloc, List.nil_append, List.cons_append, List.append_assoc] at H
    clear hwb
    generalize w50.heap.size = b4 at H ⊢
    try clear C
    try clear w50
    have C := H.cells
    try simp only [cellsOf, cellsM, apartOf, apartM, and_true] at C
    have hS1 : (1 : Int) ≤ S := by have := HSS.out; omega
    have hW1 : (1 : Int) ≤ W := by have := HWW.out; omega
    have hn1 := (H.nilRow 35 4).anyNil
    clear H C
    have H := HS.weak (L := [_, _, _, _]) hn1 (K' := fun w => LinesOk w []) (fun w' _ q hq => absurd hq List.not_mem_nil)
    clear hn1
    try simp only [List.nil_append, List.cons_append] at H
    have H9 := H.permu (L' := [_, _, _, _, _]) (List.Perm.cons _ (List.perm_append_comm (l₁ := [_]) (l₂ := [_, _, _])))
    clear H
    have H := H9
    clear H9
    try clear C
    try simp only [World.size_alloc, List.nil_append, List.cons_append, List.append_assoc] at H
    have C := H.cells
    try simp only [cellsOf, cellsM, apartOf, apartM, and_true] at C
    go_wp2_with fail
    go_loopw [6, 7] (fun sv kk wr => ∃ (k : Nat) (s : Option Addr) (c : Nat) (qs : List (Lm × Sv)) (l : List Sm) (sc : Option Addr) (nc cc : Nat) (Fc F : Nat → Prop), kk = .int .i64 k ∧ sv = .slice s qs.length c ∧ k ≤ 40 ∧ qs.length ≤ k ∧ Hid (GoodC S W 2 l) ∧ Hid (Runs S l (qs.map Prod.fst)) ∧ HS NoD w [.dice w.heap.size bd, .blk b4 #[.int .i64 S, .int .i64 W, .int .i64 2, .slice sc nc cc] 24, rowL s qs.length c qs, .any F (fun w => LinesOk w qs), .any Fc (fun w => SlotsAt w ⟨sc, nc, cc⟩ l)] wr) (fun _ kk _ => 40 - (intOf kk).toNat)
    case atStart => exact ⟨0, none, 0, [], l0, s0, n0, n0, _, _, rfl, rfl, by omega, by simp, HG0, HR0, H⟩
    case round =>
      clear H C
      obtain ⟨k, s, c, qs, l, sc, nc, cc, Fc, F, rfl, rfl, hk, hqk, HG, HR, H⟩ := hrel
      skip
      try clear C
      try simp only [World.size_alloc, List.nil_append, List.cons_append, List.append_assoc] at H
      have C := H.cells
      try simp only [cellsOf, cellsM, apartOf, apartM, and_true] at C
      by_cases hlt : k < 40
      · have HLT := Lib.hid hlt
        have hki : (k : Int) < 40 := by omega
        have hq40 : qs.length ≤ 40 := by omega
        have HQ40 := Lib.hid hq40
        go_upto_region 11 with fail
        go_wp2_with fail
        refine (next_any 10 (by omega) w.heap.size bd _ (H.at 0 rfl)).mono ?_
        rintro _ w6 ⟨ad, rfl, hv0, hd, hg⟩
        replace H := (H).diceAt 0 rfl hg hd
        clear hg hd
        try clear C
        try simp only [World.size_alloc, List.nil_append, List.cons_append, List.append_assoc] at H
        try clear wr
        have C := H.cells
        try simp only [cellsOf, cellsM, apartOf, apartM, and_true] at C
        dsimp only
        have had1 : ad < 10 := hv0.lt (by omega)
        have had0 : 0 ≤ ad := hv0.1
        clear hv0
        go_wp2_with fail
        go_loopw [9, 64] (fun aa jj wr => ∃ (i : Nat) (av : Int), jj = .int .i64 i ∧ aa = .int .i64 av ∧ i ≤ qs.length ∧ Hid (AtIs qs ad i av) ∧ HS NoD w [.dice w.heap.size bd, .blk b4 #[.int .i64 S, .int .i64 W, .int .i64 2, .slice sc nc cc] 24, rowL s qs.length c qs, .any F (fun w => LinesOk w qs), .any Fc (fun w => SlotsAt w ⟨sc, nc, cc⟩ l)] wr) (fun _ jj _ => qs.length - (intOf jj).toNat)
        case atStart => exact ⟨0, -1, rfl, rfl, Nat.zero_le _, (show Hid _ from .inl ⟨rfl, fun r hr => absurd hr (Nat.not_lt_zero _)⟩), H⟩
        case round =>
          clear H C
          obtain ⟨i, av, rfl, rfl, hi, HAT, H⟩ := hrel
          skip
          try clear C
          try simp only [World.size_alloc, List.nil_append, List.cons_append, List.append_assoc] at H
          have C := H.cells
          try simp only [cellsOf, cellsM, apartOf, apartM, and_true] at C
          by_cases hil : i < qs.length
          · obtain ⟨g, cg, hv, -, -⟩ := World.ownsRow.form (H.at 2 rfl) (by omega)
            obtain ⟨rfl, -, rfl⟩ := Value.slice.inj hv
            clear hv
            have HIL := Lib.hid hil
            have hii : (i : Int) < qs.length := by omega
            have hgl : g < wr.heap.size := Item.lt (H.at 2 rfl) (k := g) rfl
            have hc : ∀ m v, (lnC qs[i]!)[m]? = some v → wr.cell? ⟨g, i * 4 + m, none⟩ = some v := fun m v hv => by
              have hm : m < 4 := (List.getElem?_eq_some_iff.1 hv).1
              exact (H.rowCells 2 rfl (i * 4 + m) (by omega)).1.trans (flat_get lnC_len qs i m v hil hv)
            have HQI := Lib.hid (show (qs[i]!).1.ad = (qs[i]!).1.ad from rfl)
            obtain ⟨q, hq⟩ : ∃ q, q = qs[i]! := ⟨_, rfl⟩
            rw [← hq] at hc
            obtain ⟨⟨ai, bs, d, p⟩, ⟨xa, xn, xc⟩⟩ := q
            have HAI := Lib.hid (show (qs[i]!).1.ad = ai by rw [← hq])
            have c0 : wr.cell? ⟨g, i * 4, none⟩ = some (.int .i64 ai) := hc 0 _ rfl
            have c1 : wr.cell? ⟨g, i * 4 + 1, none⟩ = some (.slice xa xn xc) := hc 1 _ rfl
            have c2 : wr.cell? ⟨g, i * 4 + 2, none⟩ = some (.bool d) := hc 2 _ rfl
            have c3 : wr.cell? ⟨g, i * 4 + 3, none⟩ = some (.bool p) := hc 3 _ rfl
            have n1 : (g = wr.heap.size) = False := eq_false (by omega)
            have n2 : (wr.heap.size = g) = False := eq_false (by omega)
            clear hc hq HQI
            go_upto_region 16 with fail
            clear c0 c1 c2 c3 n1 n2 hgl
            generalize hwb : wr.alloc _ = w7
            replace H := HS.eqW hwb H.alloc
            try simp only [World.size_alloc, List.nil_append, List.cons_append, List.append_assoc] at H
            clear hwb
            generalize wr.heap.size = b11 at H ⊢
            try clear C
            try clear wr
            have C := H.cells
            try simp only [cellsOf, cellsM, apartOf, apartM, and_true] at C
            have hq41 := HQ40.out
            skip
            by_cases hia : ai = ad
            · subst hia
              go_wp2_with fail
              go_roundw
              case rel => exact ⟨i + 1, (i : Int), by go_num, rfl, by have := HIL.out; omega, (show Hid _ from .inr ⟨i, Nat.lt_succ_self i, rfl, HAI.out⟩), HS.less H (by repeat (first | exact .slnil | refine .cons_cons _ ?_ | refine .cons _ ?_))⟩
              case measure => simp [intOf]; have := HIL.out; omega
            · have hiab : (ai == ad) = false := beq_eq_false_iff_ne.2 hia
              have HNE := Lib.hid hia
              skip
              go_wp2_with fail
              go_roundw
              case rel => exact ⟨i + 1, av, by go_num, rfl, by have := HIL.out; omega, (show Hid _ from HAT.out.next (by rw [HAI.out]; exact HNE.out)), HS.less H (by repeat (first | exact .slnil | refine .cons_cons _ ?_ | refine .cons _ ?_))⟩
              case measure => simp [intOf]; have := HIL.out; omega
          · obtain rfl : i = qs.length := by omega
            clear hi hil
            skip
            have HAD := Lib.hid (show 0 ≤ ad ∧ ad < 10 from ⟨had0, had1⟩)
            have HQK := Lib.hid hqk
            clear had1 hqk hq40
            go_wp2_with fail
            refine (next_any 5 (by omega) w.heap.size bd _ (H.at 0 rfl)).mono ?_
            rintro _ w8 ⟨v5, rfl, hv5, hd, hg⟩
            replace H := (H).diceAt 0 rfl hg hd
            clear hg hd
            try clear C
            try simp only [World.size_alloc, List.nil_append, List.cons_append, List.append_assoc] at H
            try clear wr
            have C := H.cells
            try simp only [cellsOf, cellsM, apartOf, apartM, and_true] at C
            dsimp only
            have hv51 : v5 < 5 := hv5.lt (by omega)
            have hv52 : 0 ≤ v5 := hv5.1
            have h5 : v5 = 0 ∨ v5 = 1 ∨ v5 = 2 ∨ v5 = 3 ∨ v5 = 4 := by omega
            clear hv5 hv51 hv52
            skip
            rcases h5 with rfl | rfl | rfl | h5
            · as_aux_lemma =>
                skip
                skip
                rcases HAT.out with ⟨rfl, hno⟩ | ⟨q, hqi, rfl, hqa⟩
                · as_aux_lemma =>
                  skip
                  go_upto_region 43 with fail
                  go_wp2_with fail
                  refine (cget_f HG.out ⟨sc, nc, cc⟩ ad _ (H.says 4 rfl)).mono ?_
                  rintro _ w141 ⟨⟨lU, vU, fU⟩, ⟨saU, naU, caU⟩, ⟨yaU, ynU, ycU⟩, FU, hU, rfl, K⟩
                  replace H := H.join K (one_low rfl)
                  clear K
                  try simp only [List.nil_append, List.cons_append] at H
                  skip
                  try clear C
                  try simp only [World.size_alloc, List.nil_append, List.cons_append, List.append_assoc] at H
                  have C := H.cells
                  try simp only [cellsOf, cellsM, apartOf, apartM, and_true] at C
                  dsimp only [caV, lnV]
                  have hoU := get_miss9 HG.out HR.out (AtIs.miss hno) hU
                  obtain ⟨rfl, rfl, rfl⟩ : lU = l ∧ vU = zLm ∧ fU = false := by simpa using hoU
                  clear hoU hU hno
                  dsimp only [zLm]
                  go_upto_region 44 with fail
                  generalize hwb : (w141.alloc _).alloc _ = w9
                  replace H := HS.eqW hwb H.alloc.alloc
                  try simp only [World.size_alloc, List.nil_append, List.cons_append, List.append_assoc] at H
                  clear hwb
                  generalize w141.heap.size + 1 = b13 at H ⊢
                  generalize w141.heap.size = b12 at H ⊢
                  try clear C
                  try clear w141
                  have C := H.cells
                  try simp only [cellsOf, cellsM, apartOf, apartM, and_true] at C
                  refine wp_region_xH (by kernel_rfl) (by kernel_rfl) (by kernel_rfl) (by kernel_rfl) (fun _ => False) (H) ?_
                  clear H; intro w10 H hz0 hs0
                  try clear C
                  try simp only [World.size_alloc, List.nil_append, List.cons_append, List.append_assoc] at H hz0
                  clear hz0
                  try clear w9
                  have C := H.cells
                  try simp only [cellsOf, cellsM, apartOf, apartM, and_true] at C
                  have Z := H.zs
                  try simp only [ltsOf, ltsM, and_true] at Z
                  have hz0 := Nat.le_refl w10.heap.size
                  repeat (first | (refine wpX_skip rfl ?_; go_simp) | (refine wpX_free rfl rfl rfl (fun K hK => ?_); go_step; refine hK _ _ ?_; clear hK K) | (refine wpX_load rfl rfl rfl (by simp [Stay, OneD, NoD, *]) hs0 (by simp [*]) (fun K hK => ?_); go_step; refine hK _ _ ?_; clear hK K))
                  (refine wpX_nil ?_; go_step)
                  go_upto_region 47 with fail
                  generalize hwb : (((w10.setCell _ _).setCell _ _).setCell _ _).setCell _ _ = w11
                  replace H := HS.eqW hwb (H.putAll (i := 1) rfl (vs := [.int .i64 S, .int .i64 W, .int .i64 2, .slice saU naU caU]) rfl rfl)
                  simp only [List.nil_append, List.cons_append, List.append_assoc, List.set_cons_succ, List.set_cons_zero] at H
                  clear hwb
                  try clear C
                  try clear w10
                  have C := H.cells
                  try simp only [cellsOf, cellsM, apartOf, apartM, and_true] at C
                  have H9 := HS.less (L' := [.dice w.heap.size bd, .blk b4 #[.int .i64 S, .int .i64 W, .int .i64 2, .slice saU naU caU] 24, rowL s qs.length c qs, .any F (fun w => LinesOk w qs), .any FU (fun w => SlotsAt w ⟨saU, naU, caU⟩ lU ∧ BytesAt w ⟨yaU, ynU, ycU⟩ [])]) H (by repeat (first | exact .slnil | refine .cons_cons _ ?_ | refine .cons _ ?_))
                  clear H C
                  have H := HS.weak (L := [_, _, _, _]) H9 (K' := fun w => SlotsAt w ⟨saU, naU, caU⟩ lU) (fun w' h => h.1)
                  clear H9
                  try simp only [List.nil_append, List.cons_append] at H
                  try clear C
                  try simp only [World.size_alloc, List.nil_append, List.cons_append, List.append_assoc] at H
                  have C := H.cells
                  try simp only [cellsOf, cellsM, apartOf, apartM, and_true] at C
                  go_wp2_with fail
                  refine (cvalid_f HG.out ⟨saU, naU, caU⟩ _ (H.says 4 rfl)).mono ?_
                  rintro _ w12 ⟨rfl, hb⟩
                  replace H := H.below hb
                  clear hb
                  try clear C
                  try simp only [World.size_alloc, List.nil_append, List.cons_append, List.append_assoc] at H
                  try clear w11
                  have C := H.cells
                  try simp only [cellsOf, cellsM, apartOf, apartM, and_true] at C
                  dsimp only
                  go_wp2_with fail
                  go_roundw
                  case rel => exact ⟨k + 1, s, c, qs, lU, saU, naU, caU, _, _, by go_num, rfl, by have := HLT.out; omega, by have := HQK.out; omega, HG, HR, H⟩
                  case measure => simp [intOf]; have := HLT.out; omega
                · as_aux_lemma =>
                  skip
                  obtain ⟨g, cg, hv, -, -⟩ := World.ownsRow.form (H.at 2 rfl) (by omega)
                  obtain ⟨rfl, -, rfl⟩ := Value.slice.inj hv
                  clear hv
                  have HQI := Lib.hid hqi
                  have hms := split9 hqi
                  have hle0 : ∀ m v, (lnC qs[q]!)[m]? = some v → (qs.flatMap lnC)[q * 4 + m]? = some v := fun m v => flat_get lnC_len qs q m v hqi
                  have hmem := mem_bang hqi
                  generalize hx0 : qs[q]! = x0 at hms hle0 hmem hqa
                  obtain ⟨⟨ai, bs, d, p⟩, ⟨xa, xn, xc⟩⟩ := x0
                  dsimp only at hqa hms
                  obtain rfl : ad = ai := hqa.symm
                  have HC0 := Lib.hid (show (qs.flatMap lnC)[q * 4]? = some (.int .i64 ad) from hle0 0 _ rfl)
                  have HC1 := Lib.hid (show (qs.flatMap lnC)[q * 4 + 1]? = some (.slice xa xn xc) from hle0 1 _ rfl)
                  have HC2 := Lib.hid (show (qs.flatMap lnC)[q * 4 + 2]? = some (.bool d) from hle0 2 _ rfl)
                  have HC3 := Lib.hid (show (qs.flatMap lnC)[q * 4 + 3]? = some (.bool p) from hle0 3 _ rfl)
                  have HMS := Lib.hid hms
                  have HXB := Lib.hid (fun (wx : World) (h : LinesOk wx qs) => show BytesAt wx ⟨xa, xn, xc⟩ bs from h _ hmem)
                  have HRX := Lib.hid (show Runs S l ((qs.take q).map Prod.fst ++ (⟨ad, bs, d, p⟩ : Lm) :: (qs.drop (q + 1)).map Prod.fst) from by have := HR.out; rwa [hms] at this)
                  clear hms hle0 hmem hx0 
                  have HSM := Lib.hid (fun (ya : Sv) wx h1 h2 => (show Calls Try.prog 21 #[.agg #[.int .i64 ad, .slice ya.sa ya.n ya.c, .bool d, .bool p], .agg #[.int .i64 ad, .slice xa xn xc, .bool d, .bool p]] wx (Gives (.bool true) wx) from l30same_any ⟨ad, bs, d, p⟩ ya ⟨xa, xn, xc⟩ wx h1 h2))
                  have hqq : (q : Int) < qs.length := by have := HQI.out; omega
                  have hq0 : (0 : Int) ≤ q := by omega
                  have hq41 : (q : Int) ≤ 40 := by have := HQ40.out; omega
                  go_upto_region 43 with fail
                  go_wp2_with fail
                  refine (cget_f HG.out ⟨sc, nc, cc⟩ ad _ (H.says 4 rfl)).mono ?_
                  rintro _ w141 ⟨⟨lU, vU, fU⟩, ⟨saU, naU, caU⟩, ⟨yaU, ynU, ycU⟩, FU, hU, rfl, K⟩
                  replace H := H.join K (one_low rfl)
                  clear K
                  try simp only [List.nil_append, List.cons_append] at H
                  skip
                  try clear C
                  try simp only [World.size_alloc, List.nil_append, List.cons_append, List.append_assoc] at H
                  have C := H.cells
                  try simp only [cellsOf, cellsM, apartOf, apartM, and_true] at C
                  dsimp only [caV, lnV]
                  obtain ⟨h1, h2, h3⟩ := runs_get HG.out HRX.out hU
                  have HG2 := Lib.hid (HG.out.get hU)
                  dsimp only at h1 h2 h3
                  have HR2 := Lib.hid h3
                  subst h1 h2
                  clear hU h3
                  dsimp only at H ⊢
                  go_upto_region 44 with fail
                  generalize hwb : (w141.alloc _).alloc _ = w13
                  replace H := HS.eqW hwb H.alloc.alloc
                  try simp only [World.size_alloc, List.nil_append, List.cons_append, List.append_assoc] at H
                  clear hwb
                  generalize w141.heap.size + 1 = b13 at H ⊢
                  generalize w141.heap.size = b12 at H ⊢
                  try clear C
                  try clear w141
                  have C := H.cells
                  try simp only [cellsOf, cellsM, apartOf, apartM, and_true] at C
                  refine wp_region_xH (by kernel_rfl) (by kernel_rfl) (by kernel_rfl) (by kernel_rfl) (fun _ => False) (H) ?_
                  clear H; intro w14 H hz0 hs0
                  try clear C
                  try simp only [World.size_alloc, List.nil_append, List.cons_append, List.append_assoc] at H hz0
                  clear hz0
                  try clear w13
                  have C := H.cells
                  try simp only [cellsOf, cellsM, apartOf, apartM, and_true] at C
                  have Z := H.zs
                  try simp only [ltsOf, ltsM, and_true] at Z
                  have hz0 := Nat.le_refl w14.heap.size
                  have hgl : g < w14.heap.size := Item.lt (H.at 2 rfl) (k := g) rfl
                  have e0 : w14.cell? ⟨g, q * 4, none⟩ = some (.int .i64 ad) := (H.rowCells 2 rfl (q * 4) (by have := HQI.out; omega)).1.trans HC0.out
                  have e1 : w14.cell? ⟨g, q * 4 + 1, none⟩ = some (.slice xa xn xc) := (H.rowCells 2 rfl (q * 4 + 1) (by have := HQI.out; omega)).1.trans HC1.out
                  have e2 : w14.cell? ⟨g, q * 4 + 2, none⟩ = some (.bool d) := (H.rowCells 2 rfl (q * 4 + 2) (by have := HQI.out; omega)).1.trans HC2.out
                  have e3 : w14.cell? ⟨g, q * 4 + 3, none⟩ = some (.bool p) := (H.rowCells 2 rfl (q * 4 + 3) (by have := HQI.out; omega)).1.trans HC3.out
                  repeat (first | (refine wpX_skip rfl ?_; go_simp) | (refine wpX_free rfl rfl rfl (fun K hK => ?_); go_step; refine hK _ _ ?_; clear hK K) | (refine wpX_load rfl rfl rfl (by simp [Stay, OneD, NoD, *]) hs0 (by simp [*]) (fun K hK => ?_); go_step; refine hK _ _ ?_; clear hK K))
                  refine wpX_eff rfl rfl (fun _ _ => ?_)
                  go_step
                  refine (HSM.out ⟨yaU, ynU, ycU⟩ _ (H.says 5 rfl).2 (HXB.out _ (H.says 3 rfl))).mono ?_
                  rintro _ w15 ⟨rfl, hb⟩
                  replace hs0 := hs0.belowS hz0 hb
                  replace hz0 := Nat.le_trans hz0 hb.size
                  replace H := H.below hb
                  clear hb
                  try clear C
                  have C := H.cells
                  try simp only [cellsOf, cellsM, apartOf, apartM, and_true] at C
                  try clear w14
                  dsimp only
                  go_step
                  refine ⟨hs0, ?_⟩
                  repeat (first | (refine wpX_skip rfl ?_; go_simp) | (refine wpX_free rfl rfl rfl (fun K hK => ?_); go_step; refine hK _ _ ?_; clear hK K) | (refine wpX_load rfl rfl rfl (by simp [Stay, OneD, NoD, *]) hs0 (by simp [*]) (fun K hK => ?_); go_step; refine hK _ _ ?_; clear hK K))
                  (refine wpX_nil ?_; go_step)
                  clear e0 e1 e2 e3 hgl
                  go_upto_region 47 with fail
                  generalize hwb : (((w15.setCell _ _).setCell _ _).setCell _ _).setCell _ _ = w16
                  replace H := HS.eqW hwb (H.putAll (i := 1) rfl (vs := [.int .i64 S, .int .i64 W, .int .i64 2, .slice saU naU caU]) rfl rfl)
                  simp only [List.nil_append, List.cons_append, List.append_assoc, List.set_cons_succ, List.set_cons_zero] at H
                  clear hwb
                  try clear C
                  try clear w15
                  have C := H.cells
                  try simp only [cellsOf, cellsM, apartOf, apartM, and_true] at C
                  have hcap : qs.length ≤ c := (row_capOk (H.at 2 rfl)).1
                  obtain ⟨ad9, had1, had2⟩ : ∃ ad9 : Addr, (if c = q + 1 then some ⟨g, 0, none⟩ else some ⟨g, (q + 1) * 4, none⟩ : Option Addr) = some ad9 ∧ (0 < qs.length - (q + 1) → ad9 = ⟨g, (q + 1) * 4, none⟩) := by
                    have := HQI.out
                    by_cases e : c = q + 1
                    · rw [if_pos e]; exact ⟨_, rfl, fun h => by omega⟩
                    · rw [if_neg e]; exact ⟨_, rfl, fun h => rfl⟩
                  have HAD9 := Lib.hid had2
                  have hqc : (q : Int) ≤ c := by have := HQI.out; omega
                  have hqc1 : (q : Int) + 1 ≤ c := by have := HQI.out; omega
                  have hqn1 : (q : Int) + 1 ≤ qs.length := by have := HQI.out; omega
                  have hq10 : (0 : Int) ≤ (q : Int) + 1 := by omega
                  clear had2 hcap
                  go_upto_region 48 with fail
                  have hnr := H.nilRow 35 4
                  clear H C
                  have H := hnr
                  clear hnr
                  try simp only [List.nil_append, List.cons_append] at H
                  try clear C
                  try simp only [World.size_alloc, List.nil_append, List.cons_append, List.append_assoc] at H
                  have C := H.cells
                  try simp only [cellsOf, cellsM, apartOf, apartM, and_true] at C
                  refine wp_region_h (by kernel_rfl) [0, 1, 2, 3, 4, 5, 6, 7, 8, 9, 10, 11, 12, 13, 14, 15] (by kernel_rfl) (by kernel_rfl) (by kernel_rfl) (fun _ => False) (H) ?_
                  clear H; intro w17 H hz0
                  try clear C
                  try simp only [World.size_alloc, List.nil_append, List.cons_append, List.append_assoc] at H hz0 ⊢
                  clear hz0
                  try clear w16
                  have C := H.cells
                  try simp only [cellsOf, cellsM, apartOf, apartM, and_true] at C
                  have Z := H.zs
                  try simp only [ltsOf, ltsM, and_true] at Z
                  simp only [List.filterMap_cons, List.filterMap_nil, List.getElem?_toArray, List.getElem?_cons_zero, List.getElem?_cons_succ]
                  have hgl : g < w17.heap.size := Item.lt (H.at 2 rfl) (k := g) rfl
                  have e0 : w17.cell? ⟨g, q * 4, none⟩ = some (.int .i64 ad) := (H.rowCells 2 rfl (q * 4) (by have := HQI.out; omega)).1.trans HC0.out
                  have e1 : w17.cell? ⟨g, q * 4 + 1, none⟩ = some (.slice xa xn xc) := (H.rowCells 2 rfl (q * 4 + 1) (by have := HQI.out; omega)).1.trans HC1.out
                  have e2 : w17.cell? ⟨g, q * 4 + 2, none⟩ = some (.bool d) := (H.rowCells 2 rfl (q * 4 + 2) (by have := HQI.out; omega)).1.trans HC2.out
                  have e3 : w17.cell? ⟨g, q * 4 + 3, none⟩ = some (.bool p) := (H.rowCells 2 rfl (q * 4 + 3) (by have := HQI.out; omega)).1.trans HC3.out
                  (refine wpH_free rfl rfl rfl (fun _ _ => ?_); go_step; go_step)
                  (refine wpH_free rfl rfl rfl (fun _ _ => ?_); go_step; go_step)
                  (refine wpH_yield rfl rfl (.slice (some ⟨g, 0, none⟩) q c ) (fun w _ => by  (go_simp)) ?_; go_simp)
                  refine wpH_append rfl (.const (.slice none 0 0)) (.tmp 184) 48 rfl elemLn 8 rfl rfl (by simp [Value.ownBlock]) (fun _ h => h.1) rfl (fun w hc => srcTake (hc.hs.at 2 rfl) (Nat.le_of_lt HQI.out)) (by rw [flat_len lnC_len, List.length_take, Nat.min_eq_left (Nat.le_of_lt HQI.out)]) (lnC_one _) (by have := HQ40.out; have := HQI.out; unfold maxLen; omega) (by have := HQ40.out; have := HQI.out; omega) (N := q) (by omega) (fun s4 c4 hs4 => ?_)
                  (refine wpH_free rfl rfl rfl (fun _ _ => ?_); go_step; go_step)
                  (refine wpH_free rfl rfl rfl (fun _ _ => ?_); go_step; go_step)
                  (refine wpH_free rfl rfl rfl (fun _ _ => ?_); go_step; go_step)
                  (refine wpH_yield rfl rfl (.slice (some ad9) (qs.length - (q + 1) : Nat) (c - (q + 1) : Nat) ) (fun w _ => by  (go_simp)) ?_; go_simp)
                  refine wpH_append rfl (.tmp 185) (.tmp 189) 48 rfl elemLn 8 rfl rfl hs4 (fun _ h => h.1) rfl (fun w hc => srcDrop (hc.hs.at 2 rfl) HQI.out HAD9.out) (by rw [flat_len lnC_len, List.length_drop]) (lnC_one _) (by have := HQ40.out; have := HQI.out; unfold maxLen; omega) (by have := HQ40.out; have := HQI.out; omega) (N := qs.length - 1) (by have := HQI.out; omega) (fun s4 c4 hs5 => ?_)
                  clear hs4
                  (refine wpH_free rfl rfl rfl (fun _ _ => ?_); go_step; go_step)
                  (refine wpH_free rfl rfl rfl (fun _ _ => ?_); go_step; go_step)
                  (refine wpH_yield rfl rfl (.pointer (some ⟨g, q * 4, none⟩)) (fun w _ => by go_simp) ?_; go_simp)
                  (refine wpH_load rfl rfl rfl (by simp [Stay, OneD, NoD, *]) (by simp [*]) (fun _ _ => ?_); go_step; go_step)
                  (refine wpH_lit rfl rfl #[.int .i64 ad, .slice xa xn xc, .bool d, .bool p]   35 1 (fun w => by kernel_rfl) (fun bQ hbQ nbQ _ _ => ?_); go_simp; go_step)
                  refine wpH_append rfl (.tmp 190) (.tmp 195) 48 rfl elemLn 8 rfl rfl hs5 (fun _ h => h.1) rfl (news := [((⟨ad, bs, d, p⟩ : Lm), (⟨xa, xn, xc⟩ : Sv))].flatMap lnC) (fun w hc => src_lit (Fl.at _ _ _) hc) rfl (lnC_one _) (by have := HQ40.out; have := HQI.out; unfold maxLen; omega) (by have := HQ40.out; have := HQI.out; omega) (N := qs.length) (by have := HQI.out; omega) (fun s4 c4 hs4 => ?_)
                  (refine wpH_free rfl rfl rfl (fun _ _ => ?_); go_step; go_step)
                  refine wpH_nil ?_
                  intro w18 hC
                  replace H := hC.hs
                  clear hC
                  try clear C
                  try clear Z
                  try simp only [List.nil_append, List.cons_append, List.append_assoc, List.set_cons_succ, List.set_cons_zero] at H
                  try clear w17
                  have C := H.cells
                  try simp only [cellsOf, cellsM, apartOf, apartM, and_true] at C
                  clear e0 e1 e2 e3 hgl
                  try simp only [List.nil_append] at H
                  have H9 := HS.less (L' := [.dice w.heap.size bd, .blk b4 #[.int .i64 S, .int .i64 W, .int .i64 2, .slice saU naU caU] 24, .any F (fun w => LinesOk w qs), .any FU (fun w => SlotsAt w ⟨saU, naU, caU⟩ lU ∧ BytesAt w ⟨yaU, ynU, ycU⟩ bs), .row (.slice s4 (qs.length) c4) 35 4 (qs.length) ((qs.take q).flatMap lnC ++ ((qs.drop (q + 1)).flatMap lnC ++ [((⟨ad, bs, d, p⟩ : Lm), (⟨xa, xn, xc⟩ : Sv))].flatMap lnC))]) H (by repeat (first | exact .slnil | refine .cons_cons _ ?_ | refine .cons _ ?_))
                  clear H C
                  have H8 := H9.permu (L' := [.dice w.heap.size bd, .blk b4 #[.int .i64 S, .int .i64 W, .int .i64 2, .slice saU naU caU] 24, .row (.slice s4 (qs.length) c4) 35 4 (qs.length) ((qs.take q).flatMap lnC ++ ((qs.drop (q + 1)).flatMap lnC ++ [((⟨ad, bs, d, p⟩ : Lm), (⟨xa, xn, xc⟩ : Sv))].flatMap lnC)), .any FU (fun w => SlotsAt w ⟨saU, naU, caU⟩ lU ∧ BytesAt w ⟨yaU, ynU, ycU⟩ bs), .any F (fun w => LinesOk w qs)]) (.cons _ (.cons _ (List.reverse_perm [_, _, _]).symm))
                  clear H9
                  have H7 := HS.weak (L := [_, _, _, _]) H8 (K' := fun w => LinesOk w ((qs.take q ++ qs.drop (q + 1)) ++ [((⟨ad, bs, d, p⟩ : Lm), (⟨xa, xn, xc⟩ : Sv))])) (fun w' h => linesOk_end (linesOk_mid h) (HXB.out _ h))
                  clear H8
                  have hn9 : ((qs.take q ++ qs.drop (q + 1)) ++ [((⟨ad, bs, d, p⟩ : Lm), (⟨xa, xn, xc⟩ : Sv))]).length = qs.length := by rw [List.length_append, mid_len9 HQI.out]; simp; have := HQI.out; omega
                  have H6 := H7.permu (L' := [.dice w.heap.size bd, .blk b4 #[.int .i64 S, .int .i64 W, .int .i64 2, .slice saU naU caU] 24, .row (.slice s4 (qs.length) c4) 35 4 (qs.length) ((qs.take q).flatMap lnC ++ ((qs.drop (q + 1)).flatMap lnC ++ [((⟨ad, bs, d, p⟩ : Lm), (⟨xa, xn, xc⟩ : Sv))].flatMap lnC)), _, _]) (.cons _ (.cons _ (.cons _ (List.Perm.swap _ _ _))))
                  clear H7
                  have H := HS.weak (L := [_, _, _, _]) H6 (K' := fun w => SlotsAt w ⟨saU, naU, caU⟩ lU) (fun w' h => h.1)
                  clear H6
                  try simp only [List.nil_append, List.cons_append] at H
                  have hrq : Runs S lU (((qs.take q ++ qs.drop (q + 1)) ++ [((⟨ad, bs, d, p⟩ : Lm), (⟨xa, xn, xc⟩ : Sv))]).map Prod.fst) := by have := HR2.out; simpa using this
                  have HRQ := Lib.hid hrq
                  clear hrq
                  rw [show (qs.take q).flatMap lnC ++ ((qs.drop (q + 1)).flatMap lnC ++ [((⟨ad, bs, d, p⟩ : Lm), (⟨xa, xn, xc⟩ : Sv))].flatMap lnC) = ((qs.take q ++ qs.drop (q + 1)) ++ [((⟨ad, bs, d, p⟩ : Lm), (⟨xa, xn, xc⟩ : Sv))]).flatMap lnC by simp [List.flatMap_append]] at H
                  generalize (qs.take q ++ qs.drop (q + 1)) ++ [((⟨ad, bs, d, p⟩ : Lm), (⟨xa, xn, xc⟩ : Sv))] = qr at H HRQ hn9
                  rw [← hn9] at H
                  rw [← hn9]
                  try clear C
                  try simp only [World.size_alloc, List.nil_append, List.cons_append, List.append_assoc] at H
                  have C := H.cells
                  try simp only [cellsOf, cellsM, apartOf, apartM, and_true] at C
                  go_wp2_with fail
                  refine (cvalid_f HG2.out ⟨saU, naU, caU⟩ _ (H.says 4 rfl)).mono ?_
                  rintro _ w19 ⟨rfl, hb⟩
                  replace H := H.below hb
                  clear hb
                  try clear C
                  try simp only [World.size_alloc, List.nil_append, List.cons_append, List.append_assoc] at H
                  try clear w18
                  have C := H.cells
                  try simp only [cellsOf, cellsM, apartOf, apartM, and_true] at C
                  dsimp only
                  go_wp2_with fail
                  go_roundw
                  case rel => exact ⟨k + 1, s4, c4, qr, lU, saU, naU, caU, _, _, by go_num, by rw [hn9], by have := HLT.out; omega, by have := HQK.out; omega, HG2, HRQ, H⟩
                  case measure => simp [intOf]; have := HLT.out; omega
            · as_aux_lemma =>
                skip
                skip
                rcases HAT.out with ⟨rfl, hno⟩ | ⟨q, hqi, rfl, hqa⟩
                · as_aux_lemma =>
                  skip
                  go_upto_region 43 with fail
                  go_wp2_with fail
                  refine (cget_f HG.out ⟨sc, nc, cc⟩ ad _ (H.says 4 rfl)).mono ?_
                  rintro _ w144 ⟨⟨lU, vU, fU⟩, ⟨saU, naU, caU⟩, ⟨yaU, ynU, ycU⟩, FU, hU, rfl, K⟩
                  replace H := H.join K (one_low rfl)
                  clear K
                  try simp only [List.nil_append, List.cons_append] at H
                  skip
                  try clear C
                  try simp only [World.size_alloc, List.nil_append, List.cons_append, List.append_assoc] at H
                  have C := H.cells
                  try simp only [cellsOf, cellsM, apartOf, apartM, and_true] at C
                  dsimp only [caV, lnV]
                  have hoU := get_miss9 HG.out HR.out (AtIs.miss hno) hU
                  obtain ⟨rfl, rfl, rfl⟩ : lU = l ∧ vU = zLm ∧ fU = false := by simpa using hoU
                  clear hoU hU hno
                  dsimp only [zLm]
                  go_upto_region 44 with fail
                  generalize hwb : (w144.alloc _).alloc _ = w20
                  replace H := HS.eqW hwb H.alloc.alloc
                  try simp only [World.size_alloc, List.nil_append, List.cons_append, List.append_assoc] at H
                  clear hwb
                  generalize w144.heap.size + 1 = b13 at H ⊢
                  generalize w144.heap.size = b12 at H ⊢
                  try clear C
                  try clear w144
                  have C := H.cells
                  try simp only [cellsOf, cellsM, apartOf, apartM, and_true] at C
                  refine wp_region_xH (by kernel_rfl) (by kernel_rfl) (by kernel_rfl) (by kernel_rfl) (fun _ => False) (H) ?_
                  clear H; intro w21 H hz0 hs0
                  try clear C
                  try simp only [World.size_alloc, List.nil_append, List.cons_append, List.append_assoc] at H hz0
                  clear hz0
                  try clear w20
                  have C := H.cells
                  try simp only [cellsOf, cellsM, apartOf, apartM, and_true] at C
                  have Z := H.zs
                  try simp only [ltsOf, ltsM, and_true] at Z
                  have hz0 := Nat.le_refl w21.heap.size
                  repeat (first | (refine wpX_skip rfl ?_; go_simp) | (refine wpX_free rfl rfl rfl (fun K hK => ?_); go_step; refine hK _ _ ?_; clear hK K) | (refine wpX_load rfl rfl rfl (by simp [Stay, OneD, NoD, *]) hs0 (by simp [*]) (fun K hK => ?_); go_step; refine hK _ _ ?_; clear hK K))
                  (refine wpX_nil ?_; go_step)
                  go_upto_region 47 with fail
                  generalize hwb : (((w21.setCell _ _).setCell _ _).setCell _ _).setCell _ _ = w22
                  replace H := HS.eqW hwb (H.putAll (i := 1) rfl (vs := [.int .i64 S, .int .i64 W, .int .i64 2, .slice saU naU caU]) rfl rfl)
                  simp only [List.nil_append, List.cons_append, List.append_assoc, List.set_cons_succ, List.set_cons_zero] at H
                  clear hwb
                  try clear C
                  try clear w21
                  have C := H.cells
                  try simp only [cellsOf, cellsM, apartOf, apartM, and_true] at C
                  have H9 := HS.less (L' := [.dice w.heap.size bd, .blk b4 #[.int .i64 S, .int .i64 W, .int .i64 2, .slice saU naU caU] 24, rowL s qs.length c qs, .any F (fun w => LinesOk w qs), .any FU (fun w => SlotsAt w ⟨saU, naU, caU⟩ lU ∧ BytesAt w ⟨yaU, ynU, ycU⟩ [])]) H (by repeat (first | exact .slnil | refine .cons_cons _ ?_ | refine .cons _ ?_))
                  clear H C
                  have H := HS.weak (L := [_, _, _, _]) H9 (K' := fun w => SlotsAt w ⟨saU, naU, caU⟩ lU) (fun w' h => h.1)
                  clear H9
                  try simp only [List.nil_append, List.cons_append] at H
                  try clear C
                  try simp only [World.size_alloc, List.nil_append, List.cons_append, List.append_assoc] at H
                  have C := H.cells
                  try simp only [cellsOf, cellsM, apartOf, apartM, and_true] at C
                  go_wp2_with fail
                  refine (cvalid_f HG.out ⟨saU, naU, caU⟩ _ (H.says 4 rfl)).mono ?_
                  rintro _ w23 ⟨rfl, hb⟩
                  replace H := H.below hb
                  clear hb
                  try clear C
                  try simp only [World.size_alloc, List.nil_append, List.cons_append, List.append_assoc] at H
                  try clear w22
                  have C := H.cells
                  try simp only [cellsOf, cellsM, apartOf, apartM, and_true] at C
                  dsimp only
                  go_wp2_with fail
                  go_roundw
                  case rel => exact ⟨k + 1, s, c, qs, lU, saU, naU, caU, _, _, by go_num, rfl, by have := HLT.out; omega, by have := HQK.out; omega, HG, HR, H⟩
                  case measure => simp [intOf]; have := HLT.out; omega
                · as_aux_lemma =>
                  skip
                  obtain ⟨g, cg, hv, -, -⟩ := World.ownsRow.form (H.at 2 rfl) (by omega)
                  obtain ⟨rfl, -, rfl⟩ := Value.slice.inj hv
                  clear hv
                  have HQI := Lib.hid hqi
                  have hms := split9 hqi
                  have hle0 : ∀ m v, (lnC qs[q]!)[m]? = some v → (qs.flatMap lnC)[q * 4 + m]? = some v := fun m v => flat_get lnC_len qs q m v hqi
                  have hmem := mem_bang hqi
                  generalize hx0 : qs[q]! = x0 at hms hle0 hmem hqa
                  obtain ⟨⟨ai, bs, d, p⟩, ⟨xa, xn, xc⟩⟩ := x0
                  dsimp only at hqa hms
                  obtain rfl : ad = ai := hqa.symm
                  have HC0 := Lib.hid (show (qs.flatMap lnC)[q * 4]? = some (.int .i64 ad) from hle0 0 _ rfl)
                  have HC1 := Lib.hid (show (qs.flatMap lnC)[q * 4 + 1]? = some (.slice xa xn xc) from hle0 1 _ rfl)
                  have HC2 := Lib.hid (show (qs.flatMap lnC)[q * 4 + 2]? = some (.bool d) from hle0 2 _ rfl)
                  have HC3 := Lib.hid (show (qs.flatMap lnC)[q * 4 + 3]? = some (.bool p) from hle0 3 _ rfl)
                  have HMS := Lib.hid hms
                  have HXB := Lib.hid (fun (wx : World) (h : LinesOk wx qs) => show BytesAt wx ⟨xa, xn, xc⟩ bs from h _ hmem)
                  have HRX := Lib.hid (show Runs S l ((qs.take q).map Prod.fst ++ (⟨ad, bs, d, p⟩ : Lm) :: (qs.drop (q + 1)).map Prod.fst) from by have := HR.out; rwa [hms] at this)
                  clear hms hle0 hmem hx0 
                  have HSM := Lib.hid (fun (ya : Sv) wx h1 h2 => (show Calls Try.prog 21 #[.agg #[.int .i64 ad, .slice ya.sa ya.n ya.c, .bool d, .bool p], .agg #[.int .i64 ad, .slice xa xn xc, .bool d, .bool p]] wx (Gives (.bool true) wx) from l30same_any ⟨ad, bs, d, p⟩ ya ⟨xa, xn, xc⟩ wx h1 h2))
                  have hqq : (q : Int) < qs.length := by have := HQI.out; omega
                  have hq0 : (0 : Int) ≤ q := by omega
                  have hq41 : (q : Int) ≤ 40 := by have := HQ40.out; omega
                  go_upto_region 43 with fail
                  go_wp2_with fail
                  refine (cget_f HG.out ⟨sc, nc, cc⟩ ad _ (H.says 4 rfl)).mono ?_
                  rintro _ w144 ⟨⟨lU, vU, fU⟩, ⟨saU, naU, caU⟩, ⟨yaU, ynU, ycU⟩, FU, hU, rfl, K⟩
                  replace H := H.join K (one_low rfl)
                  clear K
                  try simp only [List.nil_append, List.cons_append] at H
                  skip
                  try clear C
                  try simp only [World.size_alloc, List.nil_append, List.cons_append, List.append_assoc] at H
                  have C := H.cells
                  try simp only [cellsOf, cellsM, apartOf, apartM, and_true] at C
                  dsimp only [caV, lnV]
                  obtain ⟨h1, h2, h3⟩ := runs_get HG.out HRX.out hU
                  have HG2 := Lib.hid (HG.out.get hU)
                  dsimp only at h1 h2 h3
                  have HR2 := Lib.hid h3
                  subst h1 h2
                  clear hU h3
                  dsimp only at H ⊢
                  go_upto_region 44 with fail
                  generalize hwb : (w144.alloc _).alloc _ = w24
                  replace H := HS.eqW hwb H.alloc.alloc
                  try simp only [World.size_alloc, List.nil_append, List.cons_append, List.append_assoc] at H
                  clear hwb
                  generalize w144.heap.size + 1 = b13 at H ⊢
                  generalize w144.heap.size = b12 at H ⊢
                  try clear C
                  try clear w144
                  have C := H.cells
                  try simp only [cellsOf, cellsM, apartOf, apartM, and_true] at C
                  refine wp_region_xH (by kernel_rfl) (by kernel_rfl) (by kernel_rfl) (by kernel_rfl) (fun _ => False) (H) ?_
                  clear H; intro w25 H hz0 hs0
                  try clear C
                  try simp only [World.size_alloc, List.nil_append, List.cons_append, List.append_assoc] at H hz0
                  clear hz0
                  try clear w24
                  have C := H.cells
                  try simp only [cellsOf, cellsM, apartOf, apartM, and_true] at C
                  have Z := H.zs
                  try simp only [ltsOf, ltsM, and_true] at Z
                  have hz0 := Nat.le_refl w25.heap.size
                  have hgl : g < w25.heap.size := Item.lt (H.at 2 rfl) (k := g) rfl
                  have e0 : w25.cell? ⟨g, q * 4, none⟩ = some (.int .i64 ad) := (H.rowCells 2 rfl (q * 4) (by have := HQI.out; omega)).1.trans HC0.out
                  have e1 : w25.cell? ⟨g, q * 4 + 1, none⟩ = some (.slice xa xn xc) := (H.rowCells 2 rfl (q * 4 + 1) (by have := HQI.out; omega)).1.trans HC1.out
                  have e2 : w25.cell? ⟨g, q * 4 + 2, none⟩ = some (.bool d) := (H.rowCells 2 rfl (q * 4 + 2) (by have := HQI.out; omega)).1.trans HC2.out
                  have e3 : w25.cell? ⟨g, q * 4 + 3, none⟩ = some (.bool p) := (H.rowCells 2 rfl (q * 4 + 3) (by have := HQI.out; omega)).1.trans HC3.out
                  repeat (first | (refine wpX_skip rfl ?_; go_simp) | (refine wpX_free rfl rfl rfl (fun K hK => ?_); go_step; refine hK _ _ ?_; clear hK K) | (refine wpX_load rfl rfl rfl (by simp [Stay, OneD, NoD, *]) hs0 (by simp [*]) (fun K hK => ?_); go_step; refine hK _ _ ?_; clear hK K))
                  refine wpX_eff rfl rfl (fun _ _ => ?_)
                  go_step
                  refine (HSM.out ⟨yaU, ynU, ycU⟩ _ (H.says 5 rfl).2 (HXB.out _ (H.says 3 rfl))).mono ?_
                  rintro _ w26 ⟨rfl, hb⟩
                  replace hs0 := hs0.belowS hz0 hb
                  replace hz0 := Nat.le_trans hz0 hb.size
                  replace H := H.below hb
                  clear hb
                  try clear C
                  have C := H.cells
                  try simp only [cellsOf, cellsM, apartOf, apartM, and_true] at C
                  try clear w25
                  dsimp only
                  go_step
                  refine ⟨hs0, ?_⟩
                  repeat (first | (refine wpX_skip rfl ?_; go_simp) | (refine wpX_free rfl rfl rfl (fun K hK => ?_); go_step; refine hK _ _ ?_; clear hK K) | (refine wpX_load rfl rfl rfl (by simp [Stay, OneD, NoD, *]) hs0 (by simp [*]) (fun K hK => ?_); go_step; refine hK _ _ ?_; clear hK K))
                  (refine wpX_nil ?_; go_step)
                  clear e0 e1 e2 e3 hgl
                  go_upto_region 47 with fail
                  generalize hwb : (((w26.setCell _ _).setCell _ _).setCell _ _).setCell _ _ = w27
                  replace H := HS.eqW hwb (H.putAll (i := 1) rfl (vs := [.int .i64 S, .int .i64 W, .int .i64 2, .slice saU naU caU]) rfl rfl)
                  simp only [List.nil_append, List.cons_append, List.append_assoc, List.set_cons_succ, List.set_cons_zero] at H
                  clear hwb
                  try clear C
                  try clear w26
                  have C := H.cells
                  try simp only [cellsOf, cellsM, apartOf, apartM, and_true] at C
                  have hcap : qs.length ≤ c := (row_capOk (H.at 2 rfl)).1
                  obtain ⟨ad9, had1, had2⟩ : ∃ ad9 : Addr, (if c = q + 1 then some ⟨g, 0, none⟩ else some ⟨g, (q + 1) * 4, none⟩ : Option Addr) = some ad9 ∧ (0 < qs.length - (q + 1) → ad9 = ⟨g, (q + 1) * 4, none⟩) := by
                    have := HQI.out
                    by_cases e : c = q + 1
                    · rw [if_pos e]; exact ⟨_, rfl, fun h => by omega⟩
                    · rw [if_neg e]; exact ⟨_, rfl, fun h => rfl⟩
                  have HAD9 := Lib.hid had2
                  have hqc : (q : Int) ≤ c := by have := HQI.out; omega
                  have hqc1 : (q : Int) + 1 ≤ c := by have := HQI.out; omega
                  have hqn1 : (q : Int) + 1 ≤ qs.length := by have := HQI.out; omega
                  have hq10 : (0 : Int) ≤ (q : Int) + 1 := by omega
                  clear had2 hcap
                  go_upto_region 48 with fail
                  have hnr := H.nilRow 35 4
                  clear H C
                  have H := hnr
                  clear hnr
                  try simp only [List.nil_append, List.cons_append] at H
                  try clear C
                  try simp only [World.size_alloc, List.nil_append, List.cons_append, List.append_assoc] at H
                  have C := H.cells
                  try simp only [cellsOf, cellsM, apartOf, apartM, and_true] at C
                  refine wp_region_h (by kernel_rfl) [0, 1, 2, 3, 4, 5, 6, 7, 8, 9, 10, 11, 12, 13, 14, 15] (by kernel_rfl) (by kernel_rfl) (by kernel_rfl) (fun _ => False) (H) ?_
                  clear H; intro w28 H hz0
                  try clear C
                  try simp only [World.size_alloc, List.nil_append, List.cons_append, List.append_assoc] at H hz0 ⊢
                  clear hz0
                  try clear w27
                  have C := H.cells
                  try simp only [cellsOf, cellsM, apartOf, apartM, and_true] at C
                  have Z := H.zs
                  try simp only [ltsOf, ltsM, and_true] at Z
                  simp only [List.filterMap_cons, List.filterMap_nil, List.getElem?_toArray, List.getElem?_cons_zero, List.getElem?_cons_succ]
                  have hgl : g < w28.heap.size := Item.lt (H.at 2 rfl) (k := g) rfl
                  have e0 : w28.cell? ⟨g, q * 4, none⟩ = some (.int .i64 ad) := (H.rowCells 2 rfl (q * 4) (by have := HQI.out; omega)).1.trans HC0.out
                  have e1 : w28.cell? ⟨g, q * 4 + 1, none⟩ = some (.slice xa xn xc) := (H.rowCells 2 rfl (q * 4 + 1) (by have := HQI.out; omega)).1.trans HC1.out
                  have e2 : w28.cell? ⟨g, q * 4 + 2, none⟩ = some (.bool d) := (H.rowCells 2 rfl (q * 4 + 2) (by have := HQI.out; omega)).1.trans HC2.out
                  have e3 : w28.cell? ⟨g, q * 4 + 3, none⟩ = some (.bool p) := (H.rowCells 2 rfl (q * 4 + 3) (by have := HQI.out; omega)).1.trans HC3.out
                  (refine wpH_free rfl rfl rfl (fun _ _ => ?_); go_step; go_step)
                  (refine wpH_free rfl rfl rfl (fun _ _ => ?_); go_step; go_step)
                  (refine wpH_yield rfl rfl (.slice (some ⟨g, 0, none⟩) q c ) (fun w _ => by  (go_simp)) ?_; go_simp)
                  refine wpH_append rfl (.const (.slice none 0 0)) (.tmp 184) 48 rfl elemLn 8 rfl rfl (by simp [Value.ownBlock]) (fun _ h => h.1) rfl (fun w hc => srcTake (hc.hs.at 2 rfl) (Nat.le_of_lt HQI.out)) (by rw [flat_len lnC_len, List.length_take, Nat.min_eq_left (Nat.le_of_lt HQI.out)]) (lnC_one _) (by have := HQ40.out; have := HQI.out; unfold maxLen; omega) (by have := HQ40.out; have := HQI.out; omega) (N := q) (by omega) (fun s4 c4 hs4 => ?_)
                  (refine wpH_free rfl rfl rfl (fun _ _ => ?_); go_step; go_step)
                  (refine wpH_free rfl rfl rfl (fun _ _ => ?_); go_step; go_step)
                  (refine wpH_free rfl rfl rfl (fun _ _ => ?_); go_step; go_step)
                  (refine wpH_yield rfl rfl (.slice (some ad9) (qs.length - (q + 1) : Nat) (c - (q + 1) : Nat) ) (fun w _ => by  (go_simp)) ?_; go_simp)
                  refine wpH_append rfl (.tmp 185) (.tmp 189) 48 rfl elemLn 8 rfl rfl hs4 (fun _ h => h.1) rfl (fun w hc => srcDrop (hc.hs.at 2 rfl) HQI.out HAD9.out) (by rw [flat_len lnC_len, List.length_drop]) (lnC_one _) (by have := HQ40.out; have := HQI.out; unfold maxLen; omega) (by have := HQ40.out; have := HQI.out; omega) (N := qs.length - 1) (by have := HQI.out; omega) (fun s4 c4 hs5 => ?_)
                  clear hs4
                  (refine wpH_free rfl rfl rfl (fun _ _ => ?_); go_step; go_step)
                  (refine wpH_free rfl rfl rfl (fun _ _ => ?_); go_step; go_step)
                  (refine wpH_yield rfl rfl (.pointer (some ⟨g, q * 4, none⟩)) (fun w _ => by go_simp) ?_; go_simp)
                  (refine wpH_load rfl rfl rfl (by simp [Stay, OneD, NoD, *]) (by simp [*]) (fun _ _ => ?_); go_step; go_step)
                  (refine wpH_lit rfl rfl #[.int .i64 ad, .slice xa xn xc, .bool d, .bool p]   35 1 (fun w => by kernel_rfl) (fun bQ hbQ nbQ _ _ => ?_); go_simp; go_step)
                  refine wpH_append rfl (.tmp 190) (.tmp 195) 48 rfl elemLn 8 rfl rfl hs5 (fun _ h => h.1) rfl (news := [((⟨ad, bs, d, p⟩ : Lm), (⟨xa, xn, xc⟩ : Sv))].flatMap lnC) (fun w hc => src_lit (Fl.at _ _ _) hc) rfl (lnC_one _) (by have := HQ40.out; have := HQI.out; unfold maxLen; omega) (by have := HQ40.out; have := HQI.out; omega) (N := qs.length) (by have := HQI.out; omega) (fun s4 c4 hs4 => ?_)
                  (refine wpH_free rfl rfl rfl (fun _ _ => ?_); go_step; go_step)
                  refine wpH_nil ?_
                  intro w29 hC
                  replace H := hC.hs
                  clear hC
                  try clear C
                  try clear Z
                  try simp only [List.nil_append, List.cons_append, List.append_assoc, List.set_cons_succ, List.set_cons_zero] at H
                  try clear w28
                  have C := H.cells
                  try simp only [cellsOf, cellsM, apartOf, apartM, and_true] at C
                  clear e0 e1 e2 e3 hgl
                  try simp only [List.nil_append] at H
                  have H9 := HS.less (L' := [.dice w.heap.size bd, .blk b4 #[.int .i64 S, .int .i64 W, .int .i64 2, .slice saU naU caU] 24, .any F (fun w => LinesOk w qs), .any FU (fun w => SlotsAt w ⟨saU, naU, caU⟩ lU ∧ BytesAt w ⟨yaU, ynU, ycU⟩ bs), .row (.slice s4 (qs.length) c4) 35 4 (qs.length) ((qs.take q).flatMap lnC ++ ((qs.drop (q + 1)).flatMap lnC ++ [((⟨ad, bs, d, p⟩ : Lm), (⟨xa, xn, xc⟩ : Sv))].flatMap lnC))]) H (by repeat (first | exact .slnil | refine .cons_cons _ ?_ | refine .cons _ ?_))
                  clear H C
                  have H8 := H9.permu (L' := [.dice w.heap.size bd, .blk b4 #[.int .i64 S, .int .i64 W, .int .i64 2, .slice saU naU caU] 24, .row (.slice s4 (qs.length) c4) 35 4 (qs.length) ((qs.take q).flatMap lnC ++ ((qs.drop (q + 1)).flatMap lnC ++ [((⟨ad, bs, d, p⟩ : Lm), (⟨xa, xn, xc⟩ : Sv))].flatMap lnC)), .any FU (fun w => SlotsAt w ⟨saU, naU, caU⟩ lU ∧ BytesAt w ⟨yaU, ynU, ycU⟩ bs), .any F (fun w => LinesOk w qs)]) (.cons _ (.cons _ (List.reverse_perm [_, _, _]).symm))
                  clear H9
                  have H7 := HS.weak (L := [_, _, _, _]) H8 (K' := fun w => LinesOk w ((qs.take q ++ qs.drop (q + 1)) ++ [((⟨ad, bs, d, p⟩ : Lm), (⟨xa, xn, xc⟩ : Sv))])) (fun w' h => linesOk_end (linesOk_mid h) (HXB.out _ h))
                  clear H8
                  have hn9 : ((qs.take q ++ qs.drop (q + 1)) ++ [((⟨ad, bs, d, p⟩ : Lm), (⟨xa, xn, xc⟩ : Sv))]).length = qs.length := by rw [List.length_append, mid_len9 HQI.out]; simp; have := HQI.out; omega
                  have H6 := H7.permu (L' := [.dice w.heap.size bd, .blk b4 #[.int .i64 S, .int .i64 W, .int .i64 2, .slice saU naU caU] 24, .row (.slice s4 (qs.length) c4) 35 4 (qs.length) ((qs.take q).flatMap lnC ++ ((qs.drop (q + 1)).flatMap lnC ++ [((⟨ad, bs, d, p⟩ : Lm), (⟨xa, xn, xc⟩ : Sv))].flatMap lnC)), _, _]) (.cons _ (.cons _ (.cons _ (List.Perm.swap _ _ _))))
                  clear H7
                  have H := HS.weak (L := [_, _, _, _]) H6 (K' := fun w => SlotsAt w ⟨saU, naU, caU⟩ lU) (fun w' h => h.1)
                  clear H6
                  try simp only [List.nil_append, List.cons_append] at H
                  have hrq : Runs S lU (((qs.take q ++ qs.drop (q + 1)) ++ [((⟨ad, bs, d, p⟩ : Lm), (⟨xa, xn, xc⟩ : Sv))]).map Prod.fst) := by have := HR2.out; simpa using this
                  have HRQ := Lib.hid hrq
                  clear hrq
                  rw [show (qs.take q).flatMap lnC ++ ((qs.drop (q + 1)).flatMap lnC ++ [((⟨ad, bs, d, p⟩ : Lm), (⟨xa, xn, xc⟩ : Sv))].flatMap lnC) = ((qs.take q ++ qs.drop (q + 1)) ++ [((⟨ad, bs, d, p⟩ : Lm), (⟨xa, xn, xc⟩ : Sv))]).flatMap lnC by simp [List.flatMap_append]] at H
                  generalize (qs.take q ++ qs.drop (q + 1)) ++ [((⟨ad, bs, d, p⟩ : Lm), (⟨xa, xn, xc⟩ : Sv))] = qr at H HRQ hn9
                  rw [← hn9] at H
                  rw [← hn9]
                  try clear C
                  try simp only [World.size_alloc, List.nil_append, List.cons_append, List.append_assoc] at H
                  have C := H.cells
                  try simp only [cellsOf, cellsM, apartOf, apartM, and_true] at C
                  go_wp2_with fail
                  refine (cvalid_f HG2.out ⟨saU, naU, caU⟩ _ (H.says 4 rfl)).mono ?_
                  rintro _ w30 ⟨rfl, hb⟩
                  replace H := H.below hb
                  clear hb
                  try clear C
                  try simp only [World.size_alloc, List.nil_append, List.cons_append, List.append_assoc] at H
                  try clear w29
                  have C := H.cells
                  try simp only [cellsOf, cellsM, apartOf, apartM, and_true] at C
                  dsimp only
                  go_wp2_with fail
                  go_roundw
                  case rel => exact ⟨k + 1, s4, c4, qr, lU, saU, naU, caU, _, _, by go_num, by rw [hn9], by have := HLT.out; omega, by have := HQK.out; omega, HG2, HRQ, H⟩
                  case measure => simp [intOf]; have := HLT.out; omega
            · as_aux_lemma =>
                skip
                skip
                rcases HAT.out with ⟨rfl, hno⟩ | ⟨q, hqi, rfl, hqa⟩
                · as_aux_lemma =>
                  skip
                  go_upto_region 50 with fail
                  go_wp2_with fail
                  refine (cdrop_f HG.out ⟨sc, nc, cc⟩ ad _ (H.says 4 rfl)).mono ?_
                  rintro _ w147 ⟨⟨lU, vU, fU⟩, ⟨saU, naU, caU⟩, ⟨yaU, ynU, ycU⟩, FU, hU, rfl, K⟩
                  replace H := H.join K (one_low rfl)
                  clear K
                  try simp only [List.nil_append, List.cons_append] at H
                  skip
                  try clear C
                  try simp only [World.size_alloc, List.nil_append, List.cons_append, List.append_assoc] at H
                  have C := H.cells
                  try simp only [cellsOf, cellsM, apartOf, apartM, and_true] at C
                  dsimp only [caV, lnV]
                  have hoU := drop_miss9 HG.out HR.out (AtIs.miss hno) hU
                  obtain ⟨rfl, rfl, rfl⟩ : lU = l ∧ vU = zLm ∧ fU = false := by simpa using hoU
                  clear hoU hU hno
                  dsimp only [zLm]
                  go_upto_region 51 with fail
                  generalize hwb : (w147.alloc _).alloc _ = w31
                  replace H := HS.eqW hwb H.alloc.alloc
                  try simp only [World.size_alloc, List.nil_append, List.cons_append, List.append_assoc] at H
                  clear hwb
                  generalize w147.heap.size + 1 = b16 at H ⊢
                  generalize w147.heap.size = b15 at H ⊢
                  try clear C
                  try clear w147
                  have C := H.cells
                  try simp only [cellsOf, cellsM, apartOf, apartM, and_true] at C
                  refine wp_region_xH (by kernel_rfl) (by kernel_rfl) (by kernel_rfl) (by kernel_rfl) (fun _ => False) (H) ?_
                  clear H; intro w32 H hz0 hs0
                  try clear C
                  try simp only [World.size_alloc, List.nil_append, List.cons_append, List.append_assoc] at H hz0
                  clear hz0
                  try clear w31
                  have C := H.cells
                  try simp only [cellsOf, cellsM, apartOf, apartM, and_true] at C
                  have Z := H.zs
                  try simp only [ltsOf, ltsM, and_true] at Z
                  have hz0 := Nat.le_refl w32.heap.size
                  repeat (first | (refine wpX_skip rfl ?_; go_simp) | (refine wpX_free rfl rfl rfl (fun K hK => ?_); go_step; refine hK _ _ ?_; clear hK K) | (refine wpX_load rfl rfl rfl (by simp [Stay, OneD, NoD, *]) hs0 (by simp [*]) (fun K hK => ?_); go_step; refine hK _ _ ?_; clear hK K))
                  (refine wpX_nil ?_; go_step)
                  go_upto_region 54 with fail
                  generalize hwb : (((w32.setCell _ _).setCell _ _).setCell _ _).setCell _ _ = w33
                  replace H := HS.eqW hwb (H.putAll (i := 1) rfl (vs := [.int .i64 S, .int .i64 W, .int .i64 2, .slice saU naU caU]) rfl rfl)
                  simp only [List.nil_append, List.cons_append, List.append_assoc, List.set_cons_succ, List.set_cons_zero] at H
                  clear hwb
                  try clear C
                  try clear w32
                  have C := H.cells
                  try simp only [cellsOf, cellsM, apartOf, apartM, and_true] at C
                  have H9 := HS.less (L' := [.dice w.heap.size bd, .blk b4 #[.int .i64 S, .int .i64 W, .int .i64 2, .slice saU naU caU] 24, rowL s qs.length c qs, .any F (fun w => LinesOk w qs), .any FU (fun w => SlotsAt w ⟨saU, naU, caU⟩ lU ∧ BytesAt w ⟨yaU, ynU, ycU⟩ [])]) H (by repeat (first | exact .slnil | refine .cons_cons _ ?_ | refine .cons _ ?_))
                  clear H C
                  have H := HS.weak (L := [_, _, _, _]) H9 (K' := fun w => SlotsAt w ⟨saU, naU, caU⟩ lU) (fun w' h => h.1)
                  clear H9
                  try simp only [List.nil_append, List.cons_append] at H
                  try clear C
                  try simp only [World.size_alloc, List.nil_append, List.cons_append, List.append_assoc] at H
                  have C := H.cells
                  try simp only [cellsOf, cellsM, apartOf, apartM, and_true] at C
                  go_wp2_with fail
                  refine (cvalid_f HG.out ⟨saU, naU, caU⟩ _ (H.says 4 rfl)).mono ?_
                  rintro _ w34 ⟨rfl, hb⟩
                  replace H := H.below hb
                  clear hb
                  try clear C
                  try simp only [World.size_alloc, List.nil_append, List.cons_append, List.append_assoc] at H
                  try clear w33
                  have C := H.cells
                  try simp only [cellsOf, cellsM, apartOf, apartM, and_true] at C
                  dsimp only
                  go_wp2_with fail
                  go_roundw
                  case rel => exact ⟨k + 1, s, c, qs, lU, saU, naU, caU, _, _, by go_num, rfl, by have := HLT.out; omega, by have := HQK.out; omega, HG, HR, H⟩
                  case measure => simp [intOf]; have := HLT.out; omega
                · as_aux_lemma =>
                  skip
                  obtain ⟨g, cg, hv, -, -⟩ := World.ownsRow.form (H.at 2 rfl) (by omega)
                  obtain ⟨rfl, -, rfl⟩ := Value.slice.inj hv
                  clear hv
                  have HQI := Lib.hid hqi
                  have hms := split9 hqi
                  have hle0 : ∀ m v, (lnC qs[q]!)[m]? = some v → (qs.flatMap lnC)[q * 4 + m]? = some v := fun m v => flat_get lnC_len qs q m v hqi
                  have hmem := mem_bang hqi
                  generalize hx0 : qs[q]! = x0 at hms hle0 hmem hqa
                  obtain ⟨⟨ai, bs, d, p⟩, ⟨xa, xn, xc⟩⟩ := x0
                  dsimp only at hqa hms
                  obtain rfl : ad = ai := hqa.symm
                  have HC0 := Lib.hid (show (qs.flatMap lnC)[q * 4]? = some (.int .i64 ad) from hle0 0 _ rfl)
                  have HC1 := Lib.hid (show (qs.flatMap lnC)[q * 4 + 1]? = some (.slice xa xn xc) from hle0 1 _ rfl)
                  have HC2 := Lib.hid (show (qs.flatMap lnC)[q * 4 + 2]? = some (.bool d) from hle0 2 _ rfl)
                  have HC3 := Lib.hid (show (qs.flatMap lnC)[q * 4 + 3]? = some (.bool p) from hle0 3 _ rfl)
                  have HMS := Lib.hid hms
                  have HXB := Lib.hid (fun (wx : World) (h : LinesOk wx qs) => show BytesAt wx ⟨xa, xn, xc⟩ bs from h _ hmem)
                  have HRX := Lib.hid (show Runs S l ((qs.take q).map Prod.fst ++ (⟨ad, bs, d, p⟩ : Lm) :: (qs.drop (q + 1)).map Prod.fst) from by have := HR.out; rwa [hms] at this)
                  clear hms hle0 hmem hx0 
                  have HSM := Lib.hid (fun (ya : Sv) wx h1 h2 => (show Calls Try.prog 21 #[.agg #[.int .i64 ad, .slice ya.sa ya.n ya.c, .bool d, .bool p], .agg #[.int .i64 ad, .slice xa xn xc, .bool d, .bool p]] wx (Gives (.bool true) wx) from l30same_any ⟨ad, bs, d, p⟩ ya ⟨xa, xn, xc⟩ wx h1 h2))
                  have hqq : (q : Int) < qs.length := by have := HQI.out; omega
                  have hq0 : (0 : Int) ≤ q := by omega
                  have hq41 : (q : Int) ≤ 40 := by have := HQ40.out; omega
                  go_upto_region 50 with fail
                  go_wp2_with fail
                  refine (cdrop_f HG.out ⟨sc, nc, cc⟩ ad _ (H.says 4 rfl)).mono ?_
                  rintro _ w147 ⟨⟨lU, vU, fU⟩, ⟨saU, naU, caU⟩, ⟨yaU, ynU, ycU⟩, FU, hU, rfl, K⟩
                  replace H := H.join K (one_low rfl)
                  clear K
                  try simp only [List.nil_append, List.cons_append] at H
                  skip
                  try clear C
                  try simp only [World.size_alloc, List.nil_append, List.cons_append, List.append_assoc] at H
                  have C := H.cells
                  try simp only [cellsOf, cellsM, apartOf, apartM, and_true] at C
                  dsimp only [caV, lnV]
                  obtain ⟨h1, h2, h3⟩ := runs_drop HG.out HRX.out hU
                  have HG2 := Lib.hid (HG.out.drop hU)
                  dsimp only at h1 h2 h3
                  have HR2 := Lib.hid h3
                  subst h1 h2
                  clear hU h3
                  dsimp only at H ⊢
                  go_upto_region 51 with fail
                  generalize hwb : (w147.alloc _).alloc _ = w35
                  replace H := HS.eqW hwb H.alloc.alloc
                  try simp only [World.size_alloc, List.nil_append, List.cons_append, List.append_assoc] at H
                  clear hwb
                  generalize w147.heap.size + 1 = b16 at H ⊢
                  generalize w147.heap.size = b15 at H ⊢
                  try clear C
                  try clear w147
                  have C := H.cells
                  try simp only [cellsOf, cellsM, apartOf, apartM, and_true] at C
                  refine wp_region_xH (by kernel_rfl) (by kernel_rfl) (by kernel_rfl) (by kernel_rfl) (fun _ => False) (H) ?_
                  clear H; intro w36 H hz0 hs0
                  try clear C
                  try simp only [World.size_alloc, List.nil_append, List.cons_append, List.append_assoc] at H hz0
                  clear hz0
                  try clear w35
                  have C := H.cells
                  try simp only [cellsOf, cellsM, apartOf, apartM, and_true] at C
                  have Z := H.zs
                  try simp only [ltsOf, ltsM, and_true] at Z
                  have hz0 := Nat.le_refl w36.heap.size
                  have hgl : g < w36.heap.size := Item.lt (H.at 2 rfl) (k := g) rfl
                  have e0 : w36.cell? ⟨g, q * 4, none⟩ = some (.int .i64 ad) := (H.rowCells 2 rfl (q * 4) (by have := HQI.out; omega)).1.trans HC0.out
                  have e1 : w36.cell? ⟨g, q * 4 + 1, none⟩ = some (.slice xa xn xc) := (H.rowCells 2 rfl (q * 4 + 1) (by have := HQI.out; omega)).1.trans HC1.out
                  have e2 : w36.cell? ⟨g, q * 4 + 2, none⟩ = some (.bool d) := (H.rowCells 2 rfl (q * 4 + 2) (by have := HQI.out; omega)).1.trans HC2.out
                  have e3 : w36.cell? ⟨g, q * 4 + 3, none⟩ = some (.bool p) := (H.rowCells 2 rfl (q * 4 + 3) (by have := HQI.out; omega)).1.trans HC3.out
                  repeat (first | (refine wpX_skip rfl ?_; go_simp) | (refine wpX_free rfl rfl rfl (fun K hK => ?_); go_step; refine hK _ _ ?_; clear hK K) | (refine wpX_load rfl rfl rfl (by simp [Stay, OneD, NoD, *]) hs0 (by simp [*]) (fun K hK => ?_); go_step; refine hK _ _ ?_; clear hK K))
                  refine wpX_eff rfl rfl (fun _ _ => ?_)
                  go_step
                  refine (HSM.out ⟨yaU, ynU, ycU⟩ _ (H.says 5 rfl).2 (HXB.out _ (H.says 3 rfl))).mono ?_
                  rintro _ w37 ⟨rfl, hb⟩
                  replace hs0 := hs0.belowS hz0 hb
                  replace hz0 := Nat.le_trans hz0 hb.size
                  replace H := H.below hb
                  clear hb
                  try clear C
                  have C := H.cells
                  try simp only [cellsOf, cellsM, apartOf, apartM, and_true] at C
                  try clear w36
                  dsimp only
                  go_step
                  refine ⟨hs0, ?_⟩
                  repeat (first | (refine wpX_skip rfl ?_; go_simp) | (refine wpX_free rfl rfl rfl (fun K hK => ?_); go_step; refine hK _ _ ?_; clear hK K) | (refine wpX_load rfl rfl rfl (by simp [Stay, OneD, NoD, *]) hs0 (by simp [*]) (fun K hK => ?_); go_step; refine hK _ _ ?_; clear hK K))
                  (refine wpX_nil ?_; go_step)
                  clear e0 e1 e2 e3 hgl
                  go_upto_region 54 with fail
                  generalize hwb : (((w37.setCell _ _).setCell _ _).setCell _ _).setCell _ _ = w38
                  replace H := HS.eqW hwb (H.putAll (i := 1) rfl (vs := [.int .i64 S, .int .i64 W, .int .i64 2, .slice saU naU caU]) rfl rfl)
                  simp only [List.nil_append, List.cons_append, List.append_assoc, List.set_cons_succ, List.set_cons_zero] at H
                  clear hwb
                  try clear C
                  try clear w37
                  have C := H.cells
                  try simp only [cellsOf, cellsM, apartOf, apartM, and_true] at C
                  have hcap : qs.length ≤ c := (row_capOk (H.at 2 rfl)).1
                  obtain ⟨ad9, had1, had2⟩ : ∃ ad9 : Addr, (if c = q + 1 then some ⟨g, 0, none⟩ else some ⟨g, (q + 1) * 4, none⟩ : Option Addr) = some ad9 ∧ (0 < qs.length - (q + 1) → ad9 = ⟨g, (q + 1) * 4, none⟩) := by
                    have := HQI.out
                    by_cases e : c = q + 1
                    · rw [if_pos e]; exact ⟨_, rfl, fun h => by omega⟩
                    · rw [if_neg e]; exact ⟨_, rfl, fun h => rfl⟩
                  have HAD9 := Lib.hid had2
                  have hqc : (q : Int) ≤ c := by have := HQI.out; omega
                  have hqc1 : (q : Int) + 1 ≤ c := by have := HQI.out; omega
                  have hqn1 : (q : Int) + 1 ≤ qs.length := by have := HQI.out; omega
                  have hq10 : (0 : Int) ≤ (q : Int) + 1 := by omega
                  clear had2 hcap
                  go_upto_region 55 with fail
                  have hnr := H.nilRow 35 4
                  clear H C
                  have H := hnr
                  clear hnr
                  try simp only [List.nil_append, List.cons_append] at H
                  try clear C
                  try simp only [World.size_alloc, List.nil_append, List.cons_append, List.append_assoc] at H
                  have C := H.cells
                  try simp only [cellsOf, cellsM, apartOf, apartM, and_true] at C
                  refine wp_region_sH (by kernel_rfl) (by kernel_rfl) (by kernel_rfl) (by kernel_rfl) (fun w => w.cell? ⟨g, q * 4, none⟩ = some (.int .i64 ad) ∧ w.cell? ⟨g, q * 4 + 1, none⟩ = some (.slice xa xn xc) ∧ w.cell? ⟨g, q * 4 + 2, none⟩ = some (.bool d) ∧ w.cell? ⟨g, q * 4 + 3, none⟩ = some (.bool p)) (H) (fun w0 H => ⟨(H.rowCells 2 rfl (q * 4) (by have := HQI.out; omega)).1.trans HC0.out, (H.rowCells 2 rfl (q * 4 + 1) (by have := HQI.out; omega)).1.trans HC1.out, (H.rowCells 2 rfl (q * 4 + 2) (by have := HQI.out; omega)).1.trans HC2.out, (H.rowCells 2 rfl (q * 4 + 3) (by have := HQI.out; omega)).1.trans HC3.out⟩) ?_
                  clear H; intro w39 h0 H hz0
                  try clear C
                  try simp only [World.size_alloc, List.nil_append, List.cons_append, List.append_assoc] at H hz0
                  clear hz0
                  try clear w38
                  have C := H.cells
                  try simp only [cellsOf, cellsM, apartOf, apartM, and_true] at C
                  repeat (first | (refine wpX_skip rfl ?_; go_simp) | (refine wpX_free rfl rfl rfl (fun K hK => ?_); go_step; refine hK _ _ ?_; clear hK K))
                  (refine wpX_yield rfl rfl ((.slice (some ⟨g, 0, none⟩) q c)) (fun w hw => by go_simp) ?_; go_simp)
                  refine wpX_apX rfl rfl (.const (.slice none 0 0)) (.tmp 226) 48 rfl elemLn H 8 rfl rfl rfl (srcTake (H.at 2 rfl) (Nat.le_of_lt HQI.out)) (by rw [flat_len lnC_len, List.length_take, Nat.min_eq_left (Nat.le_of_lt HQI.out)]) (lnC_one _) (by have := HQ40.out; have := HQI.out; unfold maxLen; omega) (by have := HQ40.out; have := HQI.out; omega) (N := q) (by omega) (fun s4 c4 w148 HZ hg9 => ?_)
                  clear H hg9
                  have H := HZ
                  clear HZ
                  simp only [List.set_cons_succ, List.set_cons_zero] at H
                  try rw [List.nil_append] at H
                  try clear C
                  skip
                  have C := H.cells
                  try simp only [cellsOf, cellsM, apartOf, apartM, and_true] at C
                  refine ⟨⟨(H.rowCells 2 rfl (q * 4) (by have := HQI.out; omega)).1.trans HC0.out, (H.rowCells 2 rfl (q * 4 + 1) (by have := HQI.out; omega)).1.trans HC1.out, (H.rowCells 2 rfl (q * 4 + 2) (by have := HQI.out; omega)).1.trans HC2.out, (H.rowCells 2 rfl (q * 4 + 3) (by have := HQI.out; omega)).1.trans HC3.out⟩, ?_⟩
                  repeat (first | (refine wpX_skip rfl ?_; go_simp) | (refine wpX_free rfl rfl rfl (fun K hK => ?_); go_step; refine hK _ _ ?_; clear hK K))
                  (refine wpX_yield rfl rfl ((.slice (some ad9) (qs.length - (q + 1) : Nat) (c - (q + 1) : Nat))) (fun w hw => by go_simp) ?_; go_simp)
                  refine wpX_apX rfl rfl (.tmp 227) (.tmp 231) 48 rfl elemLn H 8 rfl rfl rfl (srcDrop (H.at 2 rfl) HQI.out HAD9.out) (by rw [flat_len lnC_len, List.length_drop]) (lnC_one _) (by have := HQ40.out; have := HQI.out; unfold maxLen; omega) (by have := HQ40.out; have := HQI.out; omega) (N := qs.length - 1) (by have := HQI.out; omega) (fun s4 c4 w149 HZ hg9 => ?_)
                  clear H hg9
                  have H := HZ
                  clear HZ
                  simp only [List.set_cons_succ, List.set_cons_zero] at H
                  try clear C
                  skip
                  have C := H.cells
                  try simp only [cellsOf, cellsM, apartOf, apartM, and_true] at C
                  refine ⟨⟨(H.rowCells 2 rfl (q * 4) (by have := HQI.out; omega)).1.trans HC0.out, (H.rowCells 2 rfl (q * 4 + 1) (by have := HQI.out; omega)).1.trans HC1.out, (H.rowCells 2 rfl (q * 4 + 2) (by have := HQI.out; omega)).1.trans HC2.out, (H.rowCells 2 rfl (q * 4 + 3) (by have := HQI.out; omega)).1.trans HC3.out⟩, ?_⟩
                  repeat (first | (refine wpX_skip rfl ?_; go_simp) | (refine wpX_free rfl rfl rfl (fun K hK => ?_); go_step; refine hK _ _ ?_; clear hK K) | (refine wpX_load rfl rfl rfl (by simp [Stay, OneD, NoD, *]) hs0 (by simp [*]) (fun K hK => ?_); go_step; refine hK _ _ ?_; clear hK K))
                  (refine wpX_nil ?_; go_step)
                  have H9 := HS.less (L' := [.dice w.heap.size bd, .blk b4 #[.int .i64 S, .int .i64 W, .int .i64 2, .slice saU naU caU] 24, .any F (fun w => LinesOk w qs), .any FU (fun w => SlotsAt w ⟨saU, naU, caU⟩ lU ∧ BytesAt w ⟨yaU, ynU, ycU⟩ bs), .row (.slice s4 (qs.length - 1) c4) 35 4 (qs.length - 1) ((qs.take q).flatMap lnC ++ (qs.drop (q + 1)).flatMap lnC)]) H (by repeat (first | exact .slnil | refine .cons_cons _ ?_ | refine .cons _ ?_))
                  clear H C
                  have H8 := H9.permu (L' := [.dice w.heap.size bd, .blk b4 #[.int .i64 S, .int .i64 W, .int .i64 2, .slice saU naU caU] 24, .row (.slice s4 (qs.length - 1) c4) 35 4 (qs.length - 1) ((qs.take q).flatMap lnC ++ (qs.drop (q + 1)).flatMap lnC), .any FU (fun w => SlotsAt w ⟨saU, naU, caU⟩ lU ∧ BytesAt w ⟨yaU, ynU, ycU⟩ bs), .any F (fun w => LinesOk w qs)]) (.cons _ (.cons _ (List.reverse_perm [_, _, _]).symm))
                  clear H9
                  have H7 := HS.weak (L := [_, _, _, _]) H8 (K' := fun w => LinesOk w (qs.take q ++ qs.drop (q + 1))) (fun w' h => linesOk_mid h)
                  clear H8
                  have hn9 : (qs.take q ++ qs.drop (q + 1)).length = qs.length - 1 := mid_len9 HQI.out
                  have H6 := H7.permu (L' := [.dice w.heap.size bd, .blk b4 #[.int .i64 S, .int .i64 W, .int .i64 2, .slice saU naU caU] 24, .row (.slice s4 (qs.length - 1) c4) 35 4 (qs.length - 1) ((qs.take q).flatMap lnC ++ (qs.drop (q + 1)).flatMap lnC), _, _]) (.cons _ (.cons _ (.cons _ (List.Perm.swap _ _ _))))
                  clear H7
                  have H := HS.weak (L := [_, _, _, _]) H6 (K' := fun w => SlotsAt w ⟨saU, naU, caU⟩ lU) (fun w' h => h.1)
                  clear H6
                  try simp only [List.nil_append, List.cons_append] at H
                  have hrq : Runs S lU ((qs.take q ++ qs.drop (q + 1)).map Prod.fst) := by have := HR2.out; simpa using this
                  have HRQ := Lib.hid hrq
                  clear hrq
                  rw [show (qs.take q).flatMap lnC ++ (qs.drop (q + 1)).flatMap lnC = (qs.take q ++ qs.drop (q + 1)).flatMap lnC by simp [List.flatMap_append]] at H
                  generalize qs.take q ++ qs.drop (q + 1) = qr at H HRQ hn9
                  rw [← hn9] at H
                  rw [← hn9]
                  try clear C
                  try simp only [World.size_alloc, List.nil_append, List.cons_append, List.append_assoc] at H
                  have C := H.cells
                  try simp only [cellsOf, cellsM, apartOf, apartM, and_true] at C
                  go_wp2_with fail
                  refine (cvalid_f HG2.out ⟨saU, naU, caU⟩ _ (H.says 4 rfl)).mono ?_
                  rintro _ w40 ⟨rfl, hb⟩
                  replace H := H.below hb
                  clear hb
                  try clear C
                  try simp only [World.size_alloc, List.nil_append, List.cons_append, List.append_assoc] at H
                  try clear w149
                  have C := H.cells
                  try simp only [cellsOf, cellsM, apartOf, apartM, and_true] at C
                  dsimp only
                  go_wp2_with fail
                  go_roundw
                  case rel => exact ⟨k + 1, s4, c4, qr, lU, saU, naU, caU, _, _, by go_num, by rw [hn9], by have := HLT.out; omega, by have := HQK.out; omega, HG2, HRQ, H⟩
                  case measure => simp [intOf]; have := HLT.out; omega
            · as_aux_lemma =>
                skip
                have g0 : ¬ v5 = 0 := by omega
                have g1 : ¬ v5 = 1 := by omega
                have g2 : ¬ v5 = 2 := by omega
                have g0b : (v5 == 0) = false := beq_eq_false_iff_ne.2 g0
                have g1b : (v5 == 1) = false := beq_eq_false_iff_ne.2 g1
                have g2b : (v5 == 2) = false := beq_eq_false_iff_ne.2 g2
                clear h5
                go_upto_region 20 with fail
                clear g0 g1 g2 g0b g1b g2b
                go_wp2_with fail
                refine (mline_any 2 (by omega) ad w.heap.size bd _ (H.at 0 rfl) H.size).mono ?_
                rintro _ w150 ⟨⟨az, bz, dz, pz⟩, ⟨za, zn, zc⟩, Fz, rfl, haz, hbz, K⟩
                replace H := H.joinDice 0 rfl K (one_low rfl)
                clear K
                try simp only [List.nil_append, List.cons_append] at H
                skip
                try clear C
                try simp only [World.size_alloc, List.nil_append, List.cons_append, List.append_assoc] at H
                have C := H.cells
                try simp only [cellsOf, cellsM, apartOf, apartM, and_true] at C
                dsimp only [caV, lnV]
                dsimp only at haz hbz
                obtain rfl : ad = az := haz.symm
                have HLZ := Lib.hid (show lineB 2 (⟨ad, bz, dz, pz⟩ : Lm) = true from decide_eq_true ⟨by omega, by omega, by show (bz.length : Int) = 2; omega, HAD.out.1, by have := HAD.out.2; show ad < 1048576; omega⟩)
                have hbzl : bz.length ≤ 1000 := by omega
                go_upto_region 21 with fail
                generalize hwb : w150.alloc _ = w41
                replace H := HS.eqW hwb H.alloc
                try simp only [World.size_alloc, List.nil_append, List.cons_append, List.append_assoc] at H
                clear hwb
                generalize w150.heap.size = b18 at H ⊢
                try clear C
                try clear w150
                have C := H.cells
                try simp only [cellsOf, cellsM, apartOf, apartM, and_true] at C
                go_wp2_with fail
                refine (cput_f HG.out ⟨sc, nc, cc⟩ ⟨ad, bz, dz, pz⟩ ⟨za, zn, zc⟩ hbzl _ (H.says 4 rfl) (H.says 5 rfl)).mono ?_
                rintro _ w151 ⟨⟨lU, vU, fU, eU⟩, ⟨saU, naU, caU⟩, ⟨yaU, ynU, ycU⟩, FU, hU, rfl, K⟩
                replace H := H.join K (one_low rfl)
                clear K
                try simp only [List.nil_append, List.cons_append] at H
                skip
                try clear C
                try simp only [World.size_alloc, List.nil_append, List.cons_append, List.append_assoc] at H
                have C := H.cells
                try simp only [cellsOf, cellsM, apartOf, apartM, and_true] at C
                dsimp only [caV, lnV]
                have hee := put_e9 hU HLZ.out
                dsimp only at hee
                subst hee
                obtain ⟨av, bv, dv, pv⟩ := vU
                have HU := Lib.hid hU
                have HG2 := Lib.hid (HG.out.put hU)
                clear hU hbz hbzl
                dsimp only at H ⊢
                go_upto_region 22 with fail
                generalize hwb : (w151.alloc _).alloc _ = w42
                replace H := HS.eqW hwb H.alloc.alloc
                try simp only [World.size_alloc, List.nil_append, List.cons_append, List.append_assoc] at H
                clear hwb
                generalize w151.heap.size + 1 = b20 at H ⊢
                generalize w151.heap.size = b19 at H ⊢
                try clear C
                try clear w151
                have C := H.cells
                try simp only [cellsOf, cellsM, apartOf, apartM, and_true] at C
                have H9 := HS.less (L' := [.dice w.heap.size bd, .blk b4 #[.int .i64 S, .int .i64 W, .int .i64 2, .slice sc nc cc] 24, rowL s qs.length c qs, .any F (fun w => LinesOk w qs), .any Fz (fun w => BytesAt w ⟨za, zn, zc⟩ bz), .blk b18 #[.int .i64 ad, .slice za zn zc, .bool dz, .bool pz] 35, .any FU (fun w => SlotsAt w ⟨saU, naU, caU⟩ lU ∧ BytesAt w ⟨yaU, ynU, ycU⟩ bv), .blk b19 #[.int .i64 S, .int .i64 W, .int .i64 2, .slice saU naU caU] 24, .blk b20 #[.int .i64 av, .slice yaU ynU ycU, .bool dv, .bool pv] 35]) H (by repeat (first | exact .slnil | refine .cons_cons _ ?_ | refine .cons _ ?_))
                clear H C
                have H := H9
                clear H9
                try clear C
                try simp only [World.size_alloc, List.nil_append, List.cons_append, List.append_assoc] at H
                have C := H.cells
                try simp only [cellsOf, cellsM, apartOf, apartM, and_true] at C
                obtain ⟨rd, hrd⟩ : ∃ r, r = ad % (S : Int) := ⟨_, rfl⟩
                have HTD := Lib.hid (show ad.tmod S = rd by rw [hrd]; exact Int.tmod_eq_emod_of_nonneg HAD.out.1)
                have HRD := Lib.hid hrd
                clear hrd
                go_wp2_with fail
                go_loopw [23, 24, 92] (fun ss oo jj wr => ∃ (i cnt : Nat) (ov : Int), jj = .int .i64 i ∧ ss = .int .i64 cnt ∧ oo = .int .i64 ov ∧ i ≤ qs.length ∧ cnt ≤ i ∧ Hid (OldIs qs S ad i cnt ov) ∧ HS NoD w [.dice w.heap.size bd, .blk b4 #[.int .i64 S, .int .i64 W, .int .i64 2, .slice sc nc cc] 24, rowL s qs.length c qs, .any F (fun w => LinesOk w qs), .any Fz (fun w => BytesAt w ⟨za, zn, zc⟩ bz), .blk b18 #[.int .i64 ad, .slice za zn zc, .bool dz, .bool pz] 35, .any FU (fun w => SlotsAt w ⟨saU, naU, caU⟩ lU ∧ BytesAt w ⟨yaU, ynU, ycU⟩ bv), .blk b19 #[.int .i64 S, .int .i64 W, .int .i64 2, .slice saU naU caU] 24, .blk b20 #[.int .i64 av, .slice yaU ynU ycU, .bool dv, .bool pv] 35] wr) (fun _ _ jj _ => qs.length - (intOf jj).toNat)
                case atStart => exact ⟨0, 0, -1, rfl, rfl, rfl, Nat.zero_le _, Nat.le_refl _, (show Hid _ from OldIs.zero), H⟩
                case round =>
                  clear H C
                  obtain ⟨i, cnt, ov, rfl, rfl, rfl, hi, hcn, HOI, H⟩ := hrel
                  skip
                  try clear C
                  try simp only [World.size_alloc, List.nil_append, List.cons_append, List.append_assoc] at H
                  have C := H.cells
                  try simp only [cellsOf, cellsM, apartOf, apartM, and_true] at C
                  by_cases hil : i < qs.length
                  · obtain ⟨g, cg, hv, -, -⟩ := World.ownsRow.form (H.at 2 rfl) (by omega)
                    obtain ⟨rfl, -, rfl⟩ := Value.slice.inj hv
                    clear hv
                    have HIL := Lib.hid hil
                    have hii : (i : Int) < qs.length := by omega
                    have hgl : g < wr.heap.size := Item.lt (H.at 2 rfl) (k := g) rfl
                    have hc : ∀ m v, (lnC qs[i]!)[m]? = some v → wr.cell? ⟨g, i * 4 + m, none⟩ = some v := fun m v hv => by
                      have hm : m < 4 := (List.getElem?_eq_some_iff.1 hv).1
                      exact (H.rowCells 2 rfl (i * 4 + m) (by omega)).1.trans (flat_get lnC_len qs i m v hil hv)
                    have hnn : 0 ≤ (qs[i]!).1.ad := Runs.nn HG.out HR.out (List.mem_map.2 ⟨_, mem_bang hil, rfl⟩)
                    have HAI0 := Lib.hid (show (qs[i]!).1.ad = (qs[i]!).1.ad from rfl)
                    obtain ⟨q, hq⟩ : ∃ q, q = qs[i]! := ⟨_, rfl⟩
                    rw [← hq] at hc hnn
                    obtain ⟨⟨ai, bs, d, p⟩, ⟨xa, xn, xc⟩⟩ := q
                    have HAI := Lib.hid (show (qs[i]!).1.ad = ai by rw [← hq])
                    dsimp only at hnn
                    have c0 : wr.cell? ⟨g, i * 4, none⟩ = some (.int .i64 ai) := hc 0 _ rfl
                    have c1 : wr.cell? ⟨g, i * 4 + 1, none⟩ = some (.slice xa xn xc) := hc 1 _ rfl
                    have c2 : wr.cell? ⟨g, i * 4 + 2, none⟩ = some (.bool d) := hc 2 _ rfl
                    have c3 : wr.cell? ⟨g, i * 4 + 3, none⟩ = some (.bool p) := hc 3 _ rfl
                    have n1 : (g = wr.heap.size) = False := eq_false (by omega)
                    have n2 : (wr.heap.size = g) = False := eq_false (by omega)
                    obtain ⟨ra, hra⟩ : ∃ r, r = ai % (S : Int) := ⟨_, rfl⟩
                    have htm1 : ai.tmod S = ra := by rw [hra]; exact Int.tmod_eq_emod_of_nonneg hnn
                    have HTA := Lib.hid htm1
                    have HRA := Lib.hid hra
                    have hra0 : 0 ≤ ra := by rw [hra]; exact Int.emod_nonneg _ (by omega)
                    have hra1 : ra < S := by rw [hra]; exact Int.emod_lt_of_pos _ (by omega)
                    have hrd0 : 0 ≤ rd := by rw [HRD.out]; exact Int.emod_nonneg _ (by omega)
                    have hrd1 : rd < S := by rw [HRD.out]; exact Int.emod_lt_of_pos _ (by omega)
                    have hS3 := HSS.out.2
                    have HWR := Lib.hid (show IntKind.i64.wrap ra = ra ∧ IntKind.i64.wrap rd = rd from ⟨IntWalk.i64_in _ (by omega), IntWalk.i64_in _ (by omega)⟩)
                    clear hc hq HAI0 hra htm1 hnn hra0 hra1 hrd0 hrd1 hS3
                    go_upto_region 28 with fail
                    clear c0 c1 c2 c3 n1 n2 hgl
                    generalize hwb : wr.alloc _ = w43
                    replace H := HS.eqW hwb H.alloc
                    try simp only [World.size_alloc, List.nil_append, List.cons_append, List.append_assoc] at H
                    clear hwb
                    generalize wr.heap.size = b26 at H ⊢
                    try clear C
                    try clear wr
                    have C := H.cells
                    try simp only [cellsOf, cellsM, apartOf, apartM, and_true] at C
                    have hs0 : ¬ ((S : Int) = 0) := by omega
                    have hs0b : ((S : Int) == 0) = false := beq_eq_false_iff_ne.2 hs0
                    have htm1 := HTA.out
                    have htm2 := HTD.out
                    have hw1 := HWR.out.1
                    have hw2 := HWR.out.2
                    have hq41 := HQ40.out
                    skip
                    by_cases hse : ra = rd
                    · have HSE := Lib.hid (show (qs[i]!).1.ad % (S : Int) = ad % (S : Int) by rw [HAI.out, ← HRA.out, ← HRD.out]; exact hse)
                      have hseb : (ra == rd) = true := by rw [hse]; simp
                      clear hse
                      refine wp_region_xH (by kernel_rfl) (by kernel_rfl) (by kernel_rfl) (by kernel_rfl) (fun _ => False) (H) ?_
                      clear H; intro w44 H hz0 hs0
                      try clear C
                      try simp only [World.size_alloc, List.nil_append, List.cons_append, List.append_assoc] at H hz0
                      clear hz0
                      try clear w43
                      have C := H.cells
                      try simp only [cellsOf, cellsM, apartOf, apartM, and_true] at C
                      have Z := H.zs
                      try simp only [ltsOf, ltsM, and_true] at Z
                      have hz0 := Nat.le_refl w44.heap.size
                      repeat (first | (refine wpX_skip rfl ?_; go_simp) | (refine wpX_free rfl rfl rfl (fun K hK => ?_); go_step; refine hK _ _ ?_; clear hK K) | (refine wpX_load rfl rfl rfl (by simp [Stay, OneD, NoD, *]) hs0 (by simp [*]) (fun K hK => ?_); go_step; refine hK _ _ ?_; clear hK K))
                      (refine wpX_nil ?_; go_step)
                      clear htm1 htm2 hw1 hw2 hs0 hs0b
                      have hc41 : cnt ≤ 40 := by have := HIL.out; omega
                      skip
                      rcases HOI.out.val with rfl | ⟨ho0, ho1⟩
                      · go_wp2_with fail
                        go_roundw
                        case rel => exact ⟨i + 1, cnt + 1, i, by go_num, by go_num, rfl, by have := HIL.out; omega, by omega, (show Hid _ from HOI.out.first HIL.out HSE.out), HS.less H (by repeat (first | exact .slnil | refine .cons_cons _ ?_ | refine .cons _ ?_))⟩
                        case measure => simp [intOf]; have := HIL.out; omega
                      · skip
                        have ho2 : ¬ ov < 0 := by omega
                        go_wp2_with fail
                        go_roundw
                        case rel => exact ⟨i + 1, cnt + 1, ov, by go_num, by go_num, rfl, by have := HIL.out; omega, by omega, (show Hid _ from HOI.out.more HIL.out ho0 HSE.out), HS.less H (by repeat (first | exact .slnil | refine .cons_cons _ ?_ | refine .cons _ ?_))⟩
                        case measure => simp [intOf]; have := HIL.out; omega
                    · have HSE := Lib.hid (show (qs[i]!).1.ad % (S : Int) ≠ ad % (S : Int) by rw [HAI.out, ← HRA.out, ← HRD.out]; exact hse)
                      have hseb : (ra == rd) = false := beq_eq_false_iff_ne.2 hse
                      skip
                      refine wp_region_xH (by kernel_rfl) (by kernel_rfl) (by kernel_rfl) (by kernel_rfl) (fun _ => False) (H) ?_
                      clear H; intro w45 H hz0 hs0
                      try clear C
                      try simp only [World.size_alloc, List.nil_append, List.cons_append, List.append_assoc] at H hz0
                      clear hz0
                      try clear w43
                      have C := H.cells
                      try simp only [cellsOf, cellsM, apartOf, apartM, and_true] at C
                      have Z := H.zs
                      try simp only [ltsOf, ltsM, and_true] at Z
                      have hz0 := Nat.le_refl w45.heap.size
                      repeat (first | (refine wpX_skip rfl ?_; go_simp) | (refine wpX_free rfl rfl rfl (fun K hK => ?_); go_step; refine hK _ _ ?_; clear hK K) | (refine wpX_load rfl rfl rfl (by simp [Stay, OneD, NoD, *]) hs0 (by simp [*]) (fun K hK => ?_); go_step; refine hK _ _ ?_; clear hK K))
                      (refine wpX_nil ?_; go_step)
                      clear htm1 htm2 hw1 hw2 hs0 hs0b
                      go_wp2_with fail
                      go_roundw
                      case rel => exact ⟨i + 1, cnt, ov, by go_num, rfl, rfl, by have := HIL.out; omega, by omega, (show Hid _ from HOI.out.no HIL.out HSE.out), HS.less H (by repeat (first | exact .slnil | refine .cons_cons _ ?_ | refine .cons _ ?_))⟩
                      case measure => simp [intOf]; have := HIL.out; omega
                  · obtain rfl : i = qs.length := by omega
                    clear hi hil
                    skip
                    have HCN := Lib.hid hcn
                    have HON := Lib.hid (show cnt = ((qs.map Prod.fst).filter (fun m => decide (m.ad % (S : Int) = ad % (S : Int)))).length by have := HOI.out.1; rwa [List.take_length] at this)
                    clear hcn
                    go_upto_region 33 with fail
                    skip
                    rcases HAT.out with ⟨rfl, hno⟩ | ⟨q, hqi, rfl, hqa⟩
                    · have HPN := Lib.hid (runs_put_new HG.out HR.out (AtIs.miss hno) HLZ.out HU.out)
                      clear hno
                      cases fU with
                      | false =>
                       as_aux_lemma =>
                        have hcw : ¬ cnt = W := fun e => by
                          have := HPN.out.2.1.2 (by rw [← HON.out]; exact e)
                          cases this
                        have hcwi : ¬ ((cnt : Int) = W) := by omega
                        have hcwb : ((cnt : Int) == W) = false := beq_eq_false_iff_ne.2 hcwi
                        refine wp_region_xH (by kernel_rfl) (by kernel_rfl) (by kernel_rfl) (by kernel_rfl) (fun _ => False) (H) ?_
                        clear H; intro w46 H hz0 hs0
                        try clear C
                        try simp only [World.size_alloc, List.nil_append, List.cons_append, List.append_assoc] at H hz0
                        clear hz0
                        try clear wr
                        have C := H.cells
                        try simp only [cellsOf, cellsM, apartOf, apartM, and_true] at C
                        have Z := H.zs
                        try simp only [ltsOf, ltsM, and_true] at Z
                        have hz0 := Nat.le_refl w46.heap.size
                        repeat (first | (refine wpX_skip rfl ?_; go_simp) | (refine wpX_free rfl rfl rfl (fun K hK => ?_); go_step; refine hK _ _ ?_; clear hK K) | (refine wpX_load rfl rfl rfl (by simp [Stay, OneD, NoD, *]) hs0 (by simp [*]) (fun K hK => ?_); go_step; refine hK _ _ ?_; clear hK K))
                        (refine wpX_nil ?_; go_step)
                        have HR2 := Lib.hid (HPN.out.2.2.1 rfl)
                        clear hcw hcwi hcwb
                        go_upto_region 40 with fail
                        try clear C
                        try simp only [World.size_alloc, List.nil_append, List.cons_append, List.append_assoc] at H
                        have C := H.cells
                        try simp only [cellsOf, cellsM, apartOf, apartM, and_true] at C
                        refine wp_region_sH (by kernel_rfl) (by kernel_rfl) (by kernel_rfl) (by kernel_rfl) (fun w => w.cell? ⟨b19, 0, none⟩ = some (.int .i64 S) ∧ w.cell? ⟨b19, 1, none⟩ = some (.int .i64 W) ∧ w.cell? ⟨b19, 2, none⟩ = some (.int .i64 2) ∧ w.cell? ⟨b19, 3, none⟩ = some (.slice saU naU caU) ∧ w.cell? ⟨b18, 0, none⟩ = some (.int .i64 ad) ∧ w.cell? ⟨b18, 1, none⟩ = some (.slice za zn zc) ∧ w.cell? ⟨b18, 2, none⟩ = some (.bool dz) ∧ w.cell? ⟨b18, 3, none⟩ = some (.bool pz)) (H) (fun w0 H => ⟨(Blk.cell (H.at 7 rfl) 0).trans rfl, (Blk.cell (H.at 7 rfl) 1).trans rfl, (Blk.cell (H.at 7 rfl) 2).trans rfl, (Blk.cell (H.at 7 rfl) 3).trans rfl, (Blk.cell (H.at 5 rfl) 0).trans rfl, (Blk.cell (H.at 5 rfl) 1).trans rfl, (Blk.cell (H.at 5 rfl) 2).trans rfl, (Blk.cell (H.at 5 rfl) 3).trans rfl⟩) ?_
                        clear H; intro w47 h0 H hz0
                        try clear C
                        try simp only [World.size_alloc, List.nil_append, List.cons_append, List.append_assoc] at H hz0
                        clear hz0
                        try clear w46
                        have C := H.cells
                        try simp only [cellsOf, cellsM, apartOf, apartM, and_true] at C
                        repeat (first | (refine wpX_skip rfl ?_; go_simp) | (refine wpX_free rfl rfl rfl (fun K hK => ?_); go_step; refine hK _ _ ?_; clear hK K))
                        (refine wpX_yield rfl rfl (.agg #[.int .i64 S, .int .i64 W, .int .i64 2, .slice saU naU caU]) (fun w hw => by obtain ⟨k0, k1, k2, k3, k4, k5, k6, k7⟩ := hw; go_simp) ?_; go_simp)
                        repeat (first | (refine wpX_skip rfl ?_; go_simp) | (refine wpX_free rfl rfl rfl (fun K hK => ?_); go_step; refine hK _ _ ?_; clear hK K))
                        (refine wpX_yield rfl rfl (.agg #[.int .i64 ad, .slice za zn zc, .bool dz, .bool pz]) (fun w hw => by obtain ⟨k0, k1, k2, k3, k4, k5, k6, k7⟩ := hw; go_simp) ?_; go_simp)
                        repeat (first | (refine wpX_skip rfl ?_; go_simp) | (refine wpX_free rfl rfl rfl (fun K hK => ?_); go_step; refine hK _ _ ?_; clear hK K))
                        refine wpX_eff rfl rfl (fun _ _ => ?_)
                        go_step
                        go_step
                        generalize hwb : World.alloc _ _ = w48
                        replace H := HS.eqW hwb H.alloc
                        try simp only [World.size_alloc, List.nil_append, List.cons_append, List.append_assoc] at H
                        clear hwb
                        generalize w47.heap.size = bQ at H ⊢
                        try clear C
                        try clear w47
                        have C := H.cells
                        try simp only [cellsOf, cellsM, apartOf, apartM, and_true] at C
                        refine ⟨⟨(Blk.cell (H.at 7 rfl) 0).trans rfl, (Blk.cell (H.at 7 rfl) 1).trans rfl, (Blk.cell (H.at 7 rfl) 2).trans rfl, (Blk.cell (H.at 7 rfl) 3).trans rfl, (Blk.cell (H.at 5 rfl) 0).trans rfl, (Blk.cell (H.at 5 rfl) 1).trans rfl, (Blk.cell (H.at 5 rfl) 2).trans rfl, (Blk.cell (H.at 5 rfl) 3).trans rfl⟩, ?_⟩
                        refine wpX_apX rfl rfl (.tmp 150) (.tmp 152) 48 rfl elemLn H 2 rfl rfl rfl (srcOne (bs := bz) (H.at 9 rfl)) (by rfl) (lnC_one _) (by have := HQ40.out; unfold maxLen; omega) (by have := HQ40.out; omega) (N := qs.length + 1) (by omega) (fun s4 c4 w152 HZ hg9 => ?_)
                        clear H hg9
                        have H := HZ
                        clear HZ
                        simp only [List.set_cons_succ, List.set_cons_zero] at H
                        try clear C
                        skip
                        have C := H.cells
                        try simp only [cellsOf, cellsM, apartOf, apartM, and_true] at C
                        refine ⟨⟨(Blk.cell (H.at 7 rfl) 0).trans rfl, (Blk.cell (H.at 7 rfl) 1).trans rfl, (Blk.cell (H.at 7 rfl) 2).trans rfl, (Blk.cell (H.at 7 rfl) 3).trans rfl, (Blk.cell (H.at 5 rfl) 0).trans rfl, (Blk.cell (H.at 5 rfl) 1).trans rfl, (Blk.cell (H.at 5 rfl) 2).trans rfl, (Blk.cell (H.at 5 rfl) 3).trans rfl⟩, ?_⟩
                        repeat (first | (refine wpX_skip rfl ?_; go_simp) | (refine wpX_free rfl rfl rfl (fun K hK => ?_); go_step; refine hK _ _ ?_; clear hK K))
                        refine wpX_eff rfl rfl (fun _ _ => ?_)
                        go_step
                        go_step
                        generalize hwb : (((w152.setCell _ _).setCell _ _).setCell _ _).setCell _ _ = w153
                        replace H := HS.eqW hwb (H.putAll (i := 1) rfl (vs := [.int .i64 S, .int .i64 W, .int .i64 2, .slice saU naU caU]) rfl rfl)
                        simp only [List.nil_append, List.cons_append, List.append_assoc, List.set_cons_succ, List.set_cons_zero] at H
                        clear hwb
                        try clear C
                        skip
                        have C := H.cells
                        try simp only [cellsOf, cellsM, apartOf, apartM, and_true] at C
                        refine ⟨⟨(Blk.cell (H.at 7 rfl) 0).trans rfl, (Blk.cell (H.at 7 rfl) 1).trans rfl, (Blk.cell (H.at 7 rfl) 2).trans rfl, (Blk.cell (H.at 7 rfl) 3).trans rfl, (Blk.cell (H.at 5 rfl) 0).trans rfl, (Blk.cell (H.at 5 rfl) 1).trans rfl, (Blk.cell (H.at 5 rfl) 2).trans rfl, (Blk.cell (H.at 5 rfl) 3).trans rfl⟩, ?_⟩
                        repeat (first | (refine wpX_skip rfl ?_; go_simp) | (refine wpX_free rfl rfl rfl (fun K hK => ?_); go_step; refine hK _ _ ?_; clear hK K) | (refine wpX_load rfl rfl rfl (by simp [Stay, OneD, NoD, *]) hs0 (by simp [*]) (fun K hK => ?_); go_step; refine hK _ _ ?_; clear hK K))
                        (refine wpX_nil ?_; go_step)
                        have H9 := HS.less (L' := [.dice w.heap.size bd, .blk b4 #[.int .i64 S, .int .i64 W, .int .i64 2, .slice saU naU caU] 24, .row (.slice s4 (qs.length + 1) c4) 35 4 (qs.length + 1) (qs.flatMap lnC ++ [((⟨ad, bz, dz, pz⟩ : Lm), (⟨za, zn, zc⟩ : Sv))].flatMap lnC), .any F (fun w => LinesOk w qs), .any Fz (fun w => BytesAt w ⟨za, zn, zc⟩ bz), .any FU (fun w => SlotsAt w ⟨saU, naU, caU⟩ lU ∧ BytesAt w ⟨yaU, ynU, ycU⟩ bv)]) H (by repeat (first | exact .slnil | refine .cons_cons _ ?_ | refine .cons _ ?_))
                        clear H C
                        have H8 := H9.permu (L' := [.dice w.heap.size bd, .blk b4 #[.int .i64 S, .int .i64 W, .int .i64 2, .slice saU naU caU] 24, .row (.slice s4 (qs.length + 1) c4) 35 4 (qs.length + 1) (qs.flatMap lnC ++ [((⟨ad, bz, dz, pz⟩ : Lm), (⟨za, zn, zc⟩ : Sv))].flatMap lnC), .any FU (fun w => SlotsAt w ⟨saU, naU, caU⟩ lU ∧ BytesAt w ⟨yaU, ynU, ycU⟩ bv), .any F (fun w => LinesOk w qs), .any Fz (fun w => BytesAt w ⟨za, zn, zc⟩ bz)]) (.cons _ (.cons _ (.cons _ (List.perm_append_comm (l₁ := [_, _]) (l₂ := [_])))))
                        clear H9
                        have H6 := HS.merge (L := [_, _, _, _]) H8
                        clear H8
                        have H7 := HS.weak (L := [_, _, _, _]) H6 (K' := fun w => LinesOk w (qs ++ [((⟨ad, bz, dz, pz⟩ : Lm), (⟨za, zn, zc⟩ : Sv))])) (fun w' h => linesOk_end h.1 h.2)
                        clear H6
                        have hn9 : (qs ++ [((⟨ad, bz, dz, pz⟩ : Lm), (⟨za, zn, zc⟩ : Sv))]).length = qs.length + 1 := by simp
                        have H6 := H7.permu (L' := [.dice w.heap.size bd, .blk b4 #[.int .i64 S, .int .i64 W, .int .i64 2, .slice saU naU caU] 24, .row (.slice s4 (qs.length + 1) c4) 35 4 (qs.length + 1) (qs.flatMap lnC ++ [((⟨ad, bz, dz, pz⟩ : Lm), (⟨za, zn, zc⟩ : Sv))].flatMap lnC), _, _]) (.cons _ (.cons _ (.cons _ (List.Perm.swap _ _ _))))
                        clear H7
                        have H := HS.weak (L := [_, _, _, _]) H6 (K' := fun w => SlotsAt w ⟨saU, naU, caU⟩ lU) (fun w' h => h.1)
                        clear H6
                        try simp only [List.nil_append, List.cons_append] at H
                        have hrq : Runs S lU ((qs ++ [((⟨ad, bz, dz, pz⟩ : Lm), (⟨za, zn, zc⟩ : Sv))]).map Prod.fst) := by have := HR2.out; simpa using this
                        have HRQ := Lib.hid hrq
                        clear hrq
                        rw [show qs.flatMap lnC ++ [((⟨ad, bz, dz, pz⟩ : Lm), (⟨za, zn, zc⟩ : Sv))].flatMap lnC = (qs ++ [((⟨ad, bz, dz, pz⟩ : Lm), (⟨za, zn, zc⟩ : Sv))]).flatMap lnC by simp [List.flatMap_append]] at H
                        generalize qs ++ [((⟨ad, bz, dz, pz⟩ : Lm), (⟨za, zn, zc⟩ : Sv))] = qr at H HRQ hn9
                        rw [← hn9] at H
                        rw [← hn9]
                        try clear C
                        try simp only [World.size_alloc, List.nil_append, List.cons_append, List.append_assoc] at H
                        have C := H.cells
                        try simp only [cellsOf, cellsM, apartOf, apartM, and_true] at C
                        go_wp2_with fail
                        refine (cvalid_f HG2.out ⟨saU, naU, caU⟩ _ (H.says 4 rfl)).mono ?_
                        rintro _ w49 ⟨rfl, hb⟩
                        replace H := H.below hb
                        clear hb
                        try clear C
                        try simp only [World.size_alloc, List.nil_append, List.cons_append, List.append_assoc] at H
                        try clear w153
                        have C := H.cells
                        try simp only [cellsOf, cellsM, apartOf, apartM, and_true] at C
                        dsimp only
                        go_wp2_with fail
                        go_roundw
                        case rel => exact ⟨k + 1, s4, c4, qr, lU, saU, naU, caU, _, _, by go_num, by rw [hn9], by have := HLT.out; omega, by have := HQK.out; omega, HG2, HRQ, H⟩
                        case measure => simp [intOf]; have := HLT.out; omega
                      | true =>
                       as_aux_lemma =>
                        have hcw : cnt = W := by rw [HON.out]; exact HPN.out.2.1.1 rfl
                        skip
                        rcases HOI.out.2 with ⟨-, h0, -⟩ | ⟨q, hqi, rfl, hqb, hqa⟩
                        · exact absurd h0 (by have := HWW.out; omega)
                        obtain rfl : W = cnt := hcw.symm
                        obtain ⟨g, cg, hv, -, -⟩ := World.ownsRow.form (H.at 2 rfl) (by omega)
                        obtain ⟨rfl, -, rfl⟩ := Value.slice.inj hv
                        clear hv
                        have HQI := Lib.hid hqi
                        have hms := split9 hqi
                        have hle0 : ∀ m v, (lnC qs[q]!)[m]? = some v → (qs.flatMap lnC)[q * 4 + m]? = some v := fun m v => flat_get lnC_len qs q m v hqi
                        have hmem := mem_bang hqi
                        generalize hx0 : qs[q]! = x0 at hms hle0 hmem hqa
                        obtain ⟨⟨ai, bs, d, p⟩, ⟨xa, xn, xc⟩⟩ := x0
                        dsimp only at hqa hms
                        have HQA := Lib.hid hqa
                        have HC0 := Lib.hid (show (qs.flatMap lnC)[q * 4]? = some (.int .i64 ai) from hle0 0 _ rfl)
                        have HC1 := Lib.hid (show (qs.flatMap lnC)[q * 4 + 1]? = some (.slice xa xn xc) from hle0 1 _ rfl)
                        have HC2 := Lib.hid (show (qs.flatMap lnC)[q * 4 + 2]? = some (.bool d) from hle0 2 _ rfl)
                        have HC3 := Lib.hid (show (qs.flatMap lnC)[q * 4 + 3]? = some (.bool p) from hle0 3 _ rfl)
                        have HMS := Lib.hid hms
                        have HXB := Lib.hid (fun (wx : World) (h : LinesOk wx qs) => show BytesAt wx ⟨xa, xn, xc⟩ bs from h _ hmem)
                        have HRX := Lib.hid (show Runs S l ((qs.take q).map Prod.fst ++ (⟨ai, bs, d, p⟩ : Lm) :: (qs.drop (q + 1)).map Prod.fst) from by have := HR.out; rwa [hms] at this)
                        clear hms hle0 hmem hx0 hqa
                        have HSM := Lib.hid (fun (ya : Sv) wx h1 h2 => (show Calls Try.prog 21 #[.agg #[.int .i64 ai, .slice ya.sa ya.n ya.c, .bool d, .bool p], .agg #[.int .i64 ai, .slice xa xn xc, .bool d, .bool p]] wx (Gives (.bool true) wx) from l30same_any ⟨ai, bs, d, p⟩ ya ⟨xa, xn, xc⟩ wx h1 h2))
                        have hqq : (q : Int) < qs.length := by have := HQI.out; omega
                        have hq0 : (0 : Int) ≤ q := by omega
                        have hq41 : (q : Int) ≤ 40 := by have := HQ40.out; omega
                        obtain ⟨h1, h2⟩ := HPN.out.2.2.2 rfl ((qs.take q).map Prod.fst) ⟨ai, bs, d, p⟩ ((qs.drop (q + 1)).map Prod.fst) HMS.out (fun m hm => by obtain ⟨r9, hr9, e9⟩ := mem_take9 (Nat.le_of_lt HQI.out) hm; rw [← e9]; exact hqb r9 hr9) HQA.out
                        dsimp only at h1
                        obtain ⟨rfl, rfl, rfl, rfl⟩ := Lm.mk.inj h1.symm
                        have HR2 := Lib.hid h2
                        clear h1 h2 hqb
                        refine wp_region_xH (by kernel_rfl) (by kernel_rfl) (by kernel_rfl) (by kernel_rfl) (fun _ => False) (H) ?_
                        clear H; intro w50 H hz0 hs0
                        try clear C
                        try simp only [World.size_alloc, List.nil_append, List.cons_append, List.append_assoc] at H hz0
                        clear hz0
                        try clear wr
                        have C := H.cells
                        try simp only [cellsOf, cellsM, apartOf, apartM, and_true] at C
                        have Z := H.zs
                        try simp only [ltsOf, ltsM, and_true] at Z
                        have hz0 := Nat.le_refl w50.heap.size
                        have hgl : g < w50.heap.size := Item.lt (H.at 2 rfl) (k := g) rfl
                        have e0 : w50.cell? ⟨g, q * 4, none⟩ = some (.int .i64 ai) := (H.rowCells 2 rfl (q * 4) (by have := HQI.out; omega)).1.trans HC0.out
                        have e1 : w50.cell? ⟨g, q * 4 + 1, none⟩ = some (.slice xa xn xc) := (H.rowCells 2 rfl (q * 4 + 1) (by have := HQI.out; omega)).1.trans HC1.out
                        have e2 : w50.cell? ⟨g, q * 4 + 2, none⟩ = some (.bool d) := (H.rowCells 2 rfl (q * 4 + 2) (by have := HQI.out; omega)).1.trans HC2.out
                        have e3 : w50.cell? ⟨g, q * 4 + 3, none⟩ = some (.bool p) := (H.rowCells 2 rfl (q * 4 + 3) (by have := HQI.out; omega)).1.trans HC3.out
                        repeat (first | (refine wpX_skip rfl ?_; go_simp) | (refine wpX_free rfl rfl rfl (fun K hK => ?_); go_step; refine hK _ _ ?_; clear hK K) | (refine wpX_load rfl rfl rfl (by simp [Stay, OneD, NoD, *]) hs0 (by simp [*]) (fun K hK => ?_); go_step; refine hK _ _ ?_; clear hK K))
                        refine wpX_eff rfl rfl (fun _ _ => ?_)
                        go_step
                        refine (HSM.out ⟨yaU, ynU, ycU⟩ _ (H.says 6 rfl).2 (HXB.out _ (H.says 3 rfl))).mono ?_
                        rintro _ w51 ⟨rfl, hb⟩
                        replace hs0 := hs0.belowS hz0 hb
                        replace hz0 := Nat.le_trans hz0 hb.size
                        replace H := H.below hb
                        clear hb
                        try clear C
                        have C := H.cells
                        try simp only [cellsOf, cellsM, apartOf, apartM, and_true] at C
                        try clear w50
                        dsimp only
                        go_step
                        refine ⟨hs0, ?_⟩
                        repeat (first | (refine wpX_skip rfl ?_; go_simp) | (refine wpX_free rfl rfl rfl (fun K hK => ?_); go_step; refine hK _ _ ?_; clear hK K) | (refine wpX_load rfl rfl rfl (by simp [Stay, OneD, NoD, *]) hs0 (by simp [*]) (fun K hK => ?_); go_step; refine hK _ _ ?_; clear hK K))
                        (refine wpX_nil ?_; go_step)
                        clear e0 e1 e2 e3 hgl
                        have hcap : qs.length ≤ c := (row_capOk (H.at 2 rfl)).1
                        obtain ⟨ad9, had1, had2⟩ : ∃ ad9 : Addr, (if c = q + 1 then some ⟨g, 0, none⟩ else some ⟨g, (q + 1) * 4, none⟩ : Option Addr) = some ad9 ∧ (0 < qs.length - (q + 1) → ad9 = ⟨g, (q + 1) * 4, none⟩) := by
                          have := HQI.out
                          by_cases e : c = q + 1
                          · rw [if_pos e]; exact ⟨_, rfl, fun h => by omega⟩
                          · rw [if_neg e]; exact ⟨_, rfl, fun h => rfl⟩
                        have HAD9 := Lib.hid had2
                        have hqc : (q : Int) ≤ c := by have := HQI.out; omega
                        have hqc1 : (q : Int) + 1 ≤ c := by have := HQI.out; omega
                        have hqn1 : (q : Int) + 1 ≤ qs.length := by have := HQI.out; omega
                        have hq10 : (0 : Int) ≤ (q : Int) + 1 := by omega
                        clear had2 hcap
                        go_upto_region 39 with fail
                        have hnr := H.nilRow 35 4
                        clear H C
                        have H := hnr
                        clear hnr
                        try simp only [List.nil_append, List.cons_append] at H
                        try clear C
                        try simp only [World.size_alloc, List.nil_append, List.cons_append, List.append_assoc] at H
                        have C := H.cells
                        try simp only [cellsOf, cellsM, apartOf, apartM, and_true] at C
                        refine wp_region_sH (by kernel_rfl) (by kernel_rfl) (by kernel_rfl) (by kernel_rfl) (fun w => w.cell? ⟨g, q * 4, none⟩ = some (.int .i64 ai) ∧ w.cell? ⟨g, q * 4 + 1, none⟩ = some (.slice xa xn xc) ∧ w.cell? ⟨g, q * 4 + 2, none⟩ = some (.bool d) ∧ w.cell? ⟨g, q * 4 + 3, none⟩ = some (.bool p)) (H) (fun w0 H => ⟨(H.rowCells 2 rfl (q * 4) (by have := HQI.out; omega)).1.trans HC0.out, (H.rowCells 2 rfl (q * 4 + 1) (by have := HQI.out; omega)).1.trans HC1.out, (H.rowCells 2 rfl (q * 4 + 2) (by have := HQI.out; omega)).1.trans HC2.out, (H.rowCells 2 rfl (q * 4 + 3) (by have := HQI.out; omega)).1.trans HC3.out⟩) ?_
                        clear H; intro w52 h0 H hz0
                        try clear C
                        try simp only [World.size_alloc, List.nil_append, List.cons_append, List.append_assoc] at H hz0
                        clear hz0
                        try clear w51
                        have C := H.cells
                        try simp only [cellsOf, cellsM, apartOf, apartM, and_true] at C
                        repeat (first | (refine wpX_skip rfl ?_; go_simp) | (refine wpX_free rfl rfl rfl (fun K hK => ?_); go_step; refine hK _ _ ?_; clear hK K))
                        (refine wpX_yield rfl rfl ((.slice (some ⟨g, 0, none⟩) q c)) (fun w hw => by go_simp) ?_; go_simp)
                        refine wpX_apX rfl rfl (.const (.slice none 0 0)) (.tmp 142) 48 rfl elemLn H 9 rfl rfl rfl (srcTake (H.at 2 rfl) (Nat.le_of_lt HQI.out)) (by rw [flat_len lnC_len, List.length_take, Nat.min_eq_left (Nat.le_of_lt HQI.out)]) (lnC_one _) (by have := HQ40.out; have := HQI.out; unfold maxLen; omega) (by have := HQ40.out; have := HQI.out; omega) (N := q) (by omega) (fun s4 c4 w154 HZ hg9 => ?_)
                        clear H hg9
                        have H := HZ
                        clear HZ
                        simp only [List.set_cons_succ, List.set_cons_zero] at H
                        try rw [List.nil_append] at H
                        try clear C
                        skip
                        have C := H.cells
                        try simp only [cellsOf, cellsM, apartOf, apartM, and_true] at C
                        refine ⟨⟨(H.rowCells 2 rfl (q * 4) (by have := HQI.out; omega)).1.trans HC0.out, (H.rowCells 2 rfl (q * 4 + 1) (by have := HQI.out; omega)).1.trans HC1.out, (H.rowCells 2 rfl (q * 4 + 2) (by have := HQI.out; omega)).1.trans HC2.out, (H.rowCells 2 rfl (q * 4 + 3) (by have := HQI.out; omega)).1.trans HC3.out⟩, ?_⟩
                        repeat (first | (refine wpX_skip rfl ?_; go_simp) | (refine wpX_free rfl rfl rfl (fun K hK => ?_); go_step; refine hK _ _ ?_; clear hK K))
                        (refine wpX_yield rfl rfl ((.slice (some ad9) (qs.length - (q + 1) : Nat) (c - (q + 1) : Nat))) (fun w hw => by go_simp) ?_; go_simp)
                        refine wpX_apX rfl rfl (.tmp 143) (.tmp 147) 48 rfl elemLn H 9 rfl rfl rfl (srcDrop (H.at 2 rfl) HQI.out HAD9.out) (by rw [flat_len lnC_len, List.length_drop]) (lnC_one _) (by have := HQ40.out; have := HQI.out; unfold maxLen; omega) (by have := HQ40.out; have := HQI.out; omega) (N := qs.length - 1) (by have := HQI.out; omega) (fun s4 c4 w155 HZ hg9 => ?_)
                        clear H hg9
                        have H := HZ
                        clear HZ
                        simp only [List.set_cons_succ, List.set_cons_zero] at H
                        try clear C
                        skip
                        have C := H.cells
                        try simp only [cellsOf, cellsM, apartOf, apartM, and_true] at C
                        refine ⟨⟨(H.rowCells 2 rfl (q * 4) (by have := HQI.out; omega)).1.trans HC0.out, (H.rowCells 2 rfl (q * 4 + 1) (by have := HQI.out; omega)).1.trans HC1.out, (H.rowCells 2 rfl (q * 4 + 2) (by have := HQI.out; omega)).1.trans HC2.out, (H.rowCells 2 rfl (q * 4 + 3) (by have := HQI.out; omega)).1.trans HC3.out⟩, ?_⟩
                        repeat (first | (refine wpX_skip rfl ?_; go_simp) | (refine wpX_free rfl rfl rfl (fun K hK => ?_); go_step; refine hK _ _ ?_; clear hK K) | (refine wpX_load rfl rfl rfl (by simp [Stay, OneD, NoD, *]) hs0 (by simp [*]) (fun K hK => ?_); go_step; refine hK _ _ ?_; clear hK K))
                        (refine wpX_nil ?_; go_step)
                        go_upto_region 40 with fail
                        try clear C
                        try simp only [World.size_alloc, List.nil_append, List.cons_append, List.append_assoc] at H
                        have C := H.cells
                        try simp only [cellsOf, cellsM, apartOf, apartM, and_true] at C
                        refine wp_region_sH (by kernel_rfl) (by kernel_rfl) (by kernel_rfl) (by kernel_rfl) (fun w => w.cell? ⟨b19, 0, none⟩ = some (.int .i64 S) ∧ w.cell? ⟨b19, 1, none⟩ = some (.int .i64 W) ∧ w.cell? ⟨b19, 2, none⟩ = some (.int .i64 2) ∧ w.cell? ⟨b19, 3, none⟩ = some (.slice saU naU caU) ∧ w.cell? ⟨b18, 0, none⟩ = some (.int .i64 ad) ∧ w.cell? ⟨b18, 1, none⟩ = some (.slice za zn zc) ∧ w.cell? ⟨b18, 2, none⟩ = some (.bool dz) ∧ w.cell? ⟨b18, 3, none⟩ = some (.bool pz)) (H) (fun w0 H => ⟨(Blk.cell (H.at 7 rfl) 0).trans rfl, (Blk.cell (H.at 7 rfl) 1).trans rfl, (Blk.cell (H.at 7 rfl) 2).trans rfl, (Blk.cell (H.at 7 rfl) 3).trans rfl, (Blk.cell (H.at 5 rfl) 0).trans rfl, (Blk.cell (H.at 5 rfl) 1).trans rfl, (Blk.cell (H.at 5 rfl) 2).trans rfl, (Blk.cell (H.at 5 rfl) 3).trans rfl⟩) ?_
                        clear H; intro w53 h0 H hz0
                        try clear C
                        try simp only [World.size_alloc, List.nil_append, List.cons_append, List.append_assoc] at H hz0
                        clear hz0
                        try clear w155
                        have C := H.cells
                        try simp only [cellsOf, cellsM, apartOf, apartM, and_true] at C
                        repeat (first | (refine wpX_skip rfl ?_; go_simp) | (refine wpX_free rfl rfl rfl (fun K hK => ?_); go_step; refine hK _ _ ?_; clear hK K))
                        (refine wpX_yield rfl rfl (.agg #[.int .i64 S, .int .i64 W, .int .i64 2, .slice saU naU caU]) (fun w hw => by obtain ⟨k0, k1, k2, k3, k4, k5, k6, k7⟩ := hw; go_simp) ?_; go_simp)
                        repeat (first | (refine wpX_skip rfl ?_; go_simp) | (refine wpX_free rfl rfl rfl (fun K hK => ?_); go_step; refine hK _ _ ?_; clear hK K))
                        (refine wpX_yield rfl rfl (.agg #[.int .i64 ad, .slice za zn zc, .bool dz, .bool pz]) (fun w hw => by obtain ⟨k0, k1, k2, k3, k4, k5, k6, k7⟩ := hw; go_simp) ?_; go_simp)
                        repeat (first | (refine wpX_skip rfl ?_; go_simp) | (refine wpX_free rfl rfl rfl (fun K hK => ?_); go_step; refine hK _ _ ?_; clear hK K))
                        refine wpX_eff rfl rfl (fun _ _ => ?_)
                        go_step
                        go_step
                        generalize hwb : World.alloc _ _ = w54
                        replace H := HS.eqW hwb H.alloc
                        try simp only [World.size_alloc, List.nil_append, List.cons_append, List.append_assoc] at H
                        clear hwb
                        generalize w53.heap.size = bQ at H ⊢
                        try clear C
                        try clear w53
                        have C := H.cells
                        try simp only [cellsOf, cellsM, apartOf, apartM, and_true] at C
                        refine ⟨⟨(Blk.cell (H.at 7 rfl) 0).trans rfl, (Blk.cell (H.at 7 rfl) 1).trans rfl, (Blk.cell (H.at 7 rfl) 2).trans rfl, (Blk.cell (H.at 7 rfl) 3).trans rfl, (Blk.cell (H.at 5 rfl) 0).trans rfl, (Blk.cell (H.at 5 rfl) 1).trans rfl, (Blk.cell (H.at 5 rfl) 2).trans rfl, (Blk.cell (H.at 5 rfl) 3).trans rfl⟩, ?_⟩
                        refine wpX_apX rfl rfl (.tmp 150) (.tmp 152) 48 rfl elemLn H 9 rfl rfl rfl (srcOne (bs := bz) (H.at 10 rfl)) (by rfl) (lnC_one _) (by have := HQ40.out; unfold maxLen; omega) (by have := HQ40.out; omega) (N := qs.length) (by omega) (fun s4 c4 w156 HZ hg9 => ?_)
                        clear H hg9
                        have H := HZ
                        clear HZ
                        simp only [List.set_cons_succ, List.set_cons_zero] at H
                        try clear C
                        skip
                        have C := H.cells
                        try simp only [cellsOf, cellsM, apartOf, apartM, and_true] at C
                        refine ⟨⟨(Blk.cell (H.at 7 rfl) 0).trans rfl, (Blk.cell (H.at 7 rfl) 1).trans rfl, (Blk.cell (H.at 7 rfl) 2).trans rfl, (Blk.cell (H.at 7 rfl) 3).trans rfl, (Blk.cell (H.at 5 rfl) 0).trans rfl, (Blk.cell (H.at 5 rfl) 1).trans rfl, (Blk.cell (H.at 5 rfl) 2).trans rfl, (Blk.cell (H.at 5 rfl) 3).trans rfl⟩, ?_⟩
                        repeat (first | (refine wpX_skip rfl ?_; go_simp) | (refine wpX_free rfl rfl rfl (fun K hK => ?_); go_step; refine hK _ _ ?_; clear hK K))
                        refine wpX_eff rfl rfl (fun _ _ => ?_)
                        go_step
                        go_step
                        generalize hwb : (((w156.setCell _ _).setCell _ _).setCell _ _).setCell _ _ = w157
                        replace H := HS.eqW hwb (H.putAll (i := 1) rfl (vs := [.int .i64 S, .int .i64 W, .int .i64 2, .slice saU naU caU]) rfl rfl)
                        simp only [List.nil_append, List.cons_append, List.append_assoc, List.set_cons_succ, List.set_cons_zero] at H
                        clear hwb
                        try clear C
                        skip
                        have C := H.cells
                        try simp only [cellsOf, cellsM, apartOf, apartM, and_true] at C
                        refine ⟨⟨(Blk.cell (H.at 7 rfl) 0).trans rfl, (Blk.cell (H.at 7 rfl) 1).trans rfl, (Blk.cell (H.at 7 rfl) 2).trans rfl, (Blk.cell (H.at 7 rfl) 3).trans rfl, (Blk.cell (H.at 5 rfl) 0).trans rfl, (Blk.cell (H.at 5 rfl) 1).trans rfl, (Blk.cell (H.at 5 rfl) 2).trans rfl, (Blk.cell (H.at 5 rfl) 3).trans rfl⟩, ?_⟩
                        repeat (first | (refine wpX_skip rfl ?_; go_simp) | (refine wpX_free rfl rfl rfl (fun K hK => ?_); go_step; refine hK _ _ ?_; clear hK K) | (refine wpX_load rfl rfl rfl (by simp [Stay, OneD, NoD, *]) hs0 (by simp [*]) (fun K hK => ?_); go_step; refine hK _ _ ?_; clear hK K))
                        (refine wpX_nil ?_; go_step)
                        have H9 := HS.less (L' := [.dice w.heap.size bd, .blk b4 #[.int .i64 S, .int .i64 W, .int .i64 2, .slice saU naU caU] 24, .any F (fun w => LinesOk w qs), .any Fz (fun w => BytesAt w ⟨za, zn, zc⟩ bz), .any FU (fun w => SlotsAt w ⟨saU, naU, caU⟩ lU ∧ BytesAt w ⟨yaU, ynU, ycU⟩ bs), .row (.slice s4 (qs.length) c4) 35 4 (qs.length) ((qs.take q).flatMap lnC ++ ((qs.drop (q + 1)).flatMap lnC ++ [((⟨ad, bz, dz, pz⟩ : Lm), (⟨za, zn, zc⟩ : Sv))].flatMap lnC))]) H (by repeat (first | exact .slnil | refine .cons_cons _ ?_ | refine .cons _ ?_))
                        clear H C
                        have H8 := H9.permu (L' := [.dice w.heap.size bd, .blk b4 #[.int .i64 S, .int .i64 W, .int .i64 2, .slice saU naU caU] 24, .row (.slice s4 (qs.length) c4) 35 4 (qs.length) ((qs.take q).flatMap lnC ++ ((qs.drop (q + 1)).flatMap lnC ++ [((⟨ad, bz, dz, pz⟩ : Lm), (⟨za, zn, zc⟩ : Sv))].flatMap lnC)), .any FU (fun w => SlotsAt w ⟨saU, naU, caU⟩ lU ∧ BytesAt w ⟨yaU, ynU, ycU⟩ bs), .any F (fun w => LinesOk w qs), .any Fz (fun w => BytesAt w ⟨za, zn, zc⟩ bz)]) (.cons _ (.cons _ ((List.perm_append_comm (l₁ := [_, _]) (l₂ := [_, _])).trans (List.Perm.swap _ _ _))))
                        clear H9
                        have H6 := HS.merge (L := [_, _, _, _]) H8
                        clear H8
                        have H7 := HS.weak (L := [_, _, _, _]) H6 (K' := fun w => LinesOk w ((qs.take q ++ qs.drop (q + 1)) ++ [((⟨ad, bz, dz, pz⟩ : Lm), (⟨za, zn, zc⟩ : Sv))])) (fun w' h => linesOk_end (linesOk_mid h.1) h.2)
                        clear H6
                        have hn9 : ((qs.take q ++ qs.drop (q + 1)) ++ [((⟨ad, bz, dz, pz⟩ : Lm), (⟨za, zn, zc⟩ : Sv))]).length = qs.length := by rw [List.length_append, mid_len9 HQI.out]; simp; have := HQI.out; omega
                        have H6 := H7.permu (L' := [.dice w.heap.size bd, .blk b4 #[.int .i64 S, .int .i64 W, .int .i64 2, .slice saU naU caU] 24, .row (.slice s4 (qs.length) c4) 35 4 (qs.length) ((qs.take q).flatMap lnC ++ ((qs.drop (q + 1)).flatMap lnC ++ [((⟨ad, bz, dz, pz⟩ : Lm), (⟨za, zn, zc⟩ : Sv))].flatMap lnC)), _, _]) (.cons _ (.cons _ (.cons _ (List.Perm.swap _ _ _))))
                        clear H7
                        have H := HS.weak (L := [_, _, _, _]) H6 (K' := fun w => SlotsAt w ⟨saU, naU, caU⟩ lU) (fun w' h => h.1)
                        clear H6
                        try simp only [List.nil_append, List.cons_append] at H
                        have hrq : Runs S lU (((qs.take q ++ qs.drop (q + 1)) ++ [((⟨ad, bz, dz, pz⟩ : Lm), (⟨za, zn, zc⟩ : Sv))]).map Prod.fst) := by have := HR2.out; simpa using this
                        have HRQ := Lib.hid hrq
                        clear hrq
                        rw [show (qs.take q).flatMap lnC ++ ((qs.drop (q + 1)).flatMap lnC ++ [((⟨ad, bz, dz, pz⟩ : Lm), (⟨za, zn, zc⟩ : Sv))].flatMap lnC) = ((qs.take q ++ qs.drop (q + 1)) ++ [((⟨ad, bz, dz, pz⟩ : Lm), (⟨za, zn, zc⟩ : Sv))]).flatMap lnC by simp [List.flatMap_append]] at H
                        generalize (qs.take q ++ qs.drop (q + 1)) ++ [((⟨ad, bz, dz, pz⟩ : Lm), (⟨za, zn, zc⟩ : Sv))] = qr at H HRQ hn9
                        rw [← hn9] at H
                        rw [← hn9]
                        try clear C
                        try simp only [World.size_alloc, List.nil_append, List.cons_append, List.append_assoc] at H
                        have C := H.cells
                        try simp only [cellsOf, cellsM, apartOf, apartM, and_true] at C
                        go_wp2_with fail
                        refine (cvalid_f HG2.out ⟨saU, naU, caU⟩ _ (H.says 4 rfl)).mono ?_
                        rintro _ w55 ⟨rfl, hb⟩
                        replace H := H.below hb
                        clear hb
                        try clear C
                        try simp only [World.size_alloc, List.nil_append, List.cons_append, List.append_assoc] at H
                        try clear w157
                        have C := H.cells
                        try simp only [cellsOf, cellsM, apartOf, apartM, and_true] at C
                        dsimp only
                        go_wp2_with fail
                        go_roundw
                        case rel => exact ⟨k + 1, s4, c4, qr, lU, saU, naU, caU, _, _, by go_num, by rw [hn9], by have := HLT.out; omega, by have := HQK.out; omega, HG2, HRQ, H⟩
                        case measure => simp [intOf]; have := HLT.out; omega
                    · as_aux_lemma =>
                      skip
                      obtain ⟨g, cg, hv, -, -⟩ := World.ownsRow.form (H.at 2 rfl) (by omega)
                      obtain ⟨rfl, -, rfl⟩ := Value.slice.inj hv
                      clear hv
                      have HQI := Lib.hid hqi
                      have hms := split9 hqi
                      have hle0 : ∀ m v, (lnC qs[q]!)[m]? = some v → (qs.flatMap lnC)[q * 4 + m]? = some v := fun m v => flat_get lnC_len qs q m v hqi
                      have hmem := mem_bang hqi
                      generalize hx0 : qs[q]! = x0 at hms hle0 hmem hqa
                      obtain ⟨⟨ai, bs, d, p⟩, ⟨xa, xn, xc⟩⟩ := x0
                      dsimp only at hqa hms
                      obtain rfl : ad = ai := hqa.symm
                      have HC0 := Lib.hid (show (qs.flatMap lnC)[q * 4]? = some (.int .i64 ad) from hle0 0 _ rfl)
                      have HC1 := Lib.hid (show (qs.flatMap lnC)[q * 4 + 1]? = some (.slice xa xn xc) from hle0 1 _ rfl)
                      have HC2 := Lib.hid (show (qs.flatMap lnC)[q * 4 + 2]? = some (.bool d) from hle0 2 _ rfl)
                      have HC3 := Lib.hid (show (qs.flatMap lnC)[q * 4 + 3]? = some (.bool p) from hle0 3 _ rfl)
                      have HMS := Lib.hid hms
                      have HXB := Lib.hid (fun (wx : World) (h : LinesOk wx qs) => show BytesAt wx ⟨xa, xn, xc⟩ bs from h _ hmem)
                      have HRX := Lib.hid (show Runs S l ((qs.take q).map Prod.fst ++ (⟨ad, bs, d, p⟩ : Lm) :: (qs.drop (q + 1)).map Prod.fst) from by have := HR.out; rwa [hms] at this)
                      clear hms hle0 hmem hx0 
                      have HSM := Lib.hid (fun (ya : Sv) wx h1 h2 => (show Calls Try.prog 21 #[.agg #[.int .i64 ad, .slice ya.sa ya.n ya.c, .bool d, .bool p], .agg #[.int .i64 ad, .slice xa xn xc, .bool d, .bool p]] wx (Gives (.bool true) wx) from l30same_any ⟨ad, bs, d, p⟩ ya ⟨xa, xn, xc⟩ wx h1 h2))
                      have hqq : (q : Int) < qs.length := by have := HQI.out; omega
                      have hq0 : (0 : Int) ≤ q := by omega
                      have hq41 : (q : Int) ≤ 40 := by have := HQ40.out; omega
                      obtain ⟨h1, h2, h3⟩ := runs_put_hit (z := (⟨ad, bz, dz, pz⟩ : Lm)) HG.out HRX.out rfl HLZ.out HU.out
                      dsimp only at h1 h3
                      have HR2 := Lib.hid h3
                      subst h1
                      clear h2 h3
                      refine wp_region_xH (by kernel_rfl) (by kernel_rfl) (by kernel_rfl) (by kernel_rfl) (fun _ => False) (H) ?_
                      clear H; intro w56 H hz0 hs0
                      try clear C
                      try simp only [World.size_alloc, List.nil_append, List.cons_append, List.append_assoc] at H hz0
                      clear hz0
                      try clear wr
                      have C := H.cells
                      try simp only [cellsOf, cellsM, apartOf, apartM, and_true] at C
                      have Z := H.zs
                      try simp only [ltsOf, ltsM, and_true] at Z
                      have hz0 := Nat.le_refl w56.heap.size
                      repeat (first | (refine wpX_skip rfl ?_; go_simp) | (refine wpX_free rfl rfl rfl (fun K hK => ?_); go_step; refine hK _ _ ?_; clear hK K) | (refine wpX_load rfl rfl rfl (by simp [Stay, OneD, NoD, *]) hs0 (by simp [*]) (fun K hK => ?_); go_step; refine hK _ _ ?_; clear hK K))
                      (refine wpX_nil ?_; go_step)
                      have hcap : qs.length ≤ c := (row_capOk (H.at 2 rfl)).1
                      obtain ⟨ad9, had1, had2⟩ : ∃ ad9 : Addr, (if c = q + 1 then some ⟨g, 0, none⟩ else some ⟨g, (q + 1) * 4, none⟩ : Option Addr) = some ad9 ∧ (0 < qs.length - (q + 1) → ad9 = ⟨g, (q + 1) * 4, none⟩) := by
                        have := HQI.out
                        by_cases e : c = q + 1
                        · rw [if_pos e]; exact ⟨_, rfl, fun h => by omega⟩
                        · rw [if_neg e]; exact ⟨_, rfl, fun h => rfl⟩
                      have HAD9 := Lib.hid had2
                      have hqc : (q : Int) ≤ c := by have := HQI.out; omega
                      have hqc1 : (q : Int) + 1 ≤ c := by have := HQI.out; omega
                      have hqn1 : (q : Int) + 1 ≤ qs.length := by have := HQI.out; omega
                      have hq10 : (0 : Int) ≤ (q : Int) + 1 := by omega
                      clear had2 hcap
                      go_upto_region 39 with fail
                      have hnr := H.nilRow 35 4
                      clear H C
                      have H := hnr
                      clear hnr
                      try simp only [List.nil_append, List.cons_append] at H
                      try clear C
                      try simp only [World.size_alloc, List.nil_append, List.cons_append, List.append_assoc] at H
                      have C := H.cells
                      try simp only [cellsOf, cellsM, apartOf, apartM, and_true] at C
                      refine wp_region_sH (by kernel_rfl) (by kernel_rfl) (by kernel_rfl) (by kernel_rfl) (fun w => w.cell? ⟨g, q * 4, none⟩ = some (.int .i64 ad) ∧ w.cell? ⟨g, q * 4 + 1, none⟩ = some (.slice xa xn xc) ∧ w.cell? ⟨g, q * 4 + 2, none⟩ = some (.bool d) ∧ w.cell? ⟨g, q * 4 + 3, none⟩ = some (.bool p)) (H) (fun w0 H => ⟨(H.rowCells 2 rfl (q * 4) (by have := HQI.out; omega)).1.trans HC0.out, (H.rowCells 2 rfl (q * 4 + 1) (by have := HQI.out; omega)).1.trans HC1.out, (H.rowCells 2 rfl (q * 4 + 2) (by have := HQI.out; omega)).1.trans HC2.out, (H.rowCells 2 rfl (q * 4 + 3) (by have := HQI.out; omega)).1.trans HC3.out⟩) ?_
                      clear H; intro w57 h0 H hz0
                      try clear C
                      try simp only [World.size_alloc, List.nil_append, List.cons_append, List.append_assoc] at H hz0
                      clear hz0
                      try clear w56
                      have C := H.cells
                      try simp only [cellsOf, cellsM, apartOf, apartM, and_true] at C
                      repeat (first | (refine wpX_skip rfl ?_; go_simp) | (refine wpX_free rfl rfl rfl (fun K hK => ?_); go_step; refine hK _ _ ?_; clear hK K))
                      (refine wpX_yield rfl rfl ((.slice (some ⟨g, 0, none⟩) q c)) (fun w hw => by go_simp) ?_; go_simp)
                      refine wpX_apX rfl rfl (.const (.slice none 0 0)) (.tmp 142) 48 rfl elemLn H 9 rfl rfl rfl (srcTake (H.at 2 rfl) (Nat.le_of_lt HQI.out)) (by rw [flat_len lnC_len, List.length_take, Nat.min_eq_left (Nat.le_of_lt HQI.out)]) (lnC_one _) (by have := HQ40.out; have := HQI.out; unfold maxLen; omega) (by have := HQ40.out; have := HQI.out; omega) (N := q) (by omega) (fun s4 c4 w158 HZ hg9 => ?_)
                      clear H hg9
                      have H := HZ
                      clear HZ
                      simp only [List.set_cons_succ, List.set_cons_zero] at H
                      try rw [List.nil_append] at H
                      try clear C
                      skip
                      have C := H.cells
                      try simp only [cellsOf, cellsM, apartOf, apartM, and_true] at C
                      refine ⟨⟨(H.rowCells 2 rfl (q * 4) (by have := HQI.out; omega)).1.trans HC0.out, (H.rowCells 2 rfl (q * 4 + 1) (by have := HQI.out; omega)).1.trans HC1.out, (H.rowCells 2 rfl (q * 4 + 2) (by have := HQI.out; omega)).1.trans HC2.out, (H.rowCells 2 rfl (q * 4 + 3) (by have := HQI.out; omega)).1.trans HC3.out⟩, ?_⟩
                      repeat (first | (refine wpX_skip rfl ?_; go_simp) | (refine wpX_free rfl rfl rfl (fun K hK => ?_); go_step; refine hK _ _ ?_; clear hK K))
                      (refine wpX_yield rfl rfl ((.slice (some ad9) (qs.length - (q + 1) : Nat) (c - (q + 1) : Nat))) (fun w hw => by go_simp) ?_; go_simp)
                      refine wpX_apX rfl rfl (.tmp 143) (.tmp 147) 48 rfl elemLn H 9 rfl rfl rfl (srcDrop (H.at 2 rfl) HQI.out HAD9.out) (by rw [flat_len lnC_len, List.length_drop]) (lnC_one _) (by have := HQ40.out; have := HQI.out; unfold maxLen; omega) (by have := HQ40.out; have := HQI.out; omega) (N := qs.length - 1) (by have := HQI.out; omega) (fun s4 c4 w159 HZ hg9 => ?_)
                      clear H hg9
                      have H := HZ
                      clear HZ
                      simp only [List.set_cons_succ, List.set_cons_zero] at H
                      try clear C
                      skip
                      have C := H.cells
                      try simp only [cellsOf, cellsM, apartOf, apartM, and_true] at C
                      refine ⟨⟨(H.rowCells 2 rfl (q * 4) (by have := HQI.out; omega)).1.trans HC0.out, (H.rowCells 2 rfl (q * 4 + 1) (by have := HQI.out; omega)).1.trans HC1.out, (H.rowCells 2 rfl (q * 4 + 2) (by have := HQI.out; omega)).1.trans HC2.out, (H.rowCells 2 rfl (q * 4 + 3) (by have := HQI.out; omega)).1.trans HC3.out⟩, ?_⟩
                      repeat (first | (refine wpX_skip rfl ?_; go_simp) | (refine wpX_free rfl rfl rfl (fun K hK => ?_); go_step; refine hK _ _ ?_; clear hK K) | (refine wpX_load rfl rfl rfl (by simp [Stay, OneD, NoD, *]) hs0 (by simp [*]) (fun K hK => ?_); go_step; refine hK _ _ ?_; clear hK K))
                      (refine wpX_nil ?_; go_step)
                      go_upto_region 40 with fail
                      try clear C
                      try simp only [World.size_alloc, List.nil_append, List.cons_append, List.append_assoc] at H
                      have C := H.cells
                      try simp only [cellsOf, cellsM, apartOf, apartM, and_true] at C
                      refine wp_region_sH (by kernel_rfl) (by kernel_rfl) (by kernel_rfl) (by kernel_rfl) (fun w => w.cell? ⟨b19, 0, none⟩ = some (.int .i64 S) ∧ w.cell? ⟨b19, 1, none⟩ = some (.int .i64 W) ∧ w.cell? ⟨b19, 2, none⟩ = some (.int .i64 2) ∧ w.cell? ⟨b19, 3, none⟩ = some (.slice saU naU caU) ∧ w.cell? ⟨b18, 0, none⟩ = some (.int .i64 ad) ∧ w.cell? ⟨b18, 1, none⟩ = some (.slice za zn zc) ∧ w.cell? ⟨b18, 2, none⟩ = some (.bool dz) ∧ w.cell? ⟨b18, 3, none⟩ = some (.bool pz)) (H) (fun w0 H => ⟨(Blk.cell (H.at 7 rfl) 0).trans rfl, (Blk.cell (H.at 7 rfl) 1).trans rfl, (Blk.cell (H.at 7 rfl) 2).trans rfl, (Blk.cell (H.at 7 rfl) 3).trans rfl, (Blk.cell (H.at 5 rfl) 0).trans rfl, (Blk.cell (H.at 5 rfl) 1).trans rfl, (Blk.cell (H.at 5 rfl) 2).trans rfl, (Blk.cell (H.at 5 rfl) 3).trans rfl⟩) ?_
                      clear H; intro w58 h0 H hz0
                      try clear C
                      try simp only [World.size_alloc, List.nil_append, List.cons_append, List.append_assoc] at H hz0
                      clear hz0
                      try clear w159
                      have C := H.cells
                      try simp only [cellsOf, cellsM, apartOf, apartM, and_true] at C
                      repeat (first | (refine wpX_skip rfl ?_; go_simp) | (refine wpX_free rfl rfl rfl (fun K hK => ?_); go_step; refine hK _ _ ?_; clear hK K))
                      (refine wpX_yield rfl rfl (.agg #[.int .i64 S, .int .i64 W, .int .i64 2, .slice saU naU caU]) (fun w hw => by obtain ⟨k0, k1, k2, k3, k4, k5, k6, k7⟩ := hw; go_simp) ?_; go_simp)
                      repeat (first | (refine wpX_skip rfl ?_; go_simp) | (refine wpX_free rfl rfl rfl (fun K hK => ?_); go_step; refine hK _ _ ?_; clear hK K))
                      (refine wpX_yield rfl rfl (.agg #[.int .i64 ad, .slice za zn zc, .bool dz, .bool pz]) (fun w hw => by obtain ⟨k0, k1, k2, k3, k4, k5, k6, k7⟩ := hw; go_simp) ?_; go_simp)
                      repeat (first | (refine wpX_skip rfl ?_; go_simp) | (refine wpX_free rfl rfl rfl (fun K hK => ?_); go_step; refine hK _ _ ?_; clear hK K))
                      refine wpX_eff rfl rfl (fun _ _ => ?_)
                      go_step
                      go_step
                      generalize hwb : World.alloc _ _ = w59
                      replace H := HS.eqW hwb H.alloc
                      try simp only [World.size_alloc, List.nil_append, List.cons_append, List.append_assoc] at H
                      clear hwb
                      generalize w58.heap.size = bQ at H ⊢
                      try clear C
                      try clear w58
                      have C := H.cells
                      try simp only [cellsOf, cellsM, apartOf, apartM, and_true] at C
                      refine ⟨⟨(Blk.cell (H.at 7 rfl) 0).trans rfl, (Blk.cell (H.at 7 rfl) 1).trans rfl, (Blk.cell (H.at 7 rfl) 2).trans rfl, (Blk.cell (H.at 7 rfl) 3).trans rfl, (Blk.cell (H.at 5 rfl) 0).trans rfl, (Blk.cell (H.at 5 rfl) 1).trans rfl, (Blk.cell (H.at 5 rfl) 2).trans rfl, (Blk.cell (H.at 5 rfl) 3).trans rfl⟩, ?_⟩
                      refine wpX_apX rfl rfl (.tmp 150) (.tmp 152) 48 rfl elemLn H 9 rfl rfl rfl (srcOne (bs := bz) (H.at 10 rfl)) (by rfl) (lnC_one _) (by have := HQ40.out; unfold maxLen; omega) (by have := HQ40.out; omega) (N := qs.length) (by omega) (fun s4 c4 w160 HZ hg9 => ?_)
                      clear H hg9
                      have H := HZ
                      clear HZ
                      simp only [List.set_cons_succ, List.set_cons_zero] at H
                      try clear C
                      skip
                      have C := H.cells
                      try simp only [cellsOf, cellsM, apartOf, apartM, and_true] at C
                      refine ⟨⟨(Blk.cell (H.at 7 rfl) 0).trans rfl, (Blk.cell (H.at 7 rfl) 1).trans rfl, (Blk.cell (H.at 7 rfl) 2).trans rfl, (Blk.cell (H.at 7 rfl) 3).trans rfl, (Blk.cell (H.at 5 rfl) 0).trans rfl, (Blk.cell (H.at 5 rfl) 1).trans rfl, (Blk.cell (H.at 5 rfl) 2).trans rfl, (Blk.cell (H.at 5 rfl) 3).trans rfl⟩, ?_⟩
                      repeat (first | (refine wpX_skip rfl ?_; go_simp) | (refine wpX_free rfl rfl rfl (fun K hK => ?_); go_step; refine hK _ _ ?_; clear hK K))
                      refine wpX_eff rfl rfl (fun _ _ => ?_)
                      go_step
                      go_step
                      generalize hwb : (((w160.setCell _ _).setCell _ _).setCell _ _).setCell _ _ = w161
                      replace H := HS.eqW hwb (H.putAll (i := 1) rfl (vs := [.int .i64 S, .int .i64 W, .int .i64 2, .slice saU naU caU]) rfl rfl)
                      simp only [List.nil_append, List.cons_append, List.append_assoc, List.set_cons_succ, List.set_cons_zero] at H
                      clear hwb
                      try clear C
                      skip
                      have C := H.cells
                      try simp only [cellsOf, cellsM, apartOf, apartM, and_true] at C
                      refine ⟨⟨(Blk.cell (H.at 7 rfl) 0).trans rfl, (Blk.cell (H.at 7 rfl) 1).trans rfl, (Blk.cell (H.at 7 rfl) 2).trans rfl, (Blk.cell (H.at 7 rfl) 3).trans rfl, (Blk.cell (H.at 5 rfl) 0).trans rfl, (Blk.cell (H.at 5 rfl) 1).trans rfl, (Blk.cell (H.at 5 rfl) 2).trans rfl, (Blk.cell (H.at 5 rfl) 3).trans rfl⟩, ?_⟩
                      repeat (first | (refine wpX_skip rfl ?_; go_simp) | (refine wpX_free rfl rfl rfl (fun K hK => ?_); go_step; refine hK _ _ ?_; clear hK K) | (refine wpX_load rfl rfl rfl (by simp [Stay, OneD, NoD, *]) hs0 (by simp [*]) (fun K hK => ?_); go_step; refine hK _ _ ?_; clear hK K))
                      (refine wpX_nil ?_; go_step)
                      have H9 := HS.less (L' := [.dice w.heap.size bd, .blk b4 #[.int .i64 S, .int .i64 W, .int .i64 2, .slice saU naU caU] 24, .any F (fun w => LinesOk w qs), .any Fz (fun w => BytesAt w ⟨za, zn, zc⟩ bz), .any FU (fun w => SlotsAt w ⟨saU, naU, caU⟩ lU ∧ BytesAt w ⟨yaU, ynU, ycU⟩ bv), .row (.slice s4 (qs.length) c4) 35 4 (qs.length) ((qs.take q).flatMap lnC ++ ((qs.drop (q + 1)).flatMap lnC ++ [((⟨ad, bz, dz, pz⟩ : Lm), (⟨za, zn, zc⟩ : Sv))].flatMap lnC))]) H (by repeat (first | exact .slnil | refine .cons_cons _ ?_ | refine .cons _ ?_))
                      clear H C
                      have H8 := H9.permu (L' := [.dice w.heap.size bd, .blk b4 #[.int .i64 S, .int .i64 W, .int .i64 2, .slice saU naU caU] 24, .row (.slice s4 (qs.length) c4) 35 4 (qs.length) ((qs.take q).flatMap lnC ++ ((qs.drop (q + 1)).flatMap lnC ++ [((⟨ad, bz, dz, pz⟩ : Lm), (⟨za, zn, zc⟩ : Sv))].flatMap lnC)), .any FU (fun w => SlotsAt w ⟨saU, naU, caU⟩ lU ∧ BytesAt w ⟨yaU, ynU, ycU⟩ bv), .any F (fun w => LinesOk w qs), .any Fz (fun w => BytesAt w ⟨za, zn, zc⟩ bz)]) (.cons _ (.cons _ ((List.perm_append_comm (l₁ := [_, _]) (l₂ := [_, _])).trans (List.Perm.swap _ _ _))))
                      clear H9
                      have H6 := HS.merge (L := [_, _, _, _]) H8
                      clear H8
                      have H7 := HS.weak (L := [_, _, _, _]) H6 (K' := fun w => LinesOk w ((qs.take q ++ qs.drop (q + 1)) ++ [((⟨ad, bz, dz, pz⟩ : Lm), (⟨za, zn, zc⟩ : Sv))])) (fun w' h => linesOk_end (linesOk_mid h.1) h.2)
                      clear H6
                      have hn9 : ((qs.take q ++ qs.drop (q + 1)) ++ [((⟨ad, bz, dz, pz⟩ : Lm), (⟨za, zn, zc⟩ : Sv))]).length = qs.length := by rw [List.length_append, mid_len9 HQI.out]; simp; have := HQI.out; omega
                      have H6 := H7.permu (L' := [.dice w.heap.size bd, .blk b4 #[.int .i64 S, .int .i64 W, .int .i64 2, .slice saU naU caU] 24, .row (.slice s4 (qs.length) c4) 35 4 (qs.length) ((qs.take q).flatMap lnC ++ ((qs.drop (q + 1)).flatMap lnC ++ [((⟨ad, bz, dz, pz⟩ : Lm), (⟨za, zn, zc⟩ : Sv))].flatMap lnC)), _, _]) (.cons _ (.cons _ (.cons _ (List.Perm.swap _ _ _))))
                      clear H7
                      have H := HS.weak (L := [_, _, _, _]) H6 (K' := fun w => SlotsAt w ⟨saU, naU, caU⟩ lU) (fun w' h => h.1)
                      clear H6
                      try simp only [List.nil_append, List.cons_append] at H
                      have hrq : Runs S lU (((qs.take q ++ qs.drop (q + 1)) ++ [((⟨ad, bz, dz, pz⟩ : Lm), (⟨za, zn, zc⟩ : Sv))]).map Prod.fst) := by have := HR2.out; simpa using this
                      have HRQ := Lib.hid hrq
                      clear hrq
                      rw [show (qs.take q).flatMap lnC ++ ((qs.drop (q + 1)).flatMap lnC ++ [((⟨ad, bz, dz, pz⟩ : Lm), (⟨za, zn, zc⟩ : Sv))].flatMap lnC) = ((qs.take q ++ qs.drop (q + 1)) ++ [((⟨ad, bz, dz, pz⟩ : Lm), (⟨za, zn, zc⟩ : Sv))]).flatMap lnC by simp [List.flatMap_append]] at H
                      generalize (qs.take q ++ qs.drop (q + 1)) ++ [((⟨ad, bz, dz, pz⟩ : Lm), (⟨za, zn, zc⟩ : Sv))] = qr at H HRQ hn9
                      rw [← hn9] at H
                      rw [← hn9]
                      try clear C
                      try simp only [World.size_alloc, List.nil_append, List.cons_append, List.append_assoc] at H
                      have C := H.cells
                      try simp only [cellsOf, cellsM, apartOf, apartM, and_true] at C
                      go_wp2_with fail
                      refine (cvalid_f HG2.out ⟨saU, naU, caU⟩ _ (H.says 4 rfl)).mono ?_
                      rintro _ w60 ⟨rfl, hb⟩
                      replace H := H.below hb
                      clear hb
                      try clear C
                      try simp only [World.size_alloc, List.nil_append, List.cons_append, List.append_assoc] at H
                      try clear w161
                      have C := H.cells
                      try simp only [cellsOf, cellsM, apartOf, apartM, and_true] at C
                      dsimp only
                      go_wp2_with fail
                      go_roundw
                      case rel => exact ⟨k + 1, s4, c4, qr, lU, saU, naU, caU, _, _, by go_num, by rw [hn9], by have := HLT.out; omega, by have := HQK.out; omega, HG2, HRQ, H⟩
                      case measure => simp [intOf]; have := HLT.out; omega
      · obtain rfl : k = 40 := by omega
        skip
        go_wp2_with fail
        refine (HAW.out _).mono ?_
        rintro _ w61 ⟨rfl, hb⟩
        replace H := H.below hb
        clear hb
        try clear C
        try simp only [World.size_alloc, List.nil_append, List.cons_append, List.append_assoc] at H
        try clear wr
        have C := H.cells
        try simp only [cellsOf, cellsM, apartOf, apartM, and_true] at C
        dsimp only
        go_wp2_with fail
        go_ret
        exact ⟨rfl, H.done⟩
  · rw [decide_eq_false h400] at hli
    have HLI := Lib.hid hli
    clear hli
    go_enter Try.func4, Try.ntmps4
    have H := HS.start NoD w
    go_wp2_with fail
    refine (gives_of31 (HLI.out _)).mono ?_
    rintro _ w1 ⟨rfl, hb⟩
    replace H := H.below hb
    clear hb
    try clear C
    try simp only [World.size_alloc, List.nil_append, List.cons_append, List.append_assoc] at H
    have C := H.cells
    try simp only [cellsOf, cellsM, apartOf, apartM, and_true] at C
    dsimp only
    go_wp2_with fail
    refine (HAW.out _).mono ?_
    rintro _ w2 ⟨rfl, hb⟩
    replace H := H.below hb
    clear hb
    try clear C
    try simp only [World.size_alloc, List.nil_append, List.cons_append, List.append_assoc] at H
    try clear w1
    have C := H.cells
    try simp only [cellsOf, cellsM, apartOf, apartM, and_true] at C
    dsimp only
    go_wp2_with fail
    go_ret
    exact ⟨rfl, H.done⟩
end Go.Proofs.Ytfmcicmbehjdcaa
