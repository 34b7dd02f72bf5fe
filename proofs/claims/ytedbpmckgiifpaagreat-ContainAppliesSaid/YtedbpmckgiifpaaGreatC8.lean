/- contain: tell, kill. -/
import Derived.Test.YtedbpmckgiifpaaGreatC7
namespace Go.Proofs.YtedbpmckgiifpaaGreat
set_option linter.unusedSimpArgs false
set_option linter.unusedVariables false
open Go.RowKit
set_option maxRecDepth 100000
attribute [local go_sem] lt_more ne_more ne_more'
attribute [local irreducible] wpX wpF Calls

theorem ownsRow_mx {w : World} {B k n : Nat} {e : TypeId} {v : Value} {cs : List Value} (h : w.ownsRow B e k v n cs) : n ≤ maxLen := by
  rcases h.2 with ⟨-, h2⟩ | ⟨g, cap, cur, -, -, -, h3, h4, -⟩
  · rw [h2]; exact Nat.zero_le _
  · exact Nat.le_trans h3 h4
def ctellP (F : List Fr) (ps : List Pr) (d : Dd) : Int × List Fr × List Pr :=
  let R := tellP ps d.p d.g
  if R.1 ≠ 0 then (R.1, [], []) else if hasB ps d.f d.p d.g = false then (41, [], []) else (0, F, R.2.1)
set_option maxHeartbeats 8000000 in
theorem ctell_any {F : List Fr} (hF : F.length ≤ 1000) {F' : Int} {ps : List Pr} (hg : GoodP F' ps) (d : Dd) {sa : Option Addr} (c : Nat) {v : Value} (w : World) (hl : Lies w w.heap.size sa 2 F.length (fun j => frC F[j]!)) (hp : Ps w w.heap.size v ps) :
    Calls Tryz.prog 47 #[.slice sa F.length c, v, .agg (ddC d).toArray] w (GivesFP (ctellP F ps d) w) := by
  obtain ⟨dk, df, dt, dp, dg⟩ := d
  have HR := Lib.hid (fun w h => otell_any dp dg hg (v := v) w h)
  have HH := Lib.hid (fun w h => has_any hg df dp dg (v := v) w h)
  have HCL := Lib.hid (fun w hl => cloneFr (sa := sa) c hF (frC_one F) w hl)
  have HL := Lib.hid hl
  have HPS := Lib.hid hp
  have HSH := Lib.hid (show ctellP F ps ⟨dk, df, dt, dp, dg⟩ = if (tellP ps dp dg).1 ≠ 0 then ((tellP ps dp dg).1, [], []) else if hasB ps df dp dg = false then (41, [], []) else (0, F, (tellP ps dp dg).2.1) from rfl)
  rw [HSH.out]
  generalize tellP ps dp dg = R at HR ⊢
  generalize hasB ps df dp dg = hb at HH ⊢
  clear HSH hl hp hg
  obtain ⟨e, out, lf⟩ := R
  dsimp only
  show Calls Tryz.prog 47 #[.slice sa F.length c, v, .agg #[.int .i64 dk, .int .i64 df, .int .i64 dt, .int .i64 dp, .int .i64 dg]] w _
  by_cases he : e = 0
  · subst he
    rw [if_neg (by simp)]
    obtain ⟨RR, hRR⟩ : ∃ RR, RR = (if hb = false then (41, [], []) else (0, F, out) : Int × List Fr × List Pr) := ⟨_, rfl⟩
    rw [← hRR]
    have HRR := Lib.hid hRR
    clear hRR
    go_enter Tryz.func47, Tryz.ntmps47
    have H := HS.start NoD w
    go_upto_region 1 with fail
    generalize hwb : w.alloc _ = w1
    replace H := HS.eqW hwb H.alloc
    try simp only [World.size_alloc, List.nil_append, List.cons_append, List.append_assoc] at H
    clear hwb
    generalize w.heap.size = bD at H ⊢
    try clear C
    have C := H.cells
    try simp only [cellsOf, cellsM, apartOf, apartM, and_true] at C
    go_wp2_with fail
    all_goals
      refine (HR.out _ (H.psUp HPS.out)).mono ?_
      rintro _ w2 ⟨v1, rs, rfl, hrs, K⟩
      have HRS := Lib.hid hrs
      clear hrs HR
      replace H := H.join1 K
      clear K
      simp only [List.nil_append, List.cons_append] at H
      skip
      try clear C
      try simp only [World.size_alloc, List.nil_append, List.cons_append, List.append_assoc] at H
      have C := H.cells
      try simp only [cellsOf, cellsM, apartOf, apartM, and_true] at C
      dsimp only
      go_wp2_with fail
      refine (HH.out _ (H.psUp HPS.out)).mono ?_
      rintro _ w2 ⟨rfl, hb⟩
      replace H := H.below hb
      clear hb
      try clear C
      try simp only [World.size_alloc, List.nil_append, List.cons_append, List.append_assoc] at H
      try clear w2
      have C := H.cells
      try simp only [cellsOf, cellsM, apartOf, apartM, and_true] at C
      dsimp only
      clear HH
      cases hb with
      | false =>
        go_wp2_with fail
        refine bodyPost_ret (by simp [results, Tryz.results47, go_sem, C]; try rfl) rfl ?_
        rw [HRR.out, if_pos (by first | trivial | rfl)]
        exact givesFP_nil H 41
      | true =>
        go_wp2_with fail
        refine (HCL.out _ (H.liesUp HL.out)).mono ?_
        rintro _ w3 ⟨s1, d1, rfl, hr, hb⟩
        replace H := (H).getsRow hb hr
        clear hb hr
        try clear C
        try simp only [World.size_alloc, List.nil_append, List.cons_append, List.append_assoc] at H
        try clear w2
        have C := H.cells
        try simp only [cellsOf, cellsM, apartOf, apartM, and_true] at C
        dsimp only
        go_wp2_with fail
        refine bodyPost_ret (by simp [results, Tryz.results47, go_sem, C]; try rfl) rfl ?_
        rw [HRR.out, if_neg (by simp)]
        refine ⟨_, _, rs, rfl, HRS.out, ?_⟩
        exact HS.less (L' := [.row (.slice s1 F.length d1) 47 2 F.length (F.flatMap frC), Item.many (PsR v1 rs)]) (H.permu (L' := [.blk bD #[.int .i64 dk, .int .i64 df, .int .i64 dt, .int .i64 dp, .int .i64 dg] 24, .row (.slice s1 F.length d1) 47 2 F.length (F.flatMap frC), Item.many (PsR v1 rs)]) (List.Perm.cons _ (List.Perm.swap _ _ _))) (by repeat (first | exact .slnil | refine .cons_cons _ ?_ | refine .cons _ ?_))
  · have heb : (e == 0) = false := beq_eq_false_iff_ne.2 he
    rw [if_pos he]
    go_enter Tryz.func47, Tryz.ntmps47
    have H := HS.start NoD w
    go_upto_region 1 with fail
    generalize hwb : w.alloc _ = w1
    replace H := HS.eqW hwb H.alloc
    try simp only [World.size_alloc, List.nil_append, List.cons_append, List.append_assoc] at H
    clear hwb
    generalize w.heap.size = bD at H ⊢
    try clear C
    have C := H.cells
    try simp only [cellsOf, cellsM, apartOf, apartM, and_true] at C
    go_wp2_with fail
    all_goals
      refine (HR.out _ (H.psUp HPS.out)).mono ?_
      rintro _ w2 ⟨v1, rs, rfl, hrs, K⟩
      clear hrs HR
      replace H := H.join1 K
      clear K
      simp only [List.nil_append, List.cons_append] at H
      skip
      try clear C
      try simp only [World.size_alloc, List.nil_append, List.cons_append, List.append_assoc] at H
      have C := H.cells
      try simp only [cellsOf, cellsM, apartOf, apartM, and_true] at C
      dsimp only
      go_wp2_with fail
      refine bodyPost_ret (by simp [results, Tryz.results47, go_sem, C]; try rfl) rfl ?_
      exact givesFP_nil H e
/-- Frames are given back, one after the other, all but f. -/
def givesP (f : Int) : List Fr → List Int → Int × List Fr
  | F, [] => (0, F)
  | F, n :: l => if n = f then givesP f F l else if (giveP F n).1 ≠ 0 then ((giveP F n).1, []) else givesP f (giveP F n).2 l
def ckillP (F : List Fr) (ps : List Pr) (d : Dd) : Int × List Fr × List Pr :=
  let R := endP ps d.p
  if R.1 ≠ 0 then (R.1, [], []) else
    let G := givesP d.f F R.2.2
    if G.1 ≠ 0 then (G.1, [], []) else if hasB ps d.f d.p (-1) = false then (41, [], []) else (0, G.2, R.2.1)
theorem givesP_at (f : Int) (F : List Fr) {l : List Int} {j : Nat} (h : j < l.length) : givesP f F (l.drop j) = if l[j]! = f then givesP f F (l.drop (j + 1)) else if (giveP F l[j]!).1 ≠ 0 then ((giveP F l[j]!).1, []) else givesP f (giveP F l[j]!).2 (l.drop (j + 1)) := by
  rw [List.drop_eq_getElem_cons h, getElem!_pos l j h]; rfl
theorem giveP_ok {F : List Fr} (hF : FrV F) {n : Int} (h : (giveP F n).1 = 0) : FrV (giveP F n).2 ∧ (giveP F n).2.length = F.length := by
  unfold giveP at h ⊢
  split at h
  · cases h
  · rename_i h1
    rw [if_neg h1]
    split at h
    · cases h
    · rename_i h2
      rw [if_neg h2]
      exact ⟨hF.set _ rfl, List.length_set⟩
set_option maxHeartbeats 8000000 in
theorem ckill_any {F : List Fr} (hF : FrV F) {ps : List Pr} (hg : GoodP F.length ps) (d : Dd) {sa : Option Addr} (c : Nat) {v : Value} (w : World) (hl : Lies w w.heap.size sa 2 F.length (fun j => frC F[j]!)) (hp : Ps w w.heap.size v ps) :
    Calls Tryz.prog 48 #[.slice sa F.length c, v, .agg (ddC d).toArray] w (GivesFP (ckillP F ps d) w) := by
  obtain ⟨dk, df, dt, dp, dg⟩ := d
  have hF2 := hF.high
  have HR := Lib.hid (fun w h => oend_any dp (show (F.length : Int) ≤ 64 by omega) hg (v := v) w h)
  have HH := Lib.hid (fun w h => has_any hg df dp (-1) (v := v) w h)
  have HCL := Lib.hid (fun w hl => cloneFr (sa := sa) c (show F.length ≤ 1000 by omega) (frC_one F) w hl)
  have HL := Lib.hid hl
  have HPS := Lib.hid hp
  have HSH := Lib.hid (show ckillP F ps ⟨dk, df, dt, dp, dg⟩ = if (endP ps dp).1 ≠ 0 then ((endP ps dp).1, [], []) else if (givesP df F (endP ps dp).2.2).1 ≠ 0 then ((givesP df F (endP ps dp).2.2).1, [], []) else if hasB ps df dp (-1) = false then (41, [], []) else (0, (givesP df F (endP ps dp).2.2).2, (endP ps dp).2.1) from rfl)
  rw [HSH.out]
  generalize endP ps dp = R at HR ⊢
  generalize hasB ps df dp (-1) = hb at HH ⊢
  have HFV := Lib.hid hF
  clear HSH hl hp hg hF
  obtain ⟨e, out, gone⟩ := R
  dsimp only
  show Calls Tryz.prog 48 #[.slice sa F.length c, v, .agg #[.int .i64 dk, .int .i64 df, .int .i64 dt, .int .i64 dp, .int .i64 dg]] w _
  by_cases he : e = 0
  · subst he
    rw [if_neg (by simp)]
    obtain ⟨G, hG⟩ : ∃ G, G = givesP df F gone := ⟨_, rfl⟩
    rw [← hG]
    have HG := Lib.hid hG
    clear hG
    obtain ⟨RR, hRR⟩ : ∃ RR, RR = (if G.1 ≠ 0 then (G.1, [], []) else if hb = false then (41, [], []) else (0, G.2, out) : Int × List Fr × List Pr) := ⟨_, rfl⟩
    rw [← hRR]
    have HRR := Lib.hid hRR
    clear hRR
    go_enter Tryz.func48, Tryz.ntmps48
    have H := HS.start NoD w
    go_upto_region 1 with fail
    generalize hwb : w.alloc _ = w1
    replace H := HS.eqW hwb H.alloc
    try simp only [World.size_alloc, List.nil_append, List.cons_append, List.append_assoc] at H
    clear hwb
    generalize w.heap.size = bD at H ⊢
    try clear C
    have C := H.cells
    try simp only [cellsOf, cellsM, apartOf, apartM, and_true] at C
    go_wp2_with fail
    refine (HR.out _ (H.psUp HPS.out)).mono ?_
    rintro _ w2 ⟨v1, rs, s4, d4, rfl, hrs, K⟩
    have HRS := Lib.hid hrs
    clear hrs HR
    replace H := H.join K (fun A hA => by simp only [List.mem_cons, List.mem_nil_iff, or_false] at hA; rcases hA with rfl | rfl <;> rfl)
    clear K
    simp only [List.nil_append, List.cons_append] at H
    have hgm := ownsRow_mx (H.at 2 rfl)
    unfold maxLen at hgm
    skip
    try clear C
    try simp only [World.size_alloc, List.nil_append, List.cons_append, List.append_assoc] at H
    have C := H.cells
    try simp only [cellsOf, cellsM, apartOf, apartM, and_true] at C
    dsimp only at H ⊢ hgm
    go_wp2_with fail
    refine (HCL.out _ (H.liesUp HL.out)).mono ?_
    rintro _ w2 ⟨s1, d1, rfl, hr, hb⟩
    replace H := (H).getsRow hb hr
    clear hb hr
    try clear C
    try simp only [World.size_alloc, List.nil_append, List.cons_append, List.append_assoc] at H
    try clear w2
    have C := H.cells
    try simp only [cellsOf, cellsM, apartOf, apartM, and_true] at C
    dsimp only
    clear HCL
    go_wp2_with fail
    go_loopw [12, 30] (fun u i wr => ∃ (j : Nat) (F2 : List Fr), i = .int .i64 j ∧ j ≤ gone.length ∧ F2.length = F.length ∧ Hid (FrV F2) ∧ Hid (G = givesP df F2 (gone.drop j)) ∧ HS NoD w [.blk bD #[.int .i64 dk, .int .i64 df, .int .i64 dt, .int .i64 dp, .int .i64 dg] 24, Item.many (PsR v1 rs), .row (.slice s4 gone.length d4) 3 1 gone.length (gone.flatMap iC), .row u 47 2 F2.length (F2.flatMap frC)] wr) (fun _ i _ => gone.length - (intOf i).toNat)
    case atStart => exact ⟨0, F, rfl, Nat.zero_le _, rfl, HFV, HG, H⟩
    case round =>
      clear H C HFV HG
      obtain ⟨j, F2, rfl, hj, hfl, HF, HG, H⟩ := hrel
      skip
      try clear C
      try simp only [World.size_alloc, List.nil_append, List.cons_append, List.append_assoc] at H
      have C := H.cells
      try simp only [cellsOf, cellsM, apartOf, apartM, and_true] at C
      obtain ⟨s2, d2, hu⟩ := ownsRow_slice (H.at 3 rfl)
      subst hu
      have HFL := Lib.hid hfl
      clear hfl
      by_cases hlt : j < gone.length
      · obtain ⟨b, o, hso, hb2, hc⟩ := (H.rowLies 2 iC_len rfl rfl).at hlt
        subst hso
        have HSU := Lib.hid (givesP_at df F2 hlt)
        obtain ⟨n, hn⟩ : ∃ n, n = gone[j]! := ⟨_, rfl⟩
        rw [← hn] at HSU
        have c0 : wr.cell? ⟨b, o + j, none⟩ = some (.int .i64 n) := by have := hc 0 (.int .i64 n) (by rw [hn]; rfl); simpa using this
        clear hc hn
        by_cases hnf : n = df
        · subst hnf
          go_wp2_with fail
          go_roundw
          case rel => exact ⟨j + 1, F2, by go_num, by omega, HFL.out, HF, Lib.hid (by rw [HG.out, HSU.out, if_pos rfl]), H⟩
          case measure => simp [intOf]; omega
        · have hnb : (n == df) = false := beq_eq_false_iff_ne.2 hnf
          have HGI := Lib.hid (fun w hl => fgive_any HF.out n (sa := s2) d2 w hl)
          have HOK := Lib.hid (giveP_ok HF.out (n := n))
          generalize giveP F2 n = Q at HGI HOK HSU
          obtain ⟨eg, F3⟩ := Q
          dsimp only at HOK HSU
          go_wp2_with fail
          clear c0
          refine (HGI.out _ (H.rowLies 3 frC_len rfl rfl)).mono ?_
          rintro _ w3 ⟨s3, d3, rfl, hr, hb⟩
          replace H := (H).getsRow hb hr
          clear hb hr
          try clear C
          try simp only [World.size_alloc, List.nil_append, List.cons_append, List.append_assoc] at H
          try clear wr
          have C := H.cells
          try simp only [cellsOf, cellsM, apartOf, apartM, and_true] at C
          dsimp only
          clear HGI
          try dsimp only at H
          by_cases heg : eg = 0
          · subst heg
            go_wp2_with fail
            go_roundw
            case rel =>
              refine ⟨j + 1, F3, by go_num, by omega, (HOK.out rfl).2.trans HFL.out, Lib.hid (HOK.out rfl).1, Lib.hid (by rw [HG.out, HSU.out, if_neg hnf, if_neg (by simp)]), H.less (by repeat (first | exact .slnil | refine .cons_cons _ ?_ | refine .cons _ ?_))⟩
            case measure => simp [intOf]; omega
          · have hegb : (eg == 0) = false := beq_eq_false_iff_ne.2 heg
            go_wp2_with fail
            refine bodyPost_ret (by simp [results, Tryz.results48, go_sem, C]; try rfl) rfl ?_
            rw [HRR.out, HG.out, HSU.out, if_neg hnf, if_pos heg, if_pos heg]
            exact givesFP_nil H eg
      · have hje : gone.drop j = [] := List.drop_eq_nil_of_le (by omega)
        have HGE := Lib.hid (show G = (0, F2) by rw [HG.out, hje]; rfl)
        clear hje
        go_wp2_with fail
        refine (HH.out _ (H.psUp HPS.out)).mono ?_
        rintro _ w4 ⟨rfl, hb⟩
        replace H := H.below hb
        clear hb
        try clear C
        try simp only [World.size_alloc, List.nil_append, List.cons_append, List.append_assoc] at H
        try clear w3
        have C := H.cells
        try simp only [cellsOf, cellsM, apartOf, apartM, and_true] at C
        dsimp only
        clear HH
        cases hb with
        | false =>
          go_wp2_with fail
          refine bodyPost_ret (by simp [results, Tryz.results48, go_sem, C]; try rfl) rfl ?_
          rw [HRR.out, HGE.out, if_neg (by simp), if_pos (by first | trivial | rfl)]
          exact givesFP_nil H 41
        | true =>
          go_wp2_with fail
          refine bodyPost_ret (by simp [results, Tryz.results48, go_sem, C]; try rfl) rfl ?_
          rw [HRR.out, HGE.out, if_neg (by simp), if_neg (by simp)]
          refine ⟨_, _, rs, rfl, HRS.out, ?_⟩
          have H9 := HS.less (L' := [Item.many (PsR v1 rs), .row (.slice s2 F2.length d2) 47 2 F2.length (F2.flatMap frC)]) H (by repeat (first | exact .slnil | refine .cons_cons _ ?_ | refine .cons _ ?_))
          exact H9.permu (List.Perm.swap _ _ _)
  · have heb : (e == 0) = false := beq_eq_false_iff_ne.2 he
    rw [if_pos he]
    go_enter Tryz.func48, Tryz.ntmps48
    have H := HS.start NoD w
    go_upto_region 1 with fail
    generalize hwb : w.alloc _ = w1
    replace H := HS.eqW hwb H.alloc
    try simp only [World.size_alloc, List.nil_append, List.cons_append, List.append_assoc] at H
    clear hwb
    generalize w.heap.size = bD at H ⊢
    try clear C
    have C := H.cells
    try simp only [cellsOf, cellsM, apartOf, apartM, and_true] at C
    go_wp2_with fail
    refine (HR.out _ (H.psUp HPS.out)).mono ?_
    rintro _ w2 ⟨v1, rs, s4, d4, rfl, hrs, K⟩
    clear hrs HR
    replace H := H.join K (fun A hA => by simp only [List.mem_cons, List.mem_nil_iff, or_false] at hA; rcases hA with rfl | rfl <;> rfl)
    clear K
    simp only [List.nil_append, List.cons_append] at H
    skip
    try clear C
    try simp only [World.size_alloc, List.nil_append, List.cons_append, List.append_assoc] at H
    have C := H.cells
    try simp only [cellsOf, cellsM, apartOf, apartM, and_true] at C
    dsimp only
    go_wp2_with fail
    refine bodyPost_ret (by simp [results, Tryz.results48, go_sem, C]; try rfl) rfl ?_
    exact givesFP_nil H e
end Go.Proofs.YtedbpmckgiifpaaGreat
