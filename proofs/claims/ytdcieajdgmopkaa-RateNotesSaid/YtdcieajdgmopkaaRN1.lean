/- Package rate: Note, whatever the gauges: the errors, and what it gives otherwise. -/
import Derived.Test.YtdcieajdgmopkaaNote
namespace Go.Proofs.Ytdcieajdgmopkaa
set_option linter.unusedSimpArgs false
set_option linter.unusedVariables false
open Go.RowKit
set_option maxRecDepth 100000
attribute [local go_sem] lt_more ne_more ne_more'
attribute [local irreducible] wpX wpF Calls

/-- The error of Note, 0 for none. -/
def noteErr (P L part T n : Int) (xs : List G3) : Int :=
  if rvB P L xs = false then 1
  else if ¬ (0 ≤ part ∧ (0 ≤ T ∧ T ≤ 1099511627776) ∧ (1 ≤ n ∧ n ≤ 1048576)) then 2
  else if (xs.any fun x => decide (T < x.t)) = true then 46
  else if 64 ≤ (leakL P T xs).length ∧ ¬ ∃ x ∈ leakL P T xs, x.p = part then 16
  else 0
def zG : Value := vG 0 0 (.slice none 0 0)
/-- What Note hands back. -/
def NoteP (P L part T n : Int) (xs : List G3) (w : World) (e : Ending) (w' : World) : Prop :=
  (noteErr P L part T n xs ≠ 0 ∧ Gives (.tuple #[zG, .bool false, .int .i64 (noteErr P L part T n xs)]) w e w') ∨ (noteErr P L part T n xs = 0 ∧ NotePA P L part T n xs w e w')
theorem NoteA.uniq {part T n : Int} {ys zs zs' : List G3} {lv lv' : Int} (hs : ys.Pairwise fun x y => x.p < y.p) (h : NoteA part T n ys zs lv) (h' : NoteA part T n ys zs' lv') : zs = zs' ∧ lv = lv' := by
  have hlt : ∀ i j, i < j → j < ys.length → ys[i]!.p < ys[j]!.p := fun i j hij hj => by
    have := List.pairwise_iff_getElem.1 hs i j (by omega) hj hij
    rw [getElem!_pos ys i (by omega), getElem!_pos ys j hj]; exact this
  cases h with
  | found i h1 h2 h3 =>
    cases h' with
    | found j k1 k2 k3 =>
      have : i = j := by
        rcases Nat.lt_trichotomy i j with h | h | h
        · have := hlt i j h k1; omega
        · exact h
        · have := hlt j i h h1; omega
      subst this
      exact ⟨rfl, rfl⟩
    | fresh j k1 k2 k3 k4 =>
      exfalso
      by_cases h : i < j
      · have := k2 i h; omega
      · have := k3 i (by omega) h1; omega
  | fresh i h1 h2 h3 h4 =>
    cases h' with
    | found j k1 k2 k3 =>
      exfalso
      by_cases h : j < i
      · have := h2 j h; omega
      · have := h3 j (by omega) k1; omega
    | fresh j k1 k2 k3 k4 =>
      have : i = j := by
        rcases Nat.lt_trichotomy i j with h | h | h
        · have := k2 i h; have := h3 i (Nat.le_refl _) (by omega); omega
        · exact h
        · have := h2 j h; have := k3 j (Nat.le_refl _) (by omega); omega
      subst this
      exact ⟨rfl, rfl⟩
set_option maxHeartbeats 4000000 in
theorem note_all2 {P L part T n : Int} {sa : Option Addr} (c : Nat) {xs : List G3} (hv : rvB P L xs = true) (hpart : 0 ≤ part) (hT : 0 ≤ T ∧ T ≤ 1099511627776) (hn : 1 ≤ n ∧ n ≤ 1048576) (hall : ∀ x ∈ xs, x.t ≤ T)
    (hends : (leakL P T xs).length < 64 ∨ ∃ x ∈ leakL P T xs, x.p = part) (w : World) (hl : Lies w w.heap.size sa 3 xs.length (fun j => gC xs[j]!)) :
    Calls Try.prog 9 #[vG P L (.slice sa xs.length c), .int .i64 part, .int .i64 T, .int .i64 n] w (NotePA P L part T n xs w) := by
  have hv0 := hv
  unfold rvB at hv0
  simp only [Bool.and_eq_true, decide_eq_true_eq] at hv0
  obtain ⟨hok, ⟨⟨hP, hL⟩, hlen⟩⟩ := hv0
  obtain ⟨hsx, hpw⟩ := sorted_of hok
  have hgok : GOK P T xs := ⟨hP.1, hP.2, hT.1, hT.2, by omega, fun x hx => (hsx x hx).2⟩
  have HV := Lib.hid (fun w hl => by have := rvalid_any P L c (xs := xs) (sa := sa) (by omega) w hl; rw [hv] at this; exact this : ∀ w, Lies w w.heap.size sa 3 xs.length (fun j => gC xs[j]!) → Calls Try.prog 12 #[vG P L (.slice sa xs.length c)] w (Gives (.bool true) w))
  have HLK := Lib.hid (fun w (hl : Lies w w.heap.size sa 3 xs.length (fun j => gC xs[j]!)) => leak_ok L c hgok w hl)
  have HW := Lib.hid (fun (a lo hi : Int) (h : lo ≤ a ∧ a ≤ hi) w => by have := within_any a lo hi w; rw [decide_eq_true h] at this; exact this : ∀ (a lo hi : Int), lo ≤ a ∧ a ≤ hi → ∀ w, Calls Try.prog 16 #[.int .i64 a, .int .i64 lo, .int .i64 hi] w (Gives (.bool true) w))
  have hfalse : xs.any (fun x => decide (T < x.t)) = false := by
    rw [List.any_eq_false]; intro x hx; have := hall x hx; simp; omega
  have HL := Lib.hid hl
  have HF := Lib.hid hfalse
  clear hl hv hfalse
  go_enter Try.func9, Try.ntmps9
  have H := HS.start NoD w
  go_wp2_with fail
  refine (HV.out _ (H.alloc.alloc.alloc.liesUp HL.out)).mono ?_
  rintro _ w1 ⟨rfl, hb⟩
  replace H := H.alloc.alloc.alloc.below hb
  clear hb
  try clear C
  try simp only [World.size_alloc, List.nil_append, List.cons_append, List.append_assoc] at H
  generalize w.heap.size + 2 = bR at H ⊢
  generalize w.heap.size + 1 = bT at H ⊢
  generalize w.heap.size = bG at H ⊢
  have C := H.cells
  try simp only [cellsOf, apartOf, and_true] at C
  dsimp only
  go_wp2_with fail
  refine (HW.out _ _ _ hT _).mono ?_
  rintro _ w2 ⟨rfl, hb⟩
  replace H := H.below hb
  clear hb
  try clear C
  try simp only [World.size_alloc, List.nil_append, List.cons_append, List.append_assoc] at H
  try clear w1
  have C := H.cells
  try simp only [cellsOf, apartOf, and_true] at C
  dsimp only
  go_wp2_with fail
  refine (HW.out _ _ _ hn _).mono ?_
  rintro _ w3 ⟨rfl, hb⟩
  replace H := H.below hb
  clear hb
  try clear C
  try simp only [World.size_alloc, List.nil_append, List.cons_append, List.append_assoc] at H
  try clear w2
  have C := H.cells
  try simp only [cellsOf, apartOf, and_true] at C
  dsimp only
  go_wp2_with fail
  have hcc : ∀ w, HS NoD w [] w → True := fun _ _ => trivial
  clear hcc
  have hct : w3.cell? ⟨bT, 0, none⟩ = some (.int .i64 T) := by have := (H.at 1 rfl : Blk _ _ _ _).cell 0; simpa using this
  have hlt : bT < w3.heap.size := Blk.lt (H.at 1 rfl)
  have hcon := containsG 18 (fun _ _ => rfl) #[.pointer (some ⟨bT, 0, none⟩)] (fun x => decide (T < x.t)) c (by omega) w3 (H.liesUp HL.out) (fun W x hb => note1_any x T bT W ((hb.cell (p := ⟨bT, 0, none⟩) hlt).trans hct) (Nat.lt_of_lt_of_le hlt hb.size))
  rw [HF.out] at hcon
  clear hct hlt
  refine (hcon).mono ?_
  rintro _ w4 ⟨rfl, hb⟩
  replace H := H.below hb
  clear hb
  try clear C
  try simp only [World.size_alloc, List.nil_append, List.cons_append, List.append_assoc] at H
  try clear w3
  have C := H.cells
  try simp only [cellsOf, apartOf, and_true] at C
  dsimp only
  go_wp2_with fail
  refine (HLK.out _ (H.liesUp HL.out)).mono ?_
  rintro _ w5 ⟨sb, d, rfl, hr, hb⟩
  replace H := (H).getsRow hb hr
  clear hb hr
  try clear C
  try simp only [World.size_alloc, List.nil_append, List.cons_append, List.append_assoc] at H
  try clear w4
  have C := H.cells
  try simp only [cellsOf, apartOf, and_true] at C
  dsimp only
  have hys := (sorted_leak (P := P) (T := T) hpw)
  have hbd := Lib.hid (fun y hy => leak_in (y := y) hgok hy)
  generalize hye : leakL P T xs = ys at *
  have HYE := Lib.hid hye
  clear hye
  have HYS := Lib.hid hys
  have HYL := Lib.hid hends
  have hyl64 : ys.length ≤ 64 := by rw [← HYE.out]; exact Nat.le_trans (leakL_len _ _ _) hlen
  clear hys hends hcon
  go_upto_region 8 with fail
  generalize hwb : w5.alloc _ = w6
  replace H := HS.eqW hwb H.alloc
  try simp only [World.size_alloc, List.nil_append, List.cons_append, List.append_assoc] at H
  clear hwb
  generalize w5.heap.size = bO at H ⊢
  try clear C
  try clear w5
  have C := H.cells
  try simp only [cellsOf, apartOf, and_true] at C
  go_wp2_with fail
  refine (bsearch_any part d (by omega) HYS.out _ (H.rowLies 3 gC_len rfl rfl)).mono ?_
  rintro _ w7 ⟨i, hi, hlo, hhi, rfl, hb⟩
  replace H := H.below hb
  clear hb
  try clear C
  try simp only [World.size_alloc, List.nil_append, List.cons_append, List.append_assoc] at H
  try clear w6
  have C := H.cells
  try simp only [cellsOf, apartOf, and_true] at C
  dsimp only
  have HLO := Lib.hid hlo
  have HHI := Lib.hid hhi
  clear hlo hhi
  by_cases hfd : i < ys.length ∧ ys[i]!.p = part
  · rw [decide_eq_true hfd]
    have HFD := Lib.hid hfd
    clear hfd
    go_upto_region 11 with fail
    have hi' := HFD.out.1
    have HFP := Lib.hid HFD.out.2
    clear HFD
    obtain ⟨g, rfl, hg, hnd⟩ := ownsRow_ptr (H.at 3 rfl) (by omega)
    obtain ⟨b', o', hbo, hb', hc⟩ := (H.rowLies 3 gC_len rfl rfl).at hi'
    simp only [Option.some.injEq, Addr.mk.injEq, and_true] at hbo
    obtain ⟨rfl, rfl⟩ := hbo
    have hfz := World.ownsRow.frozenAt (H.at 3 rfl) (i * 3 + 1)
    have hxo := HYS.out
    obtain ⟨x, hxi⟩ : ∃ x, x = ys[i]! := ⟨_, rfl⟩
    rw [← hxi] at hc HFP
    have c0 : w7.cell? ⟨g, i * 3, none⟩ = some (.int .i64 x.p) := by simpa using hc 0 _ rfl
    have c1 : w7.cell? ⟨g, i * 3 + 1, none⟩ = some (.int .i64 x.l) := by simpa using hc 1 _ rfl
    have c2 : w7.cell? ⟨g, i * 3 + 2, none⟩ = some (.int .i64 x.t) := by simpa using hc 2 _ rfl
    have HXI := Lib.hid hxi
    have hb3 := hbd.out ys[i]! (by rw [getElem!_pos ys i hi']; exact List.getElem_mem _)
    rw [← hxi] at hb3
    have q1 : wrap64 (x.l + n) = x.l + n := IntWalk.wrap64_in _ (by omega)
    obtain ⟨lv, hlv⟩ : ∃ lv, lv = min (x.l + n) 1048576 := ⟨_, rfl⟩
    have q2 : (if 1048576 < x.l + n then 1048576 else x.l + n) = lv := by rw [hlv]; omega
    have q3 : min (x.l + n) 1048576 = lv := hlv.symm
    have HLV := Lib.hid hlv
    clear hc hxi hxo hlv
    go_region
    try simp only [q1, q2, q3]
    generalize hwb : (World.setCell _ _ _).drew = w8
    have H8 := HS.eqW hwb (H.rowSet 3 rfl (i * 3 + 1) (.int .i64 lv)).drew
    clear H C c0 c1 c2 hwb q1 q2 q3 hfz
    have H := H8
    clear H8
    rw [← flat_set gC_len ys i 1 ⟨part, lv, x.t⟩ (.int .i64 lv) hi' (by decide) (by rw [← HXI.out]; simp [gC, HFP.out])] at H
    simp only [List.nil_append, List.cons_append, List.append_assoc, List.set_cons_succ, List.set_cons_zero] at H
    have hlen2 : (ys.set i ⟨part, lv, x.t⟩).length = ys.length := List.length_set
    obtain ⟨zs, hzs⟩ : ∃ zs, zs = ys.set i ⟨part, lv, x.t⟩ := ⟨_, rfl⟩
    rw [← hzs] at H hlen2
    have hzi : zs[i]! = ⟨part, lv, x.t⟩ := by rw [hzs, getElem!_pos _ i (by rw [List.length_set]; exact hi'), List.getElem_set_self]
    have HR : NoteA part T n ys zs lv := by
      rw [hzs, HLV.out, HXI.out]
      exact .found ys i hi' (by rw [← HXI.out]; exact HFP.out) HYS.out
    have HNR := Lib.hid HR
    clear HR hzs
    rw [← hlen2] at H
    have HLN := Lib.hid hlen2
    obtain ⟨b', o', hbo, hb', hc⟩ := (H.rowLies 3 gC_len rfl rfl).at (show i < zs.length by omega)
    rw [hzi] at hc
    simp only [Option.some.injEq, Addr.mk.injEq, and_true] at hbo
    obtain ⟨rfl, rfl⟩ := hbo
    have c1 : w8.cell? ⟨g, i * 3 + 1, none⟩ = some (.int .i64 lv) := by simpa using hc 1 _ rfl
    clear hc hzi hlen2
    skip
    try clear C
    try simp only [World.size_alloc, List.nil_append, List.cons_append, List.append_assoc] at H
    have C := H.cells
    try simp only [cellsOf, apartOf, and_true] at C
    have e1 : (i : Int) < zs.length := by have := HLN.out; omega
    obtain ⟨n1, n2⟩ := H.rowApart 3 2 rfl rfl (by decide)
    obtain ⟨n3, n4⟩ := H.rowApart 3 4 rfl rfl (by decide)
    go_upto_region 14 with fail
    go_region
    generalize hwb : (World.setCell _ _ _).drew = w9
    have H9 := HS.eqW hwb (H.putAll (i := 2) rfl (vs := [.int .i64 P, .int .i64 L, .slice (some ⟨g, 0, none⟩) zs.length d]) rfl rfl).drew
    clear H C c1 hwb n1 n2 n3 n4
    have H := H9
    clear H9
    simp only [List.nil_append, List.cons_append, List.append_assoc, List.set_cons_succ, List.set_cons_zero] at H
    skip
    try clear C
    try simp only [World.size_alloc, List.nil_append, List.cons_append, List.append_assoc] at H
    have C := H.cells
    try simp only [cellsOf, apartOf, and_true] at C
    go_wp2_with fail
    refine bodyPost_ret (by simp [results, Try.results9, go_sem, C]; try rfl) rfl ?_
    exact ⟨zs, lv, by rw [HYE.out]; exact HNR.out, H.givesS 3 (mk := fun v => .tuple #[vG P L v, .bool (decide (L ≤ lv)), .int .i64 0]) rfl⟩
  · rw [decide_eq_false hfd]
    have HGT : Hid (∀ k, i ≤ k → k < ys.length → part < ys[k]!.p) := fun k h1 h2 => by
      have h3 := HHI.out k h1 h2
      by_cases e : k = i
      · subst e
        have : ys[k]!.p ≠ part := fun e => hfd ⟨h2, e⟩
        omega
      · have h4 := List.pairwise_iff_getElem.1 HYS.out i k (by omega) h2 (by omega)
        have h5 := HHI.out i (Nat.le_refl _) (by omega)
        rw [getElem!_pos ys k h2]
        rw [getElem!_pos ys i (by omega)] at h5
        omega
    have hyl2 : ys.length < 64 := by
      rcases HYL.out with h | ⟨x, hx, hp⟩
      · exact h
      · exfalso
        obtain ⟨m, hm, he⟩ := List.mem_iff_getElem.1 hx
        have hm' : ys[m]! = x := by rw [getElem!_pos ys m hm, he]
        by_cases hmi : m < i
        · have := HLO.out m hmi; rw [hm'] at this; omega
        · have := HGT.out m (by omega) hm; rw [hm'] at this; omega
    clear hfd
    skip
    go_wp2_with fail
    refine (insert_any (cs := ys.flatMap gC) (x := ⟨part, n, T⟩) hi (by omega) (fun g e => ?hne) (gC_one ys) _ (H.alloc.at 3 rfl) (H.alloc.at 5 rfl)).mono ?_
    case hne =>
      subst e
      have hgl := (World.ownsRow.lt (H.at 3 rfl) g rfl).2
      omega
    rintro _ w9 ⟨g, cap, rfl, h2, h3, h4⟩
    replace H := H.alloc.grewAt 3 rfl h2 h3 h4
    clear h2 h3 h4
    simp only [List.nil_append, List.cons_append, List.append_assoc, List.set_cons_succ, List.set_cons_zero] at H
    skip
    try clear C
    try simp only [World.size_alloc, List.nil_append, List.cons_append, List.append_assoc] at H
    have C := H.cells
    try simp only [cellsOf, apartOf, and_true] at C
    have hzz : (ys.flatMap gC).take (i * 3) ++ (gC (⟨part, n, T⟩ : G3) ++ (ys.flatMap gC).drop (i * 3)) = (ys.take i ++ ((⟨part, n, T⟩ : G3) :: ys.drop i)).flatMap gC := by
      rw [flat_take gC_len, flat_drop gC_len, List.flatMap_append, List.flatMap_cons]
    rw [hzz] at H
    have HR : NoteA part T n ys (ys.take i ++ ((⟨part, n, T⟩ : G3) :: ys.drop i)) n := .fresh ys i hi HLO.out HGT.out hyl2
    have hzl : (ys.take i ++ ((⟨part, n, T⟩ : G3) :: ys.drop i)).length = ys.length + 1 := by rw [List.length_append, List.length_cons, List.length_take, List.length_drop]; omega
    have hzi : (ys.take i ++ ((⟨part, n, T⟩ : G3) :: ys.drop i))[i]! = ⟨part, n, T⟩ := by
      have h0 : (ys.take i).length = i := by rw [List.length_take]; omega
      rw [getElem!_pos _ _ (by rw [hzl]; omega), List.getElem_append_right (by omega)]
      simp [h0]
    obtain ⟨zs, hzs⟩ : ∃ zs, zs = (ys.take i ++ ((⟨part, n, T⟩ : G3) :: ys.drop i)) := ⟨_, rfl⟩
    rw [← hzs] at H HR hzl hzi
    have HNR := Lib.hid HR
    rw [← hzl] at H
    have HZL := Lib.hid hzl
    have HZI := Lib.hid hzi
    clear HR hzs hzz hzi
    rw [← hzl]
    clear hzl
    go_upto_region 14 with fail
    generalize hwb : World.setCell _ _ _ = wa
    have H9 := HS.eqW hwb (H.setTo (o := 2) (v := .slice (some ⟨g, 0, none⟩) zs.length cap) 4 rfl rfl)
    clear H C hwb
    have H := H9
    clear H9
    simp only [List.nil_append, List.cons_append, List.append_assoc, List.set_cons_succ, List.set_cons_zero] at H
    skip
    try clear C
    try simp only [World.size_alloc, List.nil_append, List.cons_append, List.append_assoc] at H
    have C := H.cells
    try simp only [cellsOf, apartOf, and_true] at C
    obtain ⟨b', o', hbo, hb', hc⟩ := (H.rowLies 3 gC_len rfl rfl).at (show i < zs.length by have := HZL.out; omega)
    rw [HZI.out] at hc
    simp only [Option.some.injEq, Addr.mk.injEq, and_true] at hbo
    obtain ⟨rfl, rfl⟩ := hbo
    have c1 : wa.cell? ⟨g, i * 3 + 1, none⟩ = some (.int .i64 n) := by simpa using hc 1 _ rfl
    have e1 : (i : Int) < zs.length := by have := HZL.out; omega
    obtain ⟨n1, n2⟩ := H.rowApart 3 2 rfl rfl (by decide)
    obtain ⟨n3, n4⟩ := H.rowApart 3 4 rfl rfl (by decide)
    clear hc
    go_region
    generalize hwb : (World.setCell _ _ _).drew = wb
    have H9 := HS.eqW hwb (H.putAll (i := 2) rfl (vs := [.int .i64 P, .int .i64 L, .slice (some ⟨g, 0, none⟩) zs.length cap]) rfl rfl).drew
    clear H C c1 hwb n1 n2 n3 n4
    have H := H9
    clear H9
    simp only [List.nil_append, List.cons_append, List.append_assoc, List.set_cons_succ, List.set_cons_zero] at H
    skip
    try clear C
    try simp only [World.size_alloc, List.nil_append, List.cons_append, List.append_assoc] at H
    have C := H.cells
    try simp only [cellsOf, apartOf, and_true] at C
    go_wp2_with fail
    refine bodyPost_ret (by simp [results, Try.results9, go_sem, C]; try rfl) rfl ?_
    exact ⟨zs, n, by rw [HYE.out]; exact HNR.out, H.givesS 3 (mk := fun v => .tuple #[vG P L v, .bool (decide (L ≤ n)), .int .i64 0]) rfl⟩

theorem note_inv {P L part T n : Int} {sa : Option Addr} (c : Nat) {xs : List G3} (hx : xs.length ≤ 1000) (hv : rvB P L xs = false) (w : World) (hl : Lies w w.heap.size sa 3 xs.length (fun j => gC xs[j]!)) :
    Calls Try.prog 9 #[vG P L (.slice sa xs.length c), .int .i64 part, .int .i64 T, .int .i64 n] w (Gives (.tuple #[zG, .bool false, .int .i64 1]) w) := by
  have HV := Lib.hid (fun w hl => by have := rvalid_any P L c (xs := xs) (sa := sa) (by omega) w hl; rw [hv] at this; exact this : ∀ w, Lies w w.heap.size sa 3 xs.length (fun j => gC xs[j]!) → Calls Try.prog 12 #[vG P L (.slice sa xs.length c)] w (Gives (.bool false) w))
  have HL := Lib.hid hl
  clear hl hv
  go_enter Try.func9, Try.ntmps9
  have H := HS.start NoD w
  go_wp2_with fail
  refine (HV.out _ (H.alloc.alloc.alloc.liesUp HL.out)).mono ?_
  rintro _ w1 ⟨rfl, hb⟩
  replace H := H.alloc.alloc.alloc.below hb
  clear hb
  try clear C
  try simp only [World.size_alloc, List.nil_append, List.cons_append, List.append_assoc] at H
  generalize w.heap.size + 2 = bR at H ⊢
  generalize w.heap.size + 1 = bT at H ⊢
  generalize w.heap.size = bG at H ⊢
  have C := H.cells
  try simp only [cellsOf, apartOf, and_true] at C
  dsimp only
  go_wp2_with fail
  generalize hwb : ((w1.setCell _ _).setCell _ _).setCell _ _ = w2
  replace H := HS.eqW hwb (H.putAll (i := 2) rfl (vs := [.int .i64 0, .int .i64 0, .slice none 0 0]) rfl rfl)
  simp only [List.nil_append, List.cons_append, List.append_assoc, List.set_cons_succ, List.set_cons_zero] at H
  clear hwb
  try clear C
  try clear w1
  have C := H.cells
  try simp only [cellsOf, apartOf, and_true] at C
  refine bodyPost_ret (by simp [results, Try.results9, go_sem, C]; try rfl) rfl ?_
  exact ⟨rfl, H.done⟩
theorem note_range {P L part T n : Int} {sa : Option Addr} (c : Nat) {xs : List G3} (hx : xs.length ≤ 1000) (hv : rvB P L xs = true) (hr : ¬ (0 ≤ part ∧ (0 ≤ T ∧ T ≤ 1099511627776) ∧ (1 ≤ n ∧ n ≤ 1048576))) (w : World) (hl : Lies w w.heap.size sa 3 xs.length (fun j => gC xs[j]!)) :
    Calls Try.prog 9 #[vG P L (.slice sa xs.length c), .int .i64 part, .int .i64 T, .int .i64 n] w (Gives (.tuple #[zG, .bool false, .int .i64 2]) w) := by
  have HV := Lib.hid (fun w hl => by have := rvalid_any P L c (xs := xs) (sa := sa) (by omega) w hl; rw [hv] at this; exact this : ∀ w, Lies w w.heap.size sa 3 xs.length (fun j => gC xs[j]!) → Calls Try.prog 12 #[vG P L (.slice sa xs.length c)] w (Gives (.bool true) w))
  have HL := Lib.hid hl
  have HW1 := Lib.hid (fun w => within_any T 0 1099511627776 w)
  have HW2 := Lib.hid (fun w => within_any n 1 1048576 w)
  clear hl hv
  by_cases h1 : part < 0
  · clear hr
    go_enter Try.func9, Try.ntmps9
    have H := HS.start NoD w
    go_wp2_with fail
    refine (HV.out _ (H.alloc.alloc.alloc.liesUp HL.out)).mono ?_
    rintro _ w1 ⟨rfl, hb⟩
    replace H := H.alloc.alloc.alloc.below hb
    clear hb
    try clear C
    try simp only [World.size_alloc, List.nil_append, List.cons_append, List.append_assoc] at H
    generalize w.heap.size + 2 = bR at H ⊢
    generalize w.heap.size + 1 = bT at H ⊢
    generalize w.heap.size = bG at H ⊢
    have C := H.cells
    try simp only [cellsOf, apartOf, and_true] at C
    dsimp only
    go_wp2_with fail
    generalize hwb : ((w1.setCell _ _).setCell _ _).setCell _ _ = w2
    replace H := HS.eqW hwb (H.putAll (i := 2) rfl (vs := [.int .i64 0, .int .i64 0, .slice none 0 0]) rfl rfl)
    simp only [List.nil_append, List.cons_append, List.append_assoc, List.set_cons_succ, List.set_cons_zero] at H
    clear hwb
    try clear C
    try clear w1
    have C := H.cells
    try simp only [cellsOf, apartOf, and_true] at C
    refine bodyPost_ret (by simp [results, Try.results9, go_sem, C]; try rfl) rfl ?_
    exact ⟨rfl, H.done⟩
  · by_cases h2 : 0 ≤ T ∧ T ≤ 1099511627776
    · have h3 : ¬ (1 ≤ n ∧ n ≤ 1048576) := fun h => hr ⟨by omega, h2, h⟩
      have hw1 := HW1.out
      have hw2 := HW2.out
      rw [decide_eq_true h2] at hw1
      rw [decide_eq_false h3] at hw2
      have HX1 := Lib.hid hw1
      have HX2 := Lib.hid hw2
      clear hw1 hw2 hr h2 h3
      go_enter Try.func9, Try.ntmps9
      have H := HS.start NoD w
      go_wp2_with fail
      refine (HV.out _ (H.alloc.alloc.alloc.liesUp HL.out)).mono ?_
      rintro _ w1 ⟨rfl, hb⟩
      replace H := H.alloc.alloc.alloc.below hb
      clear hb
      try clear C
      try simp only [World.size_alloc, List.nil_append, List.cons_append, List.append_assoc] at H
      generalize w.heap.size + 2 = bR at H ⊢
      generalize w.heap.size + 1 = bT at H ⊢
      generalize w.heap.size = bG at H ⊢
      have C := H.cells
      try simp only [cellsOf, apartOf, and_true] at C
      dsimp only
      go_wp2_with fail
      refine (HX1.out _).mono ?_
      rintro _ w2 ⟨rfl, hb⟩
      replace H := H.below hb
      clear hb
      try clear C
      try simp only [World.size_alloc, List.nil_append, List.cons_append, List.append_assoc] at H
      try clear w1
      have C := H.cells
      try simp only [cellsOf, apartOf, and_true] at C
      dsimp only
      go_wp2_with fail
      refine (HX2.out _).mono ?_
      rintro _ w3 ⟨rfl, hb⟩
      replace H := H.below hb
      clear hb
      try clear C
      try simp only [World.size_alloc, List.nil_append, List.cons_append, List.append_assoc] at H
      try clear w2
      have C := H.cells
      try simp only [cellsOf, apartOf, and_true] at C
      dsimp only
      go_wp2_with fail
      generalize hwb : ((w3.setCell _ _).setCell _ _).setCell _ _ = w4
      replace H := HS.eqW hwb (H.putAll (i := 2) rfl (vs := [.int .i64 0, .int .i64 0, .slice none 0 0]) rfl rfl)
      simp only [List.nil_append, List.cons_append, List.append_assoc, List.set_cons_succ, List.set_cons_zero] at H
      clear hwb
      try clear C
      try clear w3
      have C := H.cells
      try simp only [cellsOf, apartOf, and_true] at C
      refine bodyPost_ret (by simp [results, Try.results9, go_sem, C]; try rfl) rfl ?_
      exact ⟨rfl, H.done⟩
    · have hw1 := HW1.out
      rw [decide_eq_false h2] at hw1
      have HX1 := Lib.hid hw1
      clear hw1 hr h2
      go_enter Try.func9, Try.ntmps9
      have H := HS.start NoD w
      go_wp2_with fail
      refine (HV.out _ (H.alloc.alloc.alloc.liesUp HL.out)).mono ?_
      rintro _ w1 ⟨rfl, hb⟩
      replace H := H.alloc.alloc.alloc.below hb
      clear hb
      try clear C
      try simp only [World.size_alloc, List.nil_append, List.cons_append, List.append_assoc] at H
      generalize w.heap.size + 2 = bR at H ⊢
      generalize w.heap.size + 1 = bT at H ⊢
      generalize w.heap.size = bG at H ⊢
      have C := H.cells
      try simp only [cellsOf, apartOf, and_true] at C
      dsimp only
      go_wp2_with fail
      refine (HX1.out _).mono ?_
      rintro _ w2 ⟨rfl, hb⟩
      replace H := H.below hb
      clear hb
      try clear C
      try simp only [World.size_alloc, List.nil_append, List.cons_append, List.append_assoc] at H
      try clear w1
      have C := H.cells
      try simp only [cellsOf, apartOf, and_true] at C
      dsimp only
      go_wp2_with fail
      generalize hwb : ((w2.setCell _ _).setCell _ _).setCell _ _ = w3
      replace H := HS.eqW hwb (H.putAll (i := 2) rfl (vs := [.int .i64 0, .int .i64 0, .slice none 0 0]) rfl rfl)
      simp only [List.nil_append, List.cons_append, List.append_assoc, List.set_cons_succ, List.set_cons_zero] at H
      clear hwb
      try clear C
      try clear w2
      have C := H.cells
      try simp only [cellsOf, apartOf, and_true] at C
      refine bodyPost_ret (by simp [results, Try.results9, go_sem, C]; try rfl) rfl ?_
      exact ⟨rfl, H.done⟩
theorem note_time {P L part T n : Int} {sa : Option Addr} (c : Nat) {xs : List G3} (hx : xs.length ≤ 1000) (hv : rvB P L xs = true) (hr : 0 ≤ part ∧ (0 ≤ T ∧ T ≤ 1099511627776) ∧ (1 ≤ n ∧ n ≤ 1048576)) (ht : (xs.any fun x => decide (T < x.t)) = true) (w : World) (hl : Lies w w.heap.size sa 3 xs.length (fun j => gC xs[j]!)) :
    Calls Try.prog 9 #[vG P L (.slice sa xs.length c), .int .i64 part, .int .i64 T, .int .i64 n] w (Gives (.tuple #[zG, .bool false, .int .i64 46]) w) := by
  have HV := Lib.hid (fun w hl => by have := rvalid_any P L c (xs := xs) (sa := sa) (by omega) w hl; rw [hv] at this; exact this : ∀ w, Lies w w.heap.size sa 3 xs.length (fun j => gC xs[j]!) → Calls Try.prog 12 #[vG P L (.slice sa xs.length c)] w (Gives (.bool true) w))
  have HL := Lib.hid hl
  have hw1 := fun w => within_any T 0 1099511627776 w
  have hw2 := fun w => within_any n 1 1048576 w
  rw [decide_eq_true hr.2.1] at hw1
  rw [decide_eq_true hr.2.2] at hw2
  have HX1 := Lib.hid hw1
  have HX2 := Lib.hid hw2
  have hpart := hr.1
  have HF := Lib.hid ht
  clear hl hv hw1 hw2 hr ht
  go_enter Try.func9, Try.ntmps9
  have H := HS.start NoD w
  go_wp2_with fail
  refine (HV.out _ (H.alloc.alloc.alloc.liesUp HL.out)).mono ?_
  rintro _ w1 ⟨rfl, hb⟩
  replace H := H.alloc.alloc.alloc.below hb
  clear hb
  try clear C
  try simp only [World.size_alloc, List.nil_append, List.cons_append, List.append_assoc] at H
  generalize w.heap.size + 2 = bR at H ⊢
  generalize w.heap.size + 1 = bT at H ⊢
  generalize w.heap.size = bG at H ⊢
  have C := H.cells
  try simp only [cellsOf, apartOf, and_true] at C
  dsimp only
  go_wp2_with fail
  refine (HX1.out _).mono ?_
  rintro _ w2 ⟨rfl, hb⟩
  replace H := H.below hb
  clear hb
  try clear C
  try simp only [World.size_alloc, List.nil_append, List.cons_append, List.append_assoc] at H
  try clear w1
  have C := H.cells
  try simp only [cellsOf, apartOf, and_true] at C
  dsimp only
  go_wp2_with fail
  refine (HX2.out _).mono ?_
  rintro _ w3 ⟨rfl, hb⟩
  replace H := H.below hb
  clear hb
  try clear C
  try simp only [World.size_alloc, List.nil_append, List.cons_append, List.append_assoc] at H
  try clear w2
  have C := H.cells
  try simp only [cellsOf, apartOf, and_true] at C
  dsimp only
  go_wp2_with fail
  have hct : w3.cell? ⟨bT, 0, none⟩ = some (.int .i64 T) := by have := (H.at 1 rfl : Blk _ _ _ _).cell 0; simpa using this
  have hlt : bT < w3.heap.size := Blk.lt (H.at 1 rfl)
  have hcon := containsG 18 (fun _ _ => rfl) #[.pointer (some ⟨bT, 0, none⟩)] (fun x => decide (T < x.t)) c (by omega) w3 (H.liesUp HL.out) (fun W x hb => note1_any x T bT W ((hb.cell (p := ⟨bT, 0, none⟩) hlt).trans hct) (Nat.lt_of_lt_of_le hlt hb.size))
  rw [HF.out] at hcon
  clear hct hlt
  refine (hcon).mono ?_
  rintro _ w4 ⟨rfl, hb⟩
  replace H := H.below hb
  clear hb
  try clear C
  try simp only [World.size_alloc, List.nil_append, List.cons_append, List.append_assoc] at H
  try clear w3
  have C := H.cells
  try simp only [cellsOf, apartOf, and_true] at C
  dsimp only
  clear hcon
  go_wp2_with fail
  generalize hwb : ((w4.setCell _ _).setCell _ _).setCell _ _ = w5
  replace H := HS.eqW hwb (H.putAll (i := 2) rfl (vs := [.int .i64 0, .int .i64 0, .slice none 0 0]) rfl rfl)
  simp only [List.nil_append, List.cons_append, List.append_assoc, List.set_cons_succ, List.set_cons_zero] at H
  clear hwb
  try clear C
  try clear w4
  have C := H.cells
  try simp only [cellsOf, apartOf, and_true] at C
  refine bodyPost_ret (by simp [results, Try.results9, go_sem, C]; try rfl) rfl ?_
  exact ⟨rfl, H.done⟩
set_option maxHeartbeats 4000000 in
theorem note_full {P L part T n : Int} {sa : Option Addr} (c : Nat) {xs : List G3} (hv : rvB P L xs = true) (hpart : 0 ≤ part) (hT : 0 ≤ T ∧ T ≤ 1099511627776) (hn : 1 ≤ n ∧ n ≤ 1048576) (hall : ∀ x ∈ xs, x.t ≤ T)
    (hends : 64 ≤ (leakL P T xs).length ∧ ¬ ∃ x ∈ leakL P T xs, x.p = part) (w : World) (hl : Lies w w.heap.size sa 3 xs.length (fun j => gC xs[j]!)) :
    Calls Try.prog 9 #[vG P L (.slice sa xs.length c), .int .i64 part, .int .i64 T, .int .i64 n] w (Gives (.tuple #[zG, .bool false, .int .i64 16]) w) := by
  have hv0 := hv
  unfold rvB at hv0
  simp only [Bool.and_eq_true, decide_eq_true_eq] at hv0
  obtain ⟨hok, ⟨⟨hP, hL⟩, hlen⟩⟩ := hv0
  obtain ⟨hsx, hpw⟩ := sorted_of hok
  have hgok : GOK P T xs := ⟨hP.1, hP.2, hT.1, hT.2, by omega, fun x hx => (hsx x hx).2⟩
  have HV := Lib.hid (fun w hl => by have := rvalid_any P L c (xs := xs) (sa := sa) (by omega) w hl; rw [hv] at this; exact this : ∀ w, Lies w w.heap.size sa 3 xs.length (fun j => gC xs[j]!) → Calls Try.prog 12 #[vG P L (.slice sa xs.length c)] w (Gives (.bool true) w))
  have HLK := Lib.hid (fun w (hl : Lies w w.heap.size sa 3 xs.length (fun j => gC xs[j]!)) => leak_ok L c hgok w hl)
  have HW := Lib.hid (fun (a lo hi : Int) (h : lo ≤ a ∧ a ≤ hi) w => by have := within_any a lo hi w; rw [decide_eq_true h] at this; exact this : ∀ (a lo hi : Int), lo ≤ a ∧ a ≤ hi → ∀ w, Calls Try.prog 16 #[.int .i64 a, .int .i64 lo, .int .i64 hi] w (Gives (.bool true) w))
  have hfalse : xs.any (fun x => decide (T < x.t)) = false := by
    rw [List.any_eq_false]; intro x hx; have := hall x hx; simp; omega
  have HL := Lib.hid hl
  have HF := Lib.hid hfalse
  clear hl hv hfalse
  go_enter Try.func9, Try.ntmps9
  have H := HS.start NoD w
  go_wp2_with fail
  refine (HV.out _ (H.alloc.alloc.alloc.liesUp HL.out)).mono ?_
  rintro _ w1 ⟨rfl, hb⟩
  replace H := H.alloc.alloc.alloc.below hb
  clear hb
  try clear C
  try simp only [World.size_alloc, List.nil_append, List.cons_append, List.append_assoc] at H
  generalize w.heap.size + 2 = bR at H ⊢
  generalize w.heap.size + 1 = bT at H ⊢
  generalize w.heap.size = bG at H ⊢
  have C := H.cells
  try simp only [cellsOf, apartOf, and_true] at C
  dsimp only
  go_wp2_with fail
  refine (HW.out _ _ _ hT _).mono ?_
  rintro _ w2 ⟨rfl, hb⟩
  replace H := H.below hb
  clear hb
  try clear C
  try simp only [World.size_alloc, List.nil_append, List.cons_append, List.append_assoc] at H
  try clear w1
  have C := H.cells
  try simp only [cellsOf, apartOf, and_true] at C
  dsimp only
  go_wp2_with fail
  refine (HW.out _ _ _ hn _).mono ?_
  rintro _ w3 ⟨rfl, hb⟩
  replace H := H.below hb
  clear hb
  try clear C
  try simp only [World.size_alloc, List.nil_append, List.cons_append, List.append_assoc] at H
  try clear w2
  have C := H.cells
  try simp only [cellsOf, apartOf, and_true] at C
  dsimp only
  go_wp2_with fail
  have hcc : ∀ w, HS NoD w [] w → True := fun _ _ => trivial
  clear hcc
  have hct : w3.cell? ⟨bT, 0, none⟩ = some (.int .i64 T) := by have := (H.at 1 rfl : Blk _ _ _ _).cell 0; simpa using this
  have hlt : bT < w3.heap.size := Blk.lt (H.at 1 rfl)
  have hcon := containsG 18 (fun _ _ => rfl) #[.pointer (some ⟨bT, 0, none⟩)] (fun x => decide (T < x.t)) c (by omega) w3 (H.liesUp HL.out) (fun W x hb => note1_any x T bT W ((hb.cell (p := ⟨bT, 0, none⟩) hlt).trans hct) (Nat.lt_of_lt_of_le hlt hb.size))
  rw [HF.out] at hcon
  clear hct hlt
  refine (hcon).mono ?_
  rintro _ w4 ⟨rfl, hb⟩
  replace H := H.below hb
  clear hb
  try clear C
  try simp only [World.size_alloc, List.nil_append, List.cons_append, List.append_assoc] at H
  try clear w3
  have C := H.cells
  try simp only [cellsOf, apartOf, and_true] at C
  dsimp only
  go_wp2_with fail
  refine (HLK.out _ (H.liesUp HL.out)).mono ?_
  rintro _ w5 ⟨sb, d, rfl, hr, hb⟩
  replace H := (H).getsRow hb hr
  clear hb hr
  try clear C
  try simp only [World.size_alloc, List.nil_append, List.cons_append, List.append_assoc] at H
  try clear w4
  have C := H.cells
  try simp only [cellsOf, apartOf, and_true] at C
  dsimp only
  have hys := (sorted_leak (P := P) (T := T) hpw)
  have hbd := Lib.hid (fun y hy => leak_in (y := y) hgok hy)
  generalize hye : leakL P T xs = ys at *
  have HYE := Lib.hid hye
  clear hye
  have HYS := Lib.hid hys
  have HYL := Lib.hid hends
  have hyl64 : ys.length ≤ 64 := by rw [← HYE.out]; exact Nat.le_trans (leakL_len _ _ _) hlen
  clear hys hends hcon
  go_upto_region 8 with fail
  generalize hwb : w5.alloc _ = w6
  replace H := HS.eqW hwb H.alloc
  try simp only [World.size_alloc, List.nil_append, List.cons_append, List.append_assoc] at H
  clear hwb
  generalize w5.heap.size = bO at H ⊢
  try clear C
  try clear w5
  have C := H.cells
  try simp only [cellsOf, apartOf, and_true] at C
  go_wp2_with fail
  refine (bsearch_any part d (by omega) HYS.out _ (H.rowLies 3 gC_len rfl rfl)).mono ?_
  rintro _ w7 ⟨i, hi, hlo, hhi, rfl, hb⟩
  replace H := H.below hb
  clear hb
  try clear C
  try simp only [World.size_alloc, List.nil_append, List.cons_append, List.append_assoc] at H
  try clear w6
  have C := H.cells
  try simp only [cellsOf, apartOf, and_true] at C
  dsimp only
  have HLO := Lib.hid hlo
  have HHI := Lib.hid hhi
  clear hlo hhi
  have hfd : ¬ (i < ys.length ∧ ys[i]!.p = part) := fun h => HYL.out.2 ⟨ys[i]!, by rw [getElem!_pos ys i h.1]; exact List.getElem_mem _, h.2⟩
  rw [decide_eq_false hfd]
  have hy64 : (ys.length : Int) = 64 := by have := HYL.out.1; omega
  clear hfd
  skip
  go_wp2_with fail
  generalize hwb : ((w7.setCell _ _).setCell _ _).setCell _ _ = w8
  replace H := HS.eqW hwb (H.putAll (i := 2) rfl (vs := [.int .i64 0, .int .i64 0, .slice none 0 0]) rfl rfl)
  simp only [List.nil_append, List.cons_append, List.append_assoc, List.set_cons_succ, List.set_cons_zero] at H
  clear hwb
  try clear C
  try clear w7
  have C := H.cells
  try simp only [cellsOf, apartOf, and_true] at C
  refine bodyPost_ret (by simp [results, Try.results9, go_sem, C]; try rfl) rfl ?_
  exact ⟨rfl, H.done⟩

theorem note_gen {P L part T n : Int} {sa : Option Addr} (c : Nat) {xs : List G3} (hx : xs.length ≤ 1000) (w : World) (hl : Lies w w.heap.size sa 3 xs.length (fun j => gC xs[j]!)) :
    Calls Try.prog 9 #[vG P L (.slice sa xs.length c), .int .i64 part, .int .i64 T, .int .i64 n] w (NoteP P L part T n xs w) := by
  unfold NoteP noteErr
  by_cases hv : rvB P L xs = false
  · simp only [if_pos hv]
    exact (note_inv c hx hv w hl).mono fun _ _ h => .inl ⟨by decide, h⟩
  · have hv' : rvB P L xs = true := by simpa using hv
    simp only [if_neg hv]
    by_cases hr : ¬ (0 ≤ part ∧ (0 ≤ T ∧ T ≤ 1099511627776) ∧ (1 ≤ n ∧ n ≤ 1048576))
    · simp only [if_pos hr]
      exact (note_range c hx hv' hr w hl).mono fun _ _ h => .inl ⟨by decide, h⟩
    · have hr' := Decidable.not_not.1 hr
      simp only [if_neg hr]
      by_cases ht : (xs.any fun x => decide (T < x.t)) = true
      · simp only [if_pos ht]
        exact (note_time c hx hv' hr' ht w hl).mono fun _ _ h => .inl ⟨by decide, h⟩
      · have hall : ∀ x ∈ xs, x.t ≤ T := fun x hxm => by
          have h1 := List.any_eq_false.1 (Bool.eq_false_iff.2 ht) x hxm
          simp at h1; exact h1
        simp only [if_neg ht]
        by_cases hf : 64 ≤ (leakL P T xs).length ∧ ¬ ∃ x ∈ leakL P T xs, x.p = part
        · simp only [if_pos hf]
          exact (note_full c hv' hr'.1 hr'.2.1 hr'.2.2 hall hf w hl).mono fun _ _ h => .inl ⟨by decide, h⟩
        · simp only [if_neg hf]
          exact (note_all2 c hv' hr'.1 hr'.2.1 hr'.2.2 hall (by
            by_cases h1 : (leakL P T xs).length < 64
            · exact .inl h1
            · exact .inr (Decidable.byContradiction fun h2 => hf ⟨by omega, h2⟩)) w hl).mono fun _ _ h => .inr ⟨trivial, h⟩
end Go.Proofs.Ytdcieajdgmopkaa
