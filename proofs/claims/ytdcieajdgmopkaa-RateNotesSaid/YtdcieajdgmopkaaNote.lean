/- Package rate: Note, whatever the part; slices.Insert anywhere. -/
import Derived.Test.YtdcieajdgmopkaaInsert
import Derived.Test.YtdcieajdgmopkaaRate4
namespace Go.Proofs.Ytdcieajdgmopkaa
set_option linter.unusedSimpArgs false
set_option linter.unusedVariables false
open Go.RowKit
set_option maxRecDepth 100000
attribute [local go_sem] lt_more ne_more ne_more'
attribute [local irreducible] wpX wpF Calls

theorem insert_any {sa : Option Addr} {n c b i : Nat} {cs : List Value} {x : G3} (hi : i ≤ n) (hn : n ≤ 1000) (hne : ∀ g, sa = some ⟨g, 0, none⟩ → b ≠ g) (h1c : ∀ u ∈ cs, u.oneCell' = true) (w : World) (hr : w.ownsRow 0 33 3 (.slice sa n c) n cs) (hb : Blk w b (gC x).toArray 33) :
    Calls Try.prog 23 #[.slice sa n c, .int .i64 i, .slice (some ⟨b, 0, none⟩) 1 1] w (GrewPost (.slice sa n c) 33 3 (n + 1) (cs.take (i * 3) ++ gC x ++ cs.drop (i * 3)) w) := by
  by_cases he : i = n
  · subst he
    have := insert_end hn w hr hb
    have hl : cs.length = i * 3 := hr.1
    rw [List.take_of_length_le (by omega), List.drop_eq_nil_of_le (by omega), List.append_nil]
    exact this
  · obtain ⟨g, cap, hv, -, -⟩ := World.ownsRow.form hr (by omega)
    obtain ⟨rfl, -, rfl⟩ := Value.slice.inj hv
    by_cases hroom : n + 1 ≤ c
    · exact insert_room (by omega) hn hroom (hne g rfl) h1c w hr hb
    · exact insert_grow (by omega) hn (by omega) h1c w hr hb
theorem gC_one (xs : List G3) : ∀ u ∈ xs.flatMap gC, u.oneCell' = true := fun u hu => by
  obtain ⟨x, -, hx⟩ := List.mem_flatMap.1 hu
  simp only [gC, List.mem_cons, List.not_mem_nil, or_false] at hx
  rcases hx with rfl | rfl | rfl <;> rfl
theorem flat_take {α : Type} {enc : α → List Value} {k : Nat} (hk : ∀ x, (enc x).length = k) : ∀ (xs : List α) (i : Nat), (xs.flatMap enc).take (i * k) = (xs.take i).flatMap enc
  | [], i => by simp
  | x :: xs, 0 => by simp
  | x :: xs, i + 1 => by
    rw [List.flatMap_cons, List.take_succ_cons, List.flatMap_cons, Nat.succ_mul, Nat.add_comm, ← flat_take hk xs i]
    rw [← hk x, List.take_length_add_append]
theorem flat_drop {α : Type} {enc : α → List Value} {k : Nat} (hk : ∀ x, (enc x).length = k) : ∀ (xs : List α) (i : Nat), (xs.flatMap enc).drop (i * k) = (xs.drop i).flatMap enc
  | [], i => by simp
  | x :: xs, 0 => by simp
  | x :: xs, i + 1 => by
    rw [List.flatMap_cons, List.drop_succ_cons, Nat.succ_mul, Nat.add_comm, ← flat_drop hk xs i]
    rw [← hk x, List.drop_length_add_append]
/-- What Note does to what has leaked: the part's level grows, or a gauge is put in its place. -/
inductive NoteA (part T n : Int) : List G3 → List G3 → Int → Prop where
  | found (ys : List G3) (i : Nat) (h : i < ys.length) (hp : ys[i]!.p = part) (hs : ys.Pairwise fun x y => x.p < y.p) : NoteA part T n ys (ys.set i ⟨part, min (ys[i]!.l + n) 1048576, ys[i]!.t⟩) (min (ys[i]!.l + n) 1048576)
  | fresh (ys : List G3) (i : Nat) (h : i ≤ ys.length) (h1 : ∀ k, k < i → ys[k]!.p < part) (h2 : ∀ k, i ≤ k → k < ys.length → part < ys[k]!.p) (hl : ys.length < 64) : NoteA part T n ys (ys.take i ++ (⟨part, n, T⟩ :: ys.drop i)) n
def NotePA (P L part T n : Int) (xs : List G3) (w : World) (e : Ending) (w' : World) : Prop :=
  ∃ (zs : List G3) (lv : Int), NoteA part T n (leakL P T xs) zs lv ∧ GivesS (fun v => .tuple #[vG P L v, .bool (decide (L ≤ lv)), .int .i64 0]) 33 3 zs.length (zs.flatMap gC) w e w'
set_option maxHeartbeats 4000000 in
theorem note_all {P L part T n : Int} {sa : Option Addr} (c : Nat) {xs : List G3} (hv : rvB P L xs = true) (hpart : 0 ≤ part) (hT : 0 ≤ T ∧ T ≤ 1099511627776) (hn : 1 ≤ n ∧ n ≤ 1048576) (hall : ∀ x ∈ xs, x.t ≤ T)
    (hends : (leakL P T xs).length < 64) (w : World) (hl : Lies w w.heap.size sa 3 xs.length (fun j => gC xs[j]!)) :
    Calls Try.prog 9 #[vG P L (.slice sa xs.length c), .int .i64 part, .int .i64 T, .int .i64 n] w (NotePA P L part T n xs w) := by
  have hv0 := hv
  unfold rvB at hv0
  simp only [Bool.and_eq_true, decide_eq_true_eq] at hv0
  obtain ⟨hok, ⟨⟨hP, hL⟩, hlen⟩⟩ := hv0
  obtain ⟨hsx, hpw⟩ := sorted_of hok
  have hgok : GOK P T xs := ⟨hP.1, hP.2, hT.1, hT.2, by omega, fun x hx => (hsx x hx).2⟩
  have HV := Lib.hid (fun w hl => by have := rvalid_any P L c (xs := xs) (sa := sa) (by omega) w hl; rw [hv] at this; exact this : ∀ w, Lies w w.heap.size sa 3 xs.length (fun j => gC xs[j]!) → Calls Try.prog 12 #[vG P L (.slice sa xs.length c)] w (Gives (.bool true) w))
  have HLK := Lib.hid (fun w (hl : Lies w w.heap.size sa 3 xs.length (fun j => gC xs[j]!)) => leak_ok L c hgok w hl)
  have HW := Lib.hid (fun (a lo hi : Int) (h : lo ≤ a ∧ a ≤ hi) w => by have := within_any a lo hi w; rw [decide_eq_true h] at this; exact this : ∀ (a lo hi : Int), lo ≤ a ∧ a ≤ hi → ∀ w, Calls Try.prog 16 #[.int .i64 a, .int .i64 lo, .int .i64 hi] w (Gives (.bool true) w))
  have hfalse : xs.any (fun x => decide (T < x.t)) = false := by
    rw [List.any_eq_false]; intro x hx; have := hall x hx; simp; omega
  have HL := Lib.hid hl
  have HF := Lib.hid hfalse
  clear hl hv hfalse
  go_enter Try.func9, Try.ntmps9
  have H := HS.start NoD w
  go_wp2_with fail
  refine (HV.out _ (H.alloc.alloc.alloc.liesUp HL.out)).mono ?_
  rintro _ w1 ⟨rfl, hb⟩
  replace H := H.alloc.alloc.alloc.below hb
  clear hb
  try clear C
  try simp only [World.size_alloc, List.nil_append, List.cons_append, List.append_assoc] at H
  generalize w.heap.size + 2 = bR at H ⊢
  generalize w.heap.size + 1 = bT at H ⊢
  generalize w.heap.size = bG at H ⊢
  have C := H.cells
  try simp only [cellsOf, apartOf, and_true] at C
  dsimp only
  go_wp2_with fail
  refine (HW.out _ _ _ hT _).mono ?_
  rintro _ w2 ⟨rfl, hb⟩
  replace H := H.below hb
  clear hb
  try clear C
  try simp only [World.size_alloc, List.nil_append, List.cons_append, List.append_assoc] at H
  try clear w1
  have C := H.cells
  try simp only [cellsOf, apartOf, and_true] at C
  dsimp only
  go_wp2_with fail
  refine (HW.out _ _ _ hn _).mono ?_
  rintro _ w3 ⟨rfl, hb⟩
  replace H := H.below hb
  clear hb
  try clear C
  try simp only [World.size_alloc, List.nil_append, List.cons_append, List.append_assoc] at H
  try clear w2
  have C := H.cells
  try simp only [cellsOf, apartOf, and_true] at C
  dsimp only
  go_wp2_with fail
  have hcc : ∀ w, HS NoD w [] w → True := fun _ _ => trivial
  clear hcc
  have hct : w3.cell? ⟨bT, 0, none⟩ = some (.int .i64 T) := by have := (H.at 1 rfl : Blk _ _ _ _).cell 0; simpa using this
  have hlt : bT < w3.heap.size := Blk.lt (H.at 1 rfl)
  have hcon := containsG 18 (fun _ _ => rfl) #[.pointer (some ⟨bT, 0, none⟩)] (fun x => decide (T < x.t)) c (by omega) w3 (H.liesUp HL.out) (fun W x hb => note1_any x T bT W ((hb.cell (p := ⟨bT, 0, none⟩) hlt).trans hct) (Nat.lt_of_lt_of_le hlt hb.size))
  rw [HF.out] at hcon
  clear hct hlt
  refine (hcon).mono ?_
  rintro _ w4 ⟨rfl, hb⟩
  replace H := H.below hb
  clear hb
  try clear C
  try simp only [World.size_alloc, List.nil_append, List.cons_append, List.append_assoc] at H
  try clear w3
  have C := H.cells
  try simp only [cellsOf, apartOf, and_true] at C
  dsimp only
  go_wp2_with fail
  refine (HLK.out _ (H.liesUp HL.out)).mono ?_
  rintro _ w5 ⟨sb, d, rfl, hr, hb⟩
  replace H := (H).getsRow hb hr
  clear hb hr
  try clear C
  try simp only [World.size_alloc, List.nil_append, List.cons_append, List.append_assoc] at H
  try clear w4
  have C := H.cells
  try simp only [cellsOf, apartOf, and_true] at C
  dsimp only
  have hys := (sorted_leak (P := P) (T := T) hpw)
  have hbd := Lib.hid (fun y hy => leak_in (y := y) hgok hy)
  generalize hye : leakL P T xs = ys at *
  have HYE := Lib.hid hye
  clear hye
  have HYS := Lib.hid hys
  have hyl : ys.length < 64 := hends
  clear hys hends hcon
  go_upto_region 8 with fail
  generalize hwb : w5.alloc _ = w6
  replace H := HS.eqW hwb H.alloc
  try simp only [World.size_alloc, List.nil_append, List.cons_append, List.append_assoc] at H
  clear hwb
  generalize w5.heap.size = bO at H ⊢
  try clear C
  try clear w5
  have C := H.cells
  try simp only [cellsOf, apartOf, and_true] at C
  go_wp2_with fail
  refine (bsearch_any part d (by omega) HYS.out _ (H.rowLies 3 gC_len rfl rfl)).mono ?_
  rintro _ w7 ⟨i, hi, hlo, hhi, rfl, hb⟩
  replace H := H.below hb
  clear hb
  try clear C
  try simp only [World.size_alloc, List.nil_append, List.cons_append, List.append_assoc] at H
  try clear w6
  have C := H.cells
  try simp only [cellsOf, apartOf, and_true] at C
  dsimp only
  have HLO := Lib.hid hlo
  have HHI := Lib.hid hhi
  clear hlo hhi
  by_cases hfd : i < ys.length ∧ ys[i]!.p = part
  · rw [decide_eq_true hfd]
    have HFD := Lib.hid hfd
    clear hfd
    go_upto_region 11 with fail
    have hi' := HFD.out.1
    have HFP := Lib.hid HFD.out.2
    clear HFD
    obtain ⟨g, rfl, hg, hnd⟩ := ownsRow_ptr (H.at 3 rfl) (by omega)
    obtain ⟨b', o', hbo, hb', hc⟩ := (H.rowLies 3 gC_len rfl rfl).at hi'
    simp only [Option.some.injEq, Addr.mk.injEq, and_true] at hbo
    obtain ⟨rfl, rfl⟩ := hbo
    have hfz := World.ownsRow.frozenAt (H.at 3 rfl) (i * 3 + 1)
    have hxo := HYS.out
    obtain ⟨x, hxi⟩ : ∃ x, x = ys[i]! := ⟨_, rfl⟩
    rw [← hxi] at hc HFP
    have c0 : w7.cell? ⟨g, i * 3, none⟩ = some (.int .i64 x.p) := by simpa using hc 0 _ rfl
    have c1 : w7.cell? ⟨g, i * 3 + 1, none⟩ = some (.int .i64 x.l) := by simpa using hc 1 _ rfl
    have c2 : w7.cell? ⟨g, i * 3 + 2, none⟩ = some (.int .i64 x.t) := by simpa using hc 2 _ rfl
    have HXI := Lib.hid hxi
    have hb3 := hbd.out ys[i]! (by rw [getElem!_pos ys i hi']; exact List.getElem_mem _)
    rw [← hxi] at hb3
    have q1 : wrap64 (x.l + n) = x.l + n := IntWalk.wrap64_in _ (by omega)
    obtain ⟨lv, hlv⟩ : ∃ lv, lv = min (x.l + n) 1048576 := ⟨_, rfl⟩
    have q2 : (if 1048576 < x.l + n then 1048576 else x.l + n) = lv := by rw [hlv]; omega
    have q3 : min (x.l + n) 1048576 = lv := hlv.symm
    have HLV := Lib.hid hlv
    clear hc hxi hxo hlv
    go_region
    try simp only [q1, q2, q3]
    generalize hwb : (World.setCell _ _ _).drew = w8
    have H8 := HS.eqW hwb (H.rowSet 3 rfl (i * 3 + 1) (.int .i64 lv)).drew
    clear H C c0 c1 c2 hwb q1 q2 q3 hfz
    have H := H8
    clear H8
    rw [← flat_set gC_len ys i 1 ⟨part, lv, x.t⟩ (.int .i64 lv) hi' (by decide) (by rw [← HXI.out]; simp [gC, HFP.out])] at H
    simp only [List.nil_append, List.cons_append, List.append_assoc, List.set_cons_succ, List.set_cons_zero] at H
    have hlen2 : (ys.set i ⟨part, lv, x.t⟩).length = ys.length := List.length_set
    obtain ⟨zs, hzs⟩ : ∃ zs, zs = ys.set i ⟨part, lv, x.t⟩ := ⟨_, rfl⟩
    rw [← hzs] at H hlen2
    have hzi : zs[i]! = ⟨part, lv, x.t⟩ := by rw [hzs, getElem!_pos _ i (by rw [List.length_set]; exact hi'), List.getElem_set_self]
    have HR : NoteA part T n ys zs lv := by
      rw [hzs, HLV.out, HXI.out]
      exact .found ys i hi' (by rw [← HXI.out]; exact HFP.out) HYS.out
    have HNR := Lib.hid HR
    clear HR hzs
    rw [← hlen2] at H
    have HLN := Lib.hid hlen2
    obtain ⟨b', o', hbo, hb', hc⟩ := (H.rowLies 3 gC_len rfl rfl).at (show i < zs.length by omega)
    rw [hzi] at hc
    simp only [Option.some.injEq, Addr.mk.injEq, and_true] at hbo
    obtain ⟨rfl, rfl⟩ := hbo
    have c1 : w8.cell? ⟨g, i * 3 + 1, none⟩ = some (.int .i64 lv) := by simpa using hc 1 _ rfl
    clear hc hzi hlen2
    skip
    try clear C
    try simp only [World.size_alloc, List.nil_append, List.cons_append, List.append_assoc] at H
    have C := H.cells
    try simp only [cellsOf, apartOf, and_true] at C
    have e1 : (i : Int) < zs.length := by have := HLN.out; omega
    obtain ⟨n1, n2⟩ := H.rowApart 3 2 rfl rfl (by decide)
    obtain ⟨n3, n4⟩ := H.rowApart 3 4 rfl rfl (by decide)
    go_upto_region 14 with fail
    go_region
    generalize hwb : (World.setCell _ _ _).drew = w9
    have H9 := HS.eqW hwb (H.putAll (i := 2) rfl (vs := [.int .i64 P, .int .i64 L, .slice (some ⟨g, 0, none⟩) zs.length d]) rfl rfl).drew
    clear H C c1 hwb n1 n2 n3 n4
    have H := H9
    clear H9
    simp only [List.nil_append, List.cons_append, List.append_assoc, List.set_cons_succ, List.set_cons_zero] at H
    skip
    try clear C
    try simp only [World.size_alloc, List.nil_append, List.cons_append, List.append_assoc] at H
    have C := H.cells
    try simp only [cellsOf, apartOf, and_true] at C
    go_wp2_with fail
    refine bodyPost_ret (by simp [results, Try.results9, go_sem, C]; try rfl) rfl ?_
    exact ⟨zs, lv, by rw [HYE.out]; exact HNR.out, H.givesS 3 (mk := fun v => .tuple #[vG P L v, .bool (decide (L ≤ lv)), .int .i64 0]) rfl⟩
  · rw [decide_eq_false hfd]
    have HGT : Hid (∀ k, i ≤ k → k < ys.length → part < ys[k]!.p) := fun k h1 h2 => by
      have h3 := HHI.out k h1 h2
      by_cases e : k = i
      · subst e
        have : ys[k]!.p ≠ part := fun e => hfd ⟨h2, e⟩
        omega
      · have h4 := List.pairwise_iff_getElem.1 HYS.out i k (by omega) h2 (by omega)
        have h5 := HHI.out i (Nat.le_refl _) (by omega)
        rw [getElem!_pos ys k h2]
        rw [getElem!_pos ys i (by omega)] at h5
        omega
    clear hfd
    skip
    go_wp2_with fail
    refine (insert_any (cs := ys.flatMap gC) (x := ⟨part, n, T⟩) hi (by omega) (fun g e => ?hne) (gC_one ys) _ (H.alloc.at 3 rfl) (H.alloc.at 5 rfl)).mono ?_
    case hne =>
      subst e
      have hgl := (World.ownsRow.lt (H.at 3 rfl) g rfl).2
      omega
    rintro _ w9 ⟨g, cap, rfl, h2, h3, h4⟩
    replace H := H.alloc.grewAt 3 rfl h2 h3 h4
    clear h2 h3 h4
    simp only [List.nil_append, List.cons_append, List.append_assoc, List.set_cons_succ, List.set_cons_zero] at H
    skip
    try clear C
    try simp only [World.size_alloc, List.nil_append, List.cons_append, List.append_assoc] at H
    have C := H.cells
    try simp only [cellsOf, apartOf, and_true] at C
    have hzz : (ys.flatMap gC).take (i * 3) ++ (gC (⟨part, n, T⟩ : G3) ++ (ys.flatMap gC).drop (i * 3)) = (ys.take i ++ ((⟨part, n, T⟩ : G3) :: ys.drop i)).flatMap gC := by
      rw [flat_take gC_len, flat_drop gC_len, List.flatMap_append, List.flatMap_cons]
    rw [hzz] at H
    have HR : NoteA part T n ys (ys.take i ++ ((⟨part, n, T⟩ : G3) :: ys.drop i)) n := .fresh ys i hi HLO.out HGT.out hyl
    have hzl : (ys.take i ++ ((⟨part, n, T⟩ : G3) :: ys.drop i)).length = ys.length + 1 := by rw [List.length_append, List.length_cons, List.length_take, List.length_drop]; omega
    have hzi : (ys.take i ++ ((⟨part, n, T⟩ : G3) :: ys.drop i))[i]! = ⟨part, n, T⟩ := by
      have h0 : (ys.take i).length = i := by rw [List.length_take]; omega
      rw [getElem!_pos _ _ (by rw [hzl]; omega), List.getElem_append_right (by omega)]
      simp [h0]
    obtain ⟨zs, hzs⟩ : ∃ zs, zs = (ys.take i ++ ((⟨part, n, T⟩ : G3) :: ys.drop i)) := ⟨_, rfl⟩
    rw [← hzs] at H HR hzl hzi
    have HNR := Lib.hid HR
    rw [← hzl] at H
    have HZL := Lib.hid hzl
    have HZI := Lib.hid hzi
    clear HR hzs hzz hzi
    rw [← hzl]
    clear hzl
    go_upto_region 14 with fail
    generalize hwb : World.setCell _ _ _ = wa
    have H9 := HS.eqW hwb (H.setTo (o := 2) (v := .slice (some ⟨g, 0, none⟩) zs.length cap) 4 rfl rfl)
    clear H C hwb
    have H := H9
    clear H9
    simp only [List.nil_append, List.cons_append, List.append_assoc, List.set_cons_succ, List.set_cons_zero] at H
    skip
    try clear C
    try simp only [World.size_alloc, List.nil_append, List.cons_append, List.append_assoc] at H
    have C := H.cells
    try simp only [cellsOf, apartOf, and_true] at C
    obtain ⟨b', o', hbo, hb', hc⟩ := (H.rowLies 3 gC_len rfl rfl).at (show i < zs.length by have := HZL.out; omega)
    rw [HZI.out] at hc
    simp only [Option.some.injEq, Addr.mk.injEq, and_true] at hbo
    obtain ⟨rfl, rfl⟩ := hbo
    have c1 : wa.cell? ⟨g, i * 3 + 1, none⟩ = some (.int .i64 n) := by simpa using hc 1 _ rfl
    have e1 : (i : Int) < zs.length := by have := HZL.out; omega
    obtain ⟨n1, n2⟩ := H.rowApart 3 2 rfl rfl (by decide)
    obtain ⟨n3, n4⟩ := H.rowApart 3 4 rfl rfl (by decide)
    clear hc
    go_region
    generalize hwb : (World.setCell _ _ _).drew = wb
    have H9 := HS.eqW hwb (H.putAll (i := 2) rfl (vs := [.int .i64 P, .int .i64 L, .slice (some ⟨g, 0, none⟩) zs.length cap]) rfl rfl).drew
    clear H C c1 hwb n1 n2 n3 n4
    have H := H9
    clear H9
    simp only [List.nil_append, List.cons_append, List.append_assoc, List.set_cons_succ, List.set_cons_zero] at H
    skip
    try clear C
    try simp only [World.size_alloc, List.nil_append, List.cons_append, List.append_assoc] at H
    have C := H.cells
    try simp only [cellsOf, apartOf, and_true] at C
    go_wp2_with fail
    refine bodyPost_ret (by simp [results, Try.results9, go_sem, C]; try rfl) rfl ?_
    exact ⟨zs, n, by rw [HYE.out]; exact HNR.out, H.givesS 3 (mk := fun v => .tuple #[vG P L v, .bool (decide (L ≤ n)), .int .i64 0]) rfl⟩
end Go.Proofs.Ytdcieajdgmopkaa
