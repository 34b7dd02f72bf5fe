/- Package rate: Note, where the part is there already or belongs at the end. -/
import Derived.Test.YtdcieajdgmopkaaRate3
namespace Go.Proofs.Ytdcieajdgmopkaa
set_option linter.unusedSimpArgs false
set_option linter.unusedVariables false
open Go.RowKit
set_option maxRecDepth 100000
attribute [local go_sem] lt_more ne_more ne_more'

/-- A slice of one's own has grown, in place or anew. -/
def GrewPost (v : Value) (e : TypeId) (k n : Nat) (ys : List Value) (w : World) (x : Ending) (w' : World) : Prop :=
  ∃ g cap, x = .returned (.slice (some ⟨g, 0, none⟩) n cap) ∧ w'.ownsRow 0 e k (.slice (some ⟨g, 0, none⟩) n cap) n ys ∧ w.grownBy w' v.ownBlock ∧ (v.ownBlock = some g ∨ g = w.heap.size)
set_option maxHeartbeats 2000000 in
theorem insert_end {sa : Option Addr} {n c b : Nat} {cs : List Value} {x : G3} (hn : n ≤ 1000) (w : World) (hr : w.ownsRow 0 33 3 (.slice sa n c) n cs) (hb : Blk w b (gC x).toArray 33) :
    Calls Try.prog 23 #[.slice sa n c, .int .i64 n, .slice (some ⟨b, 0, none⟩) 1 1] w (GrewPost (.slice sa n c) 33 3 (n + 1) (cs ++ gC x) w) := by
  obtain ⟨i, i1, i2, i3, i4⟩ := elemG.hi
  have HB := Lib.hid hb
  have HR := Lib.hid hr
  clear hb hr
  go_enter Try.func23, Try.ntmps23
  have H := HS.start NoD w
  go_upto_region 7 with fail
  all_goals go_wp2_with (at_builtin; refine wpList_append_lies _ rfl (.tmp 23) (.tmp 24) 22 rfl 0 33 i _ 3 24 elemG.ht i1 i2 i3 i4 elemG.hzs elemG.pos _ n cs rfl HR.out ⟨b, 0, none⟩ 1 1 (gC x) rfl rfl (World.news_of_block HB.out) (fun u hu => List.all_eq_true.1 (show (gC x).all (·.oneCell') = true from rfl) u hu) (by decide) (by unfold maxLen; omega) (by omega) (Nat.zero_le _) w.heap.size rfl (fun g cap wz h2 h3 h4 h5 => ?_))
  all_goals go_ret
  all_goals exact ⟨g, cap, rfl, h2, (by cases sa <;> exact h3), (by cases sa <;> exact h4)⟩
theorem HS.rowSet {D : Nat → Prop} {W w : World} {L : List Item} (h : HS D W L w) (i : Nat) {g n cap k : Nat} {e : TypeId} {xs : List Value} (hi : L[i]? = some (.row (.slice (some ⟨g, 0, none⟩) n cap) e k n xs)) (j : Nat) (u : Value) :
    HS D W (L.set i (.row (.slice (some ⟨g, 0, none⟩) n cap) e k n (xs.set j u))) (w.setCell ⟨g, j, none⟩ u) := by
  rw [set_at _ hi]
  rw [split_at hi] at h
  have h1 : w.ownsRow 0 e k (.slice (some ⟨g, 0, none⟩) n cap) n xs := h.ok (.row (.slice (some ⟨g, 0, none⟩) n cap) e k n xs) (by simp)
  exact h.swap (X := .row (.slice (some ⟨g, 0, none⟩) n cap) e k n xs) (Y := .row (.slice (some ⟨g, 0, none⟩) n cap) e k n (xs.set j u)) rfl rfl rfl (by simp [World.setCell]) (fun b hb hn => Below.heap_setCell _ _ _ _ (fun e => hn (by rw [e]; rfl))) (World.ownsRow.stored h1 j u).1 (fun b hb => .inl hb) (.inr rfl)
theorem flat_set {α : Type} [Inhabited α] {enc : α → List Value} {k : Nat} (hk : ∀ x, (enc x).length = k) : ∀ (xs : List α) (j m : Nat) (x' : α) (u : Value), j < xs.length → m < k → enc x' = (enc xs[j]!).set m u → (xs.set j x').flatMap enc = (xs.flatMap enc).set (j * k + m) u
  | [], j, _, _, _, h, _, _ => by simp at h
  | x :: xs, 0, m, x', u, _, hm, h => by
    rw [List.set_cons_zero, List.flatMap_cons, List.flatMap_cons, Nat.zero_mul, Nat.zero_add, List.set_append_left _ _ (by rw [hk]; exact hm)]
    rw [h]; rfl
  | x :: xs, j + 1, m, x', u, hj, hm, h => by
    have := flat_set hk xs j m x' u (by simpa using hj) hm (by simpa using h)
    rw [List.set_cons_succ, List.flatMap_cons, List.flatMap_cons, this, List.set_append_right _ _ (by rw [hk, Nat.succ_mul]; omega), hk]
    rw [show (j + 1) * k + m - k = j * k + m by rw [Nat.succ_mul]; omega]
theorem HS.grewAt {D : Nat → Prop} {W w w' : World} {L : List Item} (h : HS D W L w) (i : Nat) {v : Value} {e : TypeId} {s n n' g cap : Nat} {xs ys : List Value} (hi : L[i]? = some (.row v e s n xs)) (h2 : w'.ownsRow 0 e s (.slice (some ⟨g, 0, none⟩) n' cap) n' ys) (h3 : w.grownBy w' v.ownBlock) (h4 : v.ownBlock = some g ∨ g = w.heap.size) :
    HS D W (L.set i (.row (.slice (some ⟨g, 0, none⟩) n' cap) e s n' ys)) w' := grown_row h i hi h2 h3 h4

theorem ownsRow_ptr {w : World} {B k n c : Nat} {e : TypeId} {sa : Option Addr} {cs : List Value} (h : w.ownsRow B e k (.slice sa n c) n cs) (hn : 0 < n) : ∃ g, sa = some ⟨g, 0, none⟩ ∧ g < w.heap.size ∧ n ≤ c := by
  rcases h.2 with ⟨h2, h3⟩ | ⟨g, cap, cur, hv, hg, hh, r⟩
  · omega
  · injection hv with e1 e2 e3
    subst e3
    exact ⟨g, e1, lt_of_heap hh, r.1⟩
/-- What Note does to what has leaked: the part's level grows, or a gauge is added at the end. -/
inductive NoteR (part T n : Int) : List G3 → List G3 → Int → Prop where
  | found (ys : List G3) (i : Nat) (h : i < ys.length) (hp : ys[i]!.p = part) (hs : ys.Pairwise fun x y => x.p < y.p) : NoteR part T n ys (ys.set i ⟨part, min (ys[i]!.l + n) 1048576, ys[i]!.t⟩) (min (ys[i]!.l + n) 1048576)
  | last (ys : List G3) (h : ∀ y ∈ ys, y.p < part) (hl : ys.length < 64) : NoteR part T n ys (ys ++ [⟨part, n, T⟩]) n
def NotePost (P L part T n : Int) (xs : List G3) (w : World) (e : Ending) (w' : World) : Prop :=
  ∃ (zs : List G3) (lv : Int), NoteR part T n (leakL P T xs) zs lv ∧ GivesS (fun v => .tuple #[vG P L v, .bool (decide (L ≤ lv)), .int .i64 0]) 33 3 zs.length (zs.flatMap gC) w e w'

theorem sorted_leak {P T : Int} {xs : List G3} (h : xs.Pairwise fun x y => x.p < y.p) : (leakL P T xs).Pairwise fun x y => x.p < y.p := by
  unfold leakL
  rw [List.pairwise_filterMap]
  refine h.imp fun {a b} hab x hx y hy => ?_
  unfold leakG at hx hy
  split at hx
  · split at hy
    · simp at hx hy; subst hx hy; exact hab
    · cases hy
  · cases hx
theorem leak_in {P T : Int} {xs : List G3} (hok : GOK P T xs) {y : G3} (hy : y ∈ leakL P T xs) : 1 ≤ y.l ∧ y.l ≤ 1048576 ∧ 0 ≤ y.t ∧ y.t ≤ 1099511627776 := by
  unfold leakL at hy
  obtain ⟨x, hx, hxy⟩ := List.mem_filterMap.1 hy
  have h1 := hok.all x hx
  unfold leakG at hxy
  by_cases hT : x.t ≤ T
  · have h2 := leakN_in (P := P) hok.P1 hT
    generalize leakN P T x = q at *
    generalize q * P = m at *
    have := hok.T2
    split at hxy
    · simp at hxy; subst hxy; dsimp only; omega
    · cases hxy
  · have h2 : leakN P T x = 0 := by unfold leakN; rw [if_neg hT]
    rw [h2] at hxy
    split at hxy
    · simp at hxy; subst hxy; dsimp only; omega
    · cases hxy
set_option maxHeartbeats 4000000 in
theorem note_ok {P L part T n : Int} {sa : Option Addr} (c : Nat) {xs : List G3} (hv : rvB P L xs = true) (hpart : 0 ≤ part) (hT : 0 ≤ T ∧ T ≤ 1099511627776) (hn : 1 ≤ n ∧ n ≤ 1048576) (hall : ∀ x ∈ xs, x.t ≤ T)
    (hends : (leakL P T xs).length < 64 ∧ ∀ y ∈ leakL P T xs, y.p ≤ part) (w : World) (hl : Lies w w.heap.size sa 3 xs.length (fun j => gC xs[j]!)) :
    Calls Try.prog 9 #[vG P L (.slice sa xs.length c), .int .i64 part, .int .i64 T, .int .i64 n] w (NotePost P L part T n xs w) := by
  have hv0 := hv
  unfold rvB at hv0
  simp only [Bool.and_eq_true, decide_eq_true_eq] at hv0
  obtain ⟨hok, ⟨⟨hP, hL⟩, hlen⟩⟩ := hv0
  obtain ⟨hsx, hpw⟩ := sorted_of hok
  have hgok : GOK P T xs := ⟨hP.1, hP.2, hT.1, hT.2, by omega, fun x hx => (hsx x hx).2⟩
  have HV := Lib.hid (fun w hl => by have := rvalid_any P L c (xs := xs) (sa := sa) (by omega) w hl; rw [hv] at this; exact this : ∀ w, Lies w w.heap.size sa 3 xs.length (fun j => gC xs[j]!) → Calls Try.prog 12 #[vG P L (.slice sa xs.length c)] w (Gives (.bool true) w))
  have HLK := Lib.hid (fun w (hl : Lies w w.heap.size sa 3 xs.length (fun j => gC xs[j]!)) => leak_ok L c hgok w hl)
  have HW := Lib.hid (fun (a lo hi : Int) (h : lo ≤ a ∧ a ≤ hi) w => by have := within_any a lo hi w; rw [decide_eq_true h] at this; exact this : ∀ (a lo hi : Int), lo ≤ a ∧ a ≤ hi → ∀ w, Calls Try.prog 16 #[.int .i64 a, .int .i64 lo, .int .i64 hi] w (Gives (.bool true) w))
  have hfalse : xs.any (fun x => decide (T < x.t)) = false := by
    rw [List.any_eq_false]; intro x hx; have := hall x hx; simp; omega
  have HL := Lib.hid hl
  have HF := Lib.hid hfalse
  clear hl hv hfalse
  go_enter Try.func9, Try.ntmps9
  have H := HS.start NoD w
  go_wp2_with fail
  refine (HV.out _ (H.alloc.alloc.alloc.liesUp HL.out)).mono ?_
  rintro _ w1 ⟨rfl, hb⟩
  replace H := H.alloc.alloc.alloc.below hb
  clear hb
  try clear C
  try simp only [World.size_alloc, List.nil_append, List.cons_append, List.append_assoc] at H
  generalize w.heap.size + 2 = bR at H ⊢
  generalize w.heap.size + 1 = bT at H ⊢
  generalize w.heap.size = bG at H ⊢
  have C := H.cells
  try simp only [cellsOf, apartOf, and_true] at C
  dsimp only
  go_wp2_with fail
  refine (HW.out _ _ _ hT _).mono ?_
  rintro _ w2 ⟨rfl, hb⟩
  replace H := H.below hb
  clear hb
  try clear C
  try simp only [World.size_alloc, List.nil_append, List.cons_append, List.append_assoc] at H
  try clear w1
  have C := H.cells
  try simp only [cellsOf, apartOf, and_true] at C
  dsimp only
  go_wp2_with fail
  refine (HW.out _ _ _ hn _).mono ?_
  rintro _ w3 ⟨rfl, hb⟩
  replace H := H.below hb
  clear hb
  try clear C
  try simp only [World.size_alloc, List.nil_append, List.cons_append, List.append_assoc] at H
  try clear w2
  have C := H.cells
  try simp only [cellsOf, apartOf, and_true] at C
  dsimp only
  go_wp2_with fail
  have hcc : ∀ w, HS NoD w [] w → True := fun _ _ => trivial
  clear hcc
  have hct : w3.cell? ⟨bT, 0, none⟩ = some (.int .i64 T) := by have := (H.at 1 rfl : Blk _ _ _ _).cell 0; simpa using this
  have hlt : bT < w3.heap.size := Blk.lt (H.at 1 rfl)
  have hcon := containsG 18 (fun _ _ => rfl) #[.pointer (some ⟨bT, 0, none⟩)] (fun x => decide (T < x.t)) c (by omega) w3 (H.liesUp HL.out) (fun W x hb => note1_any x T bT W ((hb.cell (p := ⟨bT, 0, none⟩) hlt).trans hct) (Nat.lt_of_lt_of_le hlt hb.size))
  rw [HF.out] at hcon
  clear hct hlt
  refine (hcon).mono ?_
  rintro _ w4 ⟨rfl, hb⟩
  replace H := H.below hb
  clear hb
  try clear C
  try simp only [World.size_alloc, List.nil_append, List.cons_append, List.append_assoc] at H
  try clear w3
  have C := H.cells
  try simp only [cellsOf, apartOf, and_true] at C
  dsimp only
  go_wp2_with fail
  refine (HLK.out _ (H.liesUp HL.out)).mono ?_
  rintro _ w5 ⟨sb, d, rfl, hr, hb⟩
  replace H := (H).getsRow hb hr
  clear hb hr
  try clear C
  try simp only [World.size_alloc, List.nil_append, List.cons_append, List.append_assoc] at H
  try clear w4
  have C := H.cells
  try simp only [cellsOf, apartOf, and_true] at C
  dsimp only
  have hys := (sorted_leak (P := P) (T := T) hpw)
  have hbd := Lib.hid (fun y hy => leak_in (y := y) hgok hy)
  generalize hye : leakL P T xs = ys at *
  have HYE := Lib.hid hye
  clear hye
  have HYS := Lib.hid hys
  have HE := Lib.hid hends
  have hyl : ys.length < 64 := hends.1
  clear hys hends hcon
  go_upto_region 8 with fail
  generalize hwb : w5.alloc _ = w6
  replace H := HS.eqW hwb H.alloc
  try simp only [World.size_alloc, List.nil_append, List.cons_append, List.append_assoc] at H
  clear hwb
  generalize w5.heap.size = bO at H ⊢
  try clear C
  try clear w5
  have C := H.cells
  try simp only [cellsOf, apartOf, and_true] at C
  go_wp2_with fail
  refine (bsearch_any part d (by omega) HYS.out _ (H.rowLies 3 gC_len rfl rfl)).mono ?_
  rintro _ w7 ⟨i, hi, hlo, hhi, rfl, hb⟩
  replace H := H.below hb
  clear hb
  try clear C
  try simp only [World.size_alloc, List.nil_append, List.cons_append, List.append_assoc] at H
  try clear w6
  have C := H.cells
  try simp only [cellsOf, apartOf, and_true] at C
  dsimp only
  have HLO := Lib.hid hlo
  have HHI := Lib.hid hhi
  clear hlo hhi
  by_cases hfd : i < ys.length ∧ ys[i]!.p = part
  · rw [decide_eq_true hfd]
    have HFD := Lib.hid hfd
    clear hfd
    go_upto_region 11 with fail
    have hi' := HFD.out.1
    have HFP := Lib.hid HFD.out.2
    clear HFD
    obtain ⟨g, rfl, hg, hnd⟩ := ownsRow_ptr (H.at 3 rfl) (by omega)
    obtain ⟨b', o', hbo, hb', hc⟩ := (H.rowLies 3 gC_len rfl rfl).at hi'
    simp only [Option.some.injEq, Addr.mk.injEq, and_true] at hbo
    obtain ⟨rfl, rfl⟩ := hbo
    have hfz := World.ownsRow.frozenAt (H.at 3 rfl) (i * 3 + 1)
    have hxo := HYS.out
    obtain ⟨x, hxi⟩ : ∃ x, x = ys[i]! := ⟨_, rfl⟩
    rw [← hxi] at hc HFP
    have c0 : w7.cell? ⟨g, i * 3, none⟩ = some (.int .i64 x.p) := by simpa using hc 0 _ rfl
    have c1 : w7.cell? ⟨g, i * 3 + 1, none⟩ = some (.int .i64 x.l) := by simpa using hc 1 _ rfl
    have c2 : w7.cell? ⟨g, i * 3 + 2, none⟩ = some (.int .i64 x.t) := by simpa using hc 2 _ rfl
    have HXI := Lib.hid hxi
    have hb3 := hbd.out ys[i]! (by rw [getElem!_pos ys i hi']; exact List.getElem_mem _)
    rw [← hxi] at hb3
    have q1 : wrap64 (x.l + n) = x.l + n := IntWalk.wrap64_in _ (by omega)
    obtain ⟨lv, hlv⟩ : ∃ lv, lv = min (x.l + n) 1048576 := ⟨_, rfl⟩
    have q2 : (if 1048576 < x.l + n then 1048576 else x.l + n) = lv := by rw [hlv]; omega
    have HLV := Lib.hid hlv
    clear hc hxi hxo hlv
    go_region
    try simp only [q1, q2]
    generalize hwb : (World.setCell _ _ _).drew = w8
    have H8 := HS.eqW hwb (H.rowSet 3 rfl (i * 3 + 1) (.int .i64 lv)).drew
    clear H C c0 c1 c2 hwb q1 q2 hfz
    have H := H8
    clear H8
    rw [← flat_set gC_len ys i 1 ⟨part, lv, x.t⟩ (.int .i64 lv) hi' (by decide) (by rw [← HXI.out]; simp [gC, HFP.out])] at H
    simp only [List.nil_append, List.cons_append, List.append_assoc, List.set_cons_succ, List.set_cons_zero] at H
    have hlen2 : (ys.set i ⟨part, lv, x.t⟩).length = ys.length := List.length_set
    obtain ⟨zs, hzs⟩ : ∃ zs, zs = ys.set i ⟨part, lv, x.t⟩ := ⟨_, rfl⟩
    rw [← hzs] at H hlen2
    have hzi : zs[i]! = ⟨part, lv, x.t⟩ := by rw [hzs, getElem!_pos _ i (by rw [List.length_set]; exact hi'), List.getElem_set_self]
    have HR : NoteR part T n ys zs lv := by
      rw [hzs, HLV.out, HXI.out]
      exact .found ys i hi' (by rw [← HXI.out]; exact HFP.out) HYS.out
    have HNR := Lib.hid HR
    clear HR hzs
    rw [← hlen2] at H
    have HLN := Lib.hid hlen2
    obtain ⟨b', o', hbo, hb', hc⟩ := (H.rowLies 3 gC_len rfl rfl).at (show i < zs.length by omega)
    rw [hzi] at hc
    simp only [Option.some.injEq, Addr.mk.injEq, and_true] at hbo
    obtain ⟨rfl, rfl⟩ := hbo
    have c1 : w8.cell? ⟨g, i * 3 + 1, none⟩ = some (.int .i64 lv) := by simpa using hc 1 _ rfl
    clear hc hzi hlen2
    skip
    try clear C
    try simp only [World.size_alloc, List.nil_append, List.cons_append, List.append_assoc] at H
    have C := H.cells
    try simp only [cellsOf, apartOf, and_true] at C
    have e1 : (i : Int) < zs.length := by have := HLN.out; omega
    obtain ⟨n1, n2⟩ := H.rowApart 3 2 rfl rfl (by decide)
    obtain ⟨n3, n4⟩ := H.rowApart 3 4 rfl rfl (by decide)
    go_upto_region 14 with fail
    go_region
    generalize hwb : (World.setCell _ _ _).drew = w9
    have H9 := HS.eqW hwb (H.putAll (i := 2) rfl (vs := [.int .i64 P, .int .i64 L, .slice (some ⟨g, 0, none⟩) zs.length d]) rfl rfl).drew
    clear H C c1 hwb n1 n2 n3 n4
    have H := H9
    clear H9
    simp only [List.nil_append, List.cons_append, List.append_assoc, List.set_cons_succ, List.set_cons_zero] at H
    skip
    try clear C
    try simp only [World.size_alloc, List.nil_append, List.cons_append, List.append_assoc] at H
    have C := H.cells
    try simp only [cellsOf, apartOf, and_true] at C
    go_wp2_with fail
    refine bodyPost_ret (by simp [results, Try.results9, go_sem, C]; try rfl) rfl ?_
    exact ⟨zs, lv, by rw [HYE.out]; exact HNR.out, H.givesS 3 (mk := fun v => .tuple #[vG P L v, .bool (decide (L ≤ lv)), .int .i64 0]) rfl⟩
  · rw [decide_eq_false hfd]
    have hil : i = ys.length := by
      rcases Nat.lt_or_ge i ys.length with h | h
      · refine absurd ⟨h, ?_⟩ hfd
        have h1 := HHI.out i (Nat.le_refl _) h
        have h2 := HE.out.2 ys[i]! (by rw [getElem!_pos ys i h]; exact List.getElem_mem _)
        omega
      · omega
    have HLT : Hid (∀ y ∈ ys, y.p < part) := fun y hy => by
      obtain ⟨k, hk, rfl⟩ := List.getElem_of_mem hy
      have := HLO.out k (by omega)
      rwa [getElem!_pos ys k hk] at this
    clear hfd
    subst hil
    skip
    go_wp2_with fail
    refine (insert_end (cs := ys.flatMap gC) (x := ⟨part, n, T⟩) (by omega) _ (H.alloc.at 3 rfl) (H.alloc.at 5 rfl)).mono ?_
    rintro _ w9 ⟨g, cap, rfl, h2, h3, h4⟩
    replace H := H.alloc.grewAt 3 rfl h2 h3 h4
    clear h2 h3 h4
    simp only [List.nil_append, List.cons_append, List.append_assoc, List.set_cons_succ, List.set_cons_zero] at H
    skip
    try clear C
    try simp only [World.size_alloc, List.nil_append, List.cons_append, List.append_assoc] at H
    have C := H.cells
    try simp only [cellsOf, apartOf, and_true] at C
    have hzz : ys.flatMap gC ++ gC (⟨part, n, T⟩ : G3) = (ys ++ [(⟨part, n, T⟩ : G3)]).flatMap gC := by simp
    rw [hzz] at H
    have HR : NoteR part T n ys (ys ++ [⟨part, n, T⟩]) n := .last ys HLT.out hyl
    have hzl : (ys ++ [(⟨part, n, T⟩ : G3)]).length = ys.length + 1 := by simp
    have hzi : (ys ++ [(⟨part, n, T⟩ : G3)])[ys.length]! = ⟨part, n, T⟩ := by rw [getElem!_pos _ _ (by simp)]; simp
    obtain ⟨zs, hzs⟩ : ∃ zs, zs = ys ++ [(⟨part, n, T⟩ : G3)] := ⟨_, rfl⟩
    rw [← hzs] at H HR hzl hzi
    have HNR := Lib.hid HR
    rw [← hzl] at H
    have HZL := Lib.hid hzl
    have HZI := Lib.hid hzi
    clear HR hzs hzz hzi
    rw [← hzl]
    clear hzl
    go_upto_region 14 with fail
    generalize hwb : World.setCell _ _ _ = wa
    have H9 := HS.eqW hwb (H.setTo (o := 2) (v := .slice (some ⟨g, 0, none⟩) zs.length cap) 4 rfl rfl)
    clear H C hwb
    have H := H9
    clear H9
    simp only [List.nil_append, List.cons_append, List.append_assoc, List.set_cons_succ, List.set_cons_zero] at H
    skip
    try clear C
    try simp only [World.size_alloc, List.nil_append, List.cons_append, List.append_assoc] at H
    have C := H.cells
    try simp only [cellsOf, apartOf, and_true] at C
    obtain ⟨b', o', hbo, hb', hc⟩ := (H.rowLies 3 gC_len rfl rfl).at (show ys.length < zs.length by have := HZL.out; omega)
    rw [HZI.out] at hc
    simp only [Option.some.injEq, Addr.mk.injEq, and_true] at hbo
    obtain ⟨rfl, rfl⟩ := hbo
    have c1 : wa.cell? ⟨g, ys.length * 3 + 1, none⟩ = some (.int .i64 n) := by simpa using hc 1 _ rfl
    have e1 : (ys.length : Int) < zs.length := by have := HZL.out; omega
    obtain ⟨n1, n2⟩ := H.rowApart 3 2 rfl rfl (by decide)
    obtain ⟨n3, n4⟩ := H.rowApart 3 4 rfl rfl (by decide)
    clear hc
    go_region
    generalize hwb : (World.setCell _ _ _).drew = wb
    have H9 := HS.eqW hwb (H.putAll (i := 2) rfl (vs := [.int .i64 P, .int .i64 L, .slice (some ⟨g, 0, none⟩) zs.length cap]) rfl rfl).drew
    clear H C c1 hwb n1 n2 n3 n4
    have H := H9
    clear H9
    simp only [List.nil_append, List.cons_append, List.append_assoc, List.set_cons_succ, List.set_cons_zero] at H
    skip
    try clear C
    try simp only [World.size_alloc, List.nil_append, List.cons_append, List.append_assoc] at H
    have C := H.cells
    try simp only [cellsOf, apartOf, and_true] at C
    go_wp2_with fail
    refine bodyPost_ret (by simp [results, Try.results9, go_sem, C]; try rfl) rfl ?_
    exact ⟨zs, n, by rw [HYE.out]; exact HNR.out, H.givesS 3 (mk := fun v => .tuple #[vG P L v, .bool (decide (L ≤ n)), .int .i64 0]) rfl⟩
end Go.Proofs.Ytdcieajdgmopkaa
