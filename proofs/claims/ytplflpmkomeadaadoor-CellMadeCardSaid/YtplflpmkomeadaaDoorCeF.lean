/- Searches of faults; what is asked of a memory that is valid. -/
import Derived.Test.YtplflpmkomeadaaDoorCeE
import Derived.Test.YtplflpmkomeadaaDoorK6
import Derived.Test.YtplflpmkomeadaaDoorCovA
namespace Go.Proofs.YtplflpmkomeadaaDoor
set_option linter.unusedSimpArgs false
set_option linter.unusedVariables false
open Go.RowKit
set_option maxRecDepth 100000
attribute [local irreducible] wpX wpF Calls

/-- Where a fault lies in a list. -/
def FindF (f : Fa) (fs : List Fa) (r : Int) : Prop := (r = -1 ∧ ∀ i, i < fs.length → fs[i]! ≠ f) ∨ ∃ i : Nat, i < fs.length ∧ r = i ∧ fs[i]! = f ∧ ∀ j, j < i → fs[j]! ≠ f
def FindPostCf (f : Fa) (fs : List Fa) (w : World) (e : Ending) (w' : World) : Prop := ∃ r : Int, e = .returned (.int .i64 r) ∧ FindF f fs r ∧ Below w.heap.size w w'
theorem fa_mem {fs : List Fa} {i : Nat} (h : i < fs.length) : fs[i]! ∈ fs := by
  rw [getElem!_pos fs i h]; exact List.getElem_mem h
theorem mem_fa {fs : List Fa} {f : Fa} (h : f ∈ fs) : ∃ i, i < fs.length ∧ fs[i]! = f := by
  obtain ⟨i, hi, e⟩ := List.mem_iff_getElem.1 h
  exact ⟨i, hi, by rw [getElem!_pos fs i hi]; exact e⟩
theorem FindF.mem {f : Fa} {fs : List Fa} {r : Int} (h : FindF f fs r) : decide (0 ≤ r) = decide (f ∈ fs) := by
  rcases h with ⟨rfl, h⟩ | ⟨i, hi, rfl, h, -⟩
  · rw [decide_eq_false (by omega), decide_eq_false]
    intro hm
    obtain ⟨i, hi, e⟩ := mem_fa hm
    exact h i hi e
  · rw [decide_eq_true (by omega), decide_eq_true]
    rw [← h]; exact fa_mem hi
set_option maxHeartbeats 4000000 in
theorem indexCf (f : Fa) {sa : Option Addr} (c : Nat) {fs : List Fa} (hx : fs.length ≤ 9223372036854775807) (w : World) (hl : Lies w w.heap.size sa 11 fs.length (fun j => cfC fs[j]!)) :
    Calls Tryd.prog 59 #[.slice sa fs.length c, cfV f] w (FindPostCf f fs w) := by
  have HL := Lib.hid hl
  clear hl
  obtain ⟨k, p0, p1, p2, p3, p4, p5, ch, ms, vl, hd⟩ := f
  show Calls Tryd.prog 59 #[.slice sa fs.length c, .agg #[.int .i64 k, .int .i64 p0, .int .i64 p1, .int .i64 p2, .int .i64 p3, .int .i64 p4, .int .i64 p5, .int .i64 ch, .int .u8 ms, .int .u8 vl, .bool hd]] w _
  go_enter Tryd.func59, Tryd.ntmps59
  have H := HS.start NoD w
  go_upto_region 1 with fail
  generalize hwb : w.alloc _ = w1
  replace H := HS.eqW hwb H.alloc
  try simp only [World.size_alloc, List.nil_append, List.cons_append, List.append_assoc] at H
  clear hwb
  generalize w.heap.size = bV at H ⊢
  try clear C
  have C := H.cells
  try simp only [cellsOf, cellsM, apartOf, apartM, and_true] at C
  go_wp2_with fail
  go_loopw [5, 8] (fun _ i wr => ∃ (j : Nat), i = .int .i64 j ∧ j ≤ fs.length ∧ Hid (∀ i, i < j → fs[i]! ≠ ⟨k, p0, p1, p2, p3, p4, p5, ch, ms, vl, hd⟩) ∧ HS NoD w [.blk bV #[.int .i64 k, .int .i64 p0, .int .i64 p1, .int .i64 p2, .int .i64 p3, .int .i64 p4, .int .i64 p5, .int .i64 ch, .int .u8 ms, .int .u8 vl, .bool hd] 38] wr) (fun _ i _ => fs.length - (intOf i).toNat)
  case atStart => exact ⟨0, rfl, Nat.zero_le _, (show Hid _ from fun i hi => absurd hi (Nat.not_lt_zero _)), H⟩
  case round =>
    clear H C
    obtain ⟨j, rfl, hj, HF, H⟩ := hrel
    skip
    try clear C
    try simp only [World.size_alloc, List.nil_append, List.cons_append, List.append_assoc] at H
    have C := H.cells
    try simp only [cellsOf, cellsM, apartOf, apartM, and_true] at C
    by_cases hlt : j < fs.length
    · obtain ⟨b, o, rfl, hb, hc⟩ := (H.lies HL.out).at hlt
      have hji : (j : Int) < fs.length := by omega
      have HX := Lib.hid (show fs[j]! = fs[j]! from rfl)
      have HLF := Lib.hid (fun (wx : World) (hx : Lies wx wx.heap.size (some ⟨b, o, none⟩) 11 fs.length (fun j => cfC fs[j]!)) => show (∀ i v, (cfC fs[j]!)[i]? = some v → wx.cell? ⟨b, o + j * 11 + i, none⟩ = some v) ∧ b < wx.heap.size from by
        obtain ⟨b9, o9, e9, hb9, h9⟩ := hx.at hlt
        cases e9
        exact ⟨h9, hb9⟩)
      obtain ⟨g, hg⟩ : ∃ g, g = fs[j]! := ⟨_, rfl⟩
      have HG := Lib.hid hg
      rw [← hg] at HLF
      clear hc HX hg
      have heq := fun w => eqlF ⟨k, p0, p1, p2, p3, p4, p5, ch, ms, vl, hd⟩ g w
      by_cases hfg : (⟨k, p0, p1, p2, p3, p4, p5, ch, ms, vl, hd⟩ : Fa) = g
      · rw [decide_eq_true hfg] at heq
        have HQ := Lib.hid hfg.symm
        clear hfg
        obtain ⟨k', p0', p1', p2', p3', p4', p5', ch', ms', vl', hd'⟩ := g
        simp only [cfC] at heq
        go_upto_region 4 with fail
        refine wp_region_xH (by kernel_rfl) (by kernel_rfl) (by kernel_rfl) (by kernel_rfl) (fun _ => False) (H) ?_
        clear H; intro w2 H hz0 hs0
        try clear C
        try simp only [World.size_alloc, List.nil_append, List.cons_append, List.append_assoc] at H hz0
        clear hz0
        try clear wr
        have C := H.cells
        try simp only [cellsOf, cellsM, apartOf, apartM, and_true] at C
        have Z := H.zs
        try simp only [ltsOf, ltsM, and_true] at Z
        have hz0 := Nat.le_refl w2.heap.size
        obtain ⟨hcq, hbq⟩ := HLF.out _ (H.liesUp HL.out)
        have c0 : w2.cell? ⟨b, o + j * 11, none⟩ = some (.int .i64 k') := hcq 0 _ rfl
        have c1 : w2.cell? ⟨b, o + j * 11 + 1, none⟩ = some (.int .i64 p0') := hcq 1 _ rfl
        have c2 : w2.cell? ⟨b, o + j * 11 + 2, none⟩ = some (.int .i64 p1') := hcq 2 _ rfl
        have c3 : w2.cell? ⟨b, o + j * 11 + 3, none⟩ = some (.int .i64 p2') := hcq 3 _ rfl
        have c4 : w2.cell? ⟨b, o + j * 11 + 4, none⟩ = some (.int .i64 p3') := hcq 4 _ rfl
        have c5 : w2.cell? ⟨b, o + j * 11 + 5, none⟩ = some (.int .i64 p4') := hcq 5 _ rfl
        have c6 : w2.cell? ⟨b, o + j * 11 + 6, none⟩ = some (.int .i64 p5') := hcq 6 _ rfl
        have c7 : w2.cell? ⟨b, o + j * 11 + 7, none⟩ = some (.int .i64 ch') := hcq 7 _ rfl
        have c8 : w2.cell? ⟨b, o + j * 11 + 8, none⟩ = some (.int .u8 ms') := hcq 8 _ rfl
        have c9 : w2.cell? ⟨b, o + j * 11 + 9, none⟩ = some (.int .u8 vl') := hcq 9 _ rfl
        have c10 : w2.cell? ⟨b, o + j * 11 + 10, none⟩ = some (.bool hd') := hcq 10 _ rfl
        clear hcq
        repeat (first | (refine wpX_skip rfl ?_; go_simp) | (refine wpX_free rfl rfl rfl (fun K hK => ?_); go_step; refine hK _ _ ?_; clear hK K) | (refine wpX_load rfl rfl rfl (by simp [Stay, OneD, NoD, *]) hs0 (by simp [*]) (fun K hK => ?_); go_step; refine hK _ _ ?_; clear hK K))
        (refine wpX_yield rfl rfl ((.bool true)) (fun w hw => by go_simp) ?_; go_simp)
        repeat (first | (refine wpX_skip rfl ?_; go_simp) | (refine wpX_free rfl rfl rfl (fun K hK => ?_); go_step; refine hK _ _ ?_; clear hK K) | (refine wpX_load rfl rfl rfl (by simp [Stay, OneD, NoD, *]) hs0 (by simp [*]) (fun K hK => ?_); go_step; refine hK _ _ ?_; clear hK K))
        (refine wpX_nil ?_; go_step)
        go_wp2_with fail
        go_ret
        exact ⟨_, rfl, .inr ⟨j, hlt, rfl, by rw [← HG.out]; exact HQ.out, HF.out⟩, H.done⟩
      · rw [decide_eq_false hfg] at heq
        have HQ := Lib.hid (show g ≠ (⟨k, p0, p1, p2, p3, p4, p5, ch, ms, vl, hd⟩ : Fa) from fun h => hfg h.symm)
        clear hfg
        obtain ⟨k', p0', p1', p2', p3', p4', p5', ch', ms', vl', hd'⟩ := g
        simp only [cfC] at heq
        skip
        go_upto_region 4 with fail
        refine wp_region_xH (by kernel_rfl) (by kernel_rfl) (by kernel_rfl) (by kernel_rfl) (fun _ => False) (H) ?_
        clear H; intro w3 H hz0 hs0
        try clear C
        try simp only [World.size_alloc, List.nil_append, List.cons_append, List.append_assoc] at H hz0
        clear hz0
        try clear wr
        have C := H.cells
        try simp only [cellsOf, cellsM, apartOf, apartM, and_true] at C
        have Z := H.zs
        try simp only [ltsOf, ltsM, and_true] at Z
        have hz0 := Nat.le_refl w3.heap.size
        obtain ⟨hcq, hbq⟩ := HLF.out _ (H.liesUp HL.out)
        have c0 : w3.cell? ⟨b, o + j * 11, none⟩ = some (.int .i64 k') := hcq 0 _ rfl
        have c1 : w3.cell? ⟨b, o + j * 11 + 1, none⟩ = some (.int .i64 p0') := hcq 1 _ rfl
        have c2 : w3.cell? ⟨b, o + j * 11 + 2, none⟩ = some (.int .i64 p1') := hcq 2 _ rfl
        have c3 : w3.cell? ⟨b, o + j * 11 + 3, none⟩ = some (.int .i64 p2') := hcq 3 _ rfl
        have c4 : w3.cell? ⟨b, o + j * 11 + 4, none⟩ = some (.int .i64 p3') := hcq 4 _ rfl
        have c5 : w3.cell? ⟨b, o + j * 11 + 5, none⟩ = some (.int .i64 p4') := hcq 5 _ rfl
        have c6 : w3.cell? ⟨b, o + j * 11 + 6, none⟩ = some (.int .i64 p5') := hcq 6 _ rfl
        have c7 : w3.cell? ⟨b, o + j * 11 + 7, none⟩ = some (.int .i64 ch') := hcq 7 _ rfl
        have c8 : w3.cell? ⟨b, o + j * 11 + 8, none⟩ = some (.int .u8 ms') := hcq 8 _ rfl
        have c9 : w3.cell? ⟨b, o + j * 11 + 9, none⟩ = some (.int .u8 vl') := hcq 9 _ rfl
        have c10 : w3.cell? ⟨b, o + j * 11 + 10, none⟩ = some (.bool hd') := hcq 10 _ rfl
        clear hcq
        repeat (first | (refine wpX_skip rfl ?_; go_simp) | (refine wpX_free rfl rfl rfl (fun K hK => ?_); go_step; refine hK _ _ ?_; clear hK K) | (refine wpX_load rfl rfl rfl (by simp [Stay, OneD, NoD, *]) hs0 (by simp [*]) (fun K hK => ?_); go_step; refine hK _ _ ?_; clear hK K))
        (refine wpX_yield rfl rfl ((.bool false)) (fun w hw => by go_simp) ?_; go_simp)
        repeat (first | (refine wpX_skip rfl ?_; go_simp) | (refine wpX_free rfl rfl rfl (fun K hK => ?_); go_step; refine hK _ _ ?_; clear hK K) | (refine wpX_load rfl rfl rfl (by simp [Stay, OneD, NoD, *]) hs0 (by simp [*]) (fun K hK => ?_); go_step; refine hK _ _ ?_; clear hK K))
        (refine wpX_nil ?_; go_step)
        go_wp2_with fail
        go_roundw
        case rel =>
          refine ⟨j + 1, by go_num, by omega, (show Hid _ from fun i hi => ?_), H⟩
          by_cases e : i = j
          · subst e; rw [← HG.out]; exact HQ.out
          · exact HF.out i (by omega)
        case measure => simp [intOf]; omega
    · skip
      go_wp2_with fail
      go_ret
      exact ⟨-1, rfl, .inl ⟨rfl, fun i hi => HF.out i (by omega)⟩, H.done⟩
theorem containsCf (f : Fa) {sa : Option Addr} (c : Nat) {fs : List Fa} (hx : fs.length ≤ 9223372036854775807) (w : World) (hl : Lies w w.heap.size sa 11 fs.length (fun j => cfC fs[j]!)) :
    Calls Tryd.prog 45 #[.slice sa fs.length c, cfV f] w (Gives (.bool (decide (f ∈ fs))) w) := by
  have HF := Lib.hid (fun wx hx9 => indexCf f (sa := sa) c hx wx hx9)
  have HL := Lib.hid hl
  clear hl
  obtain ⟨k, p0, p1, p2, p3, p4, p5, ch, ms, vl, hd⟩ := f
  replace HF := Lib.hid (fun wx hx9 => (show Calls Tryd.prog 59 #[.slice sa fs.length c, .agg #[.int .i64 k, .int .i64 p0, .int .i64 p1, .int .i64 p2, .int .i64 p3, .int .i64 p4, .int .i64 p5, .int .i64 ch, .int .u8 ms, .int .u8 vl, .bool hd]] wx (FindPostCf ⟨k, p0, p1, p2, p3, p4, p5, ch, ms, vl, hd⟩ fs wx) from HF.out wx hx9))
  show Calls Tryd.prog 45 #[.slice sa fs.length c, .agg #[.int .i64 k, .int .i64 p0, .int .i64 p1, .int .i64 p2, .int .i64 p3, .int .i64 p4, .int .i64 p5, .int .i64 ch, .int .u8 ms, .int .u8 vl, .bool hd]] w _
  go_enter Tryd.func45, Tryd.ntmps45
  have H := HS.start NoD w
  go_upto_region 1 with fail
  generalize hwb : w.alloc _ = w1
  replace H := HS.eqW hwb H.alloc
  try simp only [World.size_alloc, List.nil_append, List.cons_append, List.append_assoc] at H
  clear hwb
  generalize w.heap.size = bV at H ⊢
  try clear C
  have C := H.cells
  try simp only [cellsOf, cellsM, apartOf, apartM, and_true] at C
  go_wp2_with fail
  refine (HF.out _ (H.liesUp HL.out)).mono ?_
  rintro _ w2 ⟨r, rfl, hr, hb⟩
  replace H := H.below hb
  have HR := Lib.hid hr.mem
  clear hb HF hr
  skip
  try clear C
  try simp only [World.size_alloc, List.nil_append, List.cons_append, List.append_assoc] at H
  have C := H.cells
  try simp only [cellsOf, cellsM, apartOf, apartM, and_true] at C
  go_wp2_with fail
  go_ret
  exact ⟨by rw [← HR.out]; first | rfl | go_simp, H.done⟩
/-- Is the word j of a list what a valid memory holds there? -/
def wokB (size n : Nat) (ws : List Wm) (j : Nat) : Bool := decide (0 ≤ (ws[j]!).ix ∧ (ws[j]!).ix < size) && decide ((ws[j]!).bs.length = n) && !blankW ws[j]! && (decide (j = 0) || decide ((ws[j - 1]!).ix < (ws[j]!).ix))
def vfF (m : Mm) (n : Int) (f : Fa) : Bool := vfAll m.s0 m.s1 m.s2 m.s3 m.s4 m.s5 n f.k f.p0 f.p1 f.p2 f.p3 f.p4 f.p5 f.ch f.ms f.vl f.hd
def fokB (m : Mm) (n : Int) (fs : List Fa) (j : Nat) : Bool := (fs[j]!).hd && vfF m n fs[j]! && !decide (fs[j]! ∈ fs.take j)
abbrev svM (m : Mm) : Prop := SV m.s0 m.s1 m.s2 m.s3 m.s4 m.s5
abbrev szM (m : Mm) : Nat := sizeN m.s0 m.s1 m.s2 m.s3 m.s4 m.s5
def coM (m : Mm) : Bool := codeB m.kd m.dt m.ck m.fx
/-- Which memories are valid. -/
def goodB (m : Mm) : Bool := decide (svM m) && coM m && decide (m.fs.length ≤ 64) && (List.range m.ws.length).all (wokB (szM m) (m.dt + m.ck).toNat m.ws) && (List.range m.fs.length).all (fokB m (m.dt + m.ck) m.fs)
theorem range_all {p : Nat → Bool} {n : Nat} : (List.range n).all p = true ↔ ∀ i, i < n → p i = true := by
  rw [List.all_eq_true]; exact ⟨fun h i hi => h i (List.mem_range.2 hi), fun h i hi => h i (List.mem_range.1 hi)⟩
theorem range_no {p : Nat → Bool} {n i : Nat} (hi : i < n) (h : p i = false) : (List.range n).all p = false := by
  rw [List.all_eq_false]; exact ⟨i, List.mem_range.2 hi, by rw [h]; simp⟩
theorem goodB_no {m : Mm} (h : ¬ (svM m ∧ coM m = true ∧ m.fs.length ≤ 64)) : goodB m = false := by
  unfold goodB
  by_cases h1 : svM m
  · by_cases h2 : coM m = true
    · have h3 : ¬ m.fs.length ≤ 64 := fun h3 => h ⟨h1, h2, h3⟩
      rw [decide_eq_false h3]; simp
    · have : coM m = false := by cases h9 : coM m <;> simp_all
      rw [this]; simp
  · rw [decide_eq_false h1]; simp
theorem goodB_w {m : Mm} {i : Nat} (hi : i < m.ws.length) (h : wokB (szM m) (m.dt + m.ck).toNat m.ws i = false) : goodB m = false := by
  unfold goodB; rw [range_no hi h]; simp
theorem goodB_f {m : Mm} {i : Nat} (hi : i < m.fs.length) (h : fokB m (m.dt + m.ck) m.fs i = false) : goodB m = false := by
  unfold goodB; rw [range_no hi h]; simp
theorem goodB_yes {m : Mm} (h1 : svM m) (h2 : coM m = true) (h3 : m.fs.length ≤ 64) (h4 : ∀ i, i < m.ws.length → wokB (szM m) (m.dt + m.ck).toNat m.ws i = true) (h5 : ∀ i, i < m.fs.length → fokB m (m.dt + m.ck) m.fs i = true) : goodB m = true := by
  unfold goodB; rw [decide_eq_true h1, h2, decide_eq_true h3, range_all.2 h4, range_all.2 h5]; rfl
/-- The same in plain words. -/
structure GoodM (m : Mm) : Prop where
  sv : svM m
  co : coM m = true
  fl : m.fs.length ≤ 64
  ws : GoodWs (szM m) (m.dt + m.ck).toNat m.ws
  fs : ∀ f ∈ m.fs, f.hd = true ∧ vfF m (m.dt + m.ck) f = true
  nd : m.fs.Nodup
theorem wokB_all {size n : Nat} {ws : List Wm} (h : ∀ i, i < ws.length → wokB size n ws i = true) : GoodWs size n ws := by
  have hk : ∀ i, i < ws.length → (0 ≤ (ws[i]!).ix ∧ (ws[i]!).ix < size) ∧ (ws[i]!).bs.length = n ∧ blankW ws[i]! = false ∧ (i = 0 ∨ (ws[i - 1]!).ix < (ws[i]!).ix) := fun i hi => by
    have := h i hi
    unfold wokB at this
    simpa [Bool.and_eq_true, and_assoc] using this
  have hm : ∀ m ∈ ws, ∃ i, i < ws.length ∧ ws[i]! = m := fun m hm => by
    obtain ⟨i, hi, e⟩ := List.mem_iff_getElem.1 hm
    exact ⟨i, hi, by rw [getElem!_pos ws i hi]; exact e⟩
  have hup : ∀ (d i : Nat), i + d + 1 < ws.length → (ws[i]!).ix < (ws[i + d + 1]!).ix := fun d => by
    induction d with
    | zero =>
      intro i hi
      rcases (hk (i + 1) hi).2.2.2 with e | e
      · omega
      · exact e
    | succ d ih =>
      intro i hi
      have h1 := ih i (by omega)
      rcases (hk (i + d + 1 + 1) hi).2.2.2 with e | e
      · omega
      · have e2 : (ws[i + d + 1]!).ix < (ws[i + d + 1 + 1]!).ix := e
        show (ws[i]!).ix < (ws[i + (d + 1) + 1]!).ix
        rw [show i + (d + 1) + 1 = i + d + 1 + 1 by omega]
        omega
  refine ⟨?_, fun m hm9 => ?_, fun m hm9 => ?_, fun m hm9 => ?_⟩
  · rw [List.pairwise_iff_getElem]
    intro i j hi hj hij
    have := hup (j - i - 1) i (by omega)
    rw [show i + (j - i - 1) + 1 = j by omega, getElem!_pos ws i hi, getElem!_pos ws j hj] at this
    exact this
  · obtain ⟨i, hi, rfl⟩ := hm m hm9; exact (hk i hi).1
  · obtain ⟨i, hi, rfl⟩ := hm m hm9; exact (hk i hi).2.1
  · obtain ⟨i, hi, rfl⟩ := hm m hm9; exact (hk i hi).2.2.1
theorem GoodWs.wok {size n : Nat} {ws : List Wm} (h : GoodWs size n ws) {i : Nat} (hi : i < ws.length) : wokB size n ws i = true := by
  have hm : ws[i]! ∈ ws := by rw [getElem!_pos ws i hi]; exact List.getElem_mem hi
  unfold wokB
  rw [decide_eq_true (h.rng _ hm), decide_eq_true (h.len _ hm), h.nb _ hm]
  by_cases h0 : i = 0
  · rw [decide_eq_true h0]; rfl
  · have := (List.pairwise_iff_getElem.1 h.up) (i - 1) i (by omega) hi (by omega)
    rw [← getElem!_pos ws i hi, ← getElem!_pos ws (i - 1) (by omega)] at this
    rw [decide_eq_true this]; simp
theorem goodB_iff {m : Mm} : goodB m = true ↔ GoodM m := by
  constructor
  · intro h
    unfold goodB at h
    simp only [Bool.and_eq_true, decide_eq_true_eq] at h
    obtain ⟨⟨⟨⟨h1, h2⟩, h3⟩, h4⟩, h5⟩ := h
    have h6 := range_all.1 h5
    have hk : ∀ i, i < m.fs.length → (m.fs[i]!).hd = true ∧ vfF m (m.dt + m.ck) m.fs[i]! = true ∧ m.fs[i]! ∉ m.fs.take i := fun i hi => by
      have := h6 i hi
      unfold fokB at this
      simpa [Bool.and_eq_true, and_assoc] using this
    refine ⟨h1, h2, h3, wokB_all (range_all.1 h4), fun f hf => ?_, ?_⟩
    · obtain ⟨i, hi, rfl⟩ := mem_fa hf
      exact ⟨(hk i hi).1, (hk i hi).2.1⟩
    · rw [List.nodup_iff_pairwise_ne, List.pairwise_iff_getElem]
      intro i j hi hj hij e
      refine (hk j hj).2.2 ?_
      rw [getElem!_pos m.fs j hj, ← e]
      exact List.mem_iff_getElem.2 ⟨i, by rw [List.length_take]; omega, by rw [List.getElem_take]⟩
  · rintro ⟨h1, h2, h3, h4, h5, h6⟩
    refine goodB_yes h1 h2 h3 (fun i hi => h4.wok hi) fun i hi => ?_
    unfold fokB
    have := h5 _ (fa_mem hi)
    rw [this.1, this.2, decide_eq_false]
    · rfl
    · intro hm
      obtain ⟨j, hj, e⟩ := List.mem_iff_getElem.1 hm
      rw [List.length_take] at hj
      rw [List.getElem_take] at e
      rw [List.nodup_iff_pairwise_ne, List.pairwise_iff_getElem] at h6
      refine h6 j i (by omega) hi (by omega) ?_
      rw [e, getElem!_pos m.fs i hi]
end Go.Proofs.YtplflpmkomeadaaDoor
