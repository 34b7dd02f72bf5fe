/- cell.flip: bits turned over in the words that a fault covers, two ascending lists merged. -/
import Derived.Test.YtplflpmkomeadaaDoorCeT
namespace Go.Proofs.YtplflpmkomeadaaDoor
set_option linter.unusedSimpArgs false
set_option linter.unusedVariables false
open Go.RowKit
set_option maxRecDepth 100000
attribute [local irreducible] wpX wpF Calls

theorem HS.ge {W w : World} {L : List Item} (h : HS NoD W L w) {A : Item} (hA : A ∈ L) {k : Nat} (hk : A.fp k) : W.heap.size ≤ k := by
  rcases h.own A hA k hk with h1 | h1
  · exact h1
  · exact h1.elim
def sliceLen : Value → Nat
  | .slice _ n _ => n
  | _ => 0
theorem lies_sub9 {w : World} {B b o k n : Nat} {f : Nat → List Value} (h : Lies w B (some ⟨b, o, none⟩) k n f) {lo m : Nat} (hm : lo + m ≤ n) : Lies w B (some ⟨b, o + lo * k, none⟩) k m (fun j => f (lo + j)) := fun j hj => by
  obtain ⟨b', o', e, h1, h2⟩ := h (lo + j) (by omega)
  obtain ⟨rfl, rfl⟩ : b = b' ∧ o = o' := by simpa using e
  refine ⟨b, _, rfl, h1, fun i u hu => ?_⟩
  rw [show o + lo * k + j * k + i = o + (lo + j) * k + i by rw [Nat.add_mul]; omega]
  exact h2 i u hu
theorem CwLie.tail {w : World} {b o rc : Nat} {ad : Addr} {q : Wm × Sv} {qt : List (Wm × Sv)} (h : CwLie w ⟨some ⟨b, o, none⟩, (q :: qt).length, rc⟩ (q :: qt)) (had : rc ≠ 1 → ad = ⟨b, o + 3, none⟩) : CwLie w ⟨some ad, qt.length, rc - 1⟩ qt := by
  obtain ⟨h1, h2, h3, h4⟩ := h
  have h21 : (q :: qt).length ≤ rc := h2.1
  rw [List.length_cons] at h21
  refine ⟨rfl, ⟨by show qt.length ≤ rc - 1; omega, fun e => by cases e⟩, ?_, fun x hx => h4 x (List.mem_cons_of_mem _ hx)⟩
  by_cases e : rc = 1
  · have : qt = [] := List.eq_nil_of_length_eq_zero (by omega)
    subst this
    exact fun j hj => absurd hj (Nat.not_lt_zero _)
  · rw [had e]
    have h9 := lies_sub9 h3 (lo := 1) (m := qt.length) (by rw [List.length_cons]; omega)
    intro j hj
    obtain ⟨b', o', e1, e2, e3⟩ := h9 j hj
    refine ⟨b', o', by simpa using e1, e2, fun i u hu => e3 i u ?_⟩
    dsimp only
    rw [Nat.add_comm 1 j]
    exact hu
/-- Two ascending lists under way. -/
def FlI (n : Nat) (c ms : Int) (L : List Nat) (ws : List Wm) (j : Nat) (os qr : List Wm) : Prop := os ++ qr = flipL n c ms (L.take j) ws ∧ ∀ m ∈ os, ∀ t, j ≤ t → t < L.length → m.ix < (L[t]! : Nat)
theorem FlI.start {n : Nat} {c ms : Int} {L : List Nat} {ws qr : List Wm} (h : qr = ws) : FlI n c ms L ws 0 [] qr := ⟨h, fun m hm => absurd hm List.not_mem_nil⟩
theorem FlI.good {size n : Nat} {c ms : Int} {L : List Nat} {ws : List Wm} {j : Nat} {os qr : List Wm} (h : FlI n c ms L ws j os qr) (hw : GoodWs size n ws) (hL : ∀ i ∈ L, i < size) : GoodWs size n (os ++ qr) := by
  rw [h.1]; exact hw.flip c ms _ fun i hi => hL i (List.mem_of_mem_take hi)
theorem FlI.len {size n : Nat} {c ms : Int} {L : List Nat} {ws : List Wm} {j : Nat} {os qr : List Wm} (h : FlI n c ms L ws j os qr) (hw : GoodWs size n ws) (hL : ∀ i ∈ L, i < size) : os.length + qr.length ≤ size := by
  have := (h.good hw hL).len_le
  rwa [List.length_append] at this
theorem FlI.head {size n : Nat} {c ms : Int} {L : List Nat} {ws : List Wm} {j : Nat} {os : List Wm} {q : Wm} {qt : List Wm} (h : FlI n c ms L ws j os (q :: qt)) (hw : GoodWs size n ws) (hL : ∀ i ∈ L, i < size) : ∀ m ∈ qt, q.ix < m.ix := by
  have h1 := (List.pairwise_append.1 (h.good hw hL).up).2.1
  exact (List.pairwise_cons.1 h1).1
theorem up_le {L : List Nat} (hup : L.Pairwise (· < ·)) {j t : Nat} (hjt : j ≤ t) (ht : t < L.length) : L[j]! ≤ L[t]! := by
  rcases Nat.eq_or_lt_of_le hjt with rfl | h
  · exact Nat.le_refl _
  · have := List.pairwise_iff_getElem.1 hup j t (by omega) ht h
    rw [getElem!_pos L j (by omega), getElem!_pos L t ht]; omega
theorem FlI.move {n : Nat} {c ms : Int} {L : List Nat} {ws : List Wm} {j : Nat} {os : List Wm} {q : Wm} {qt : List Wm} (h : FlI n c ms L ws j os (q :: qt)) (hup : L.Pairwise (· < ·)) (hj : j < L.length) (hlt : q.ix < (L[j]! : Nat)) : FlI n c ms L ws j (os ++ [q]) qt := by
  refine ⟨by rw [List.append_assoc]; exact h.1, fun m hm t h1 h2 => ?_⟩
  rcases List.mem_append.1 hm with hm | hm
  · exact h.2 m hm t h1 h2
  · cases List.mem_singleton.1 hm
    have := up_le hup h1 h2
    omega
theorem FlI.step {size n : Nat} {c ms : Int} {L : List Nat} {ws : List Wm} {j : Nat} {os qr qr' : List Wm} (hw : GoodWs size n ws) (hL : ∀ i ∈ L, i < size) (hup : L.Pairwise (· < ·)) (hj : j < L.length) (h : FlI n c ms L ws j os qr) (hge : ∀ m ∈ qr, (L[j]! : Int) ≤ m.ix) (hf : qr.filter (fun m => decide ((L[j]! : Int) < m.ix)) = qr') :
    (blankW (xorAt c ms (lookW n ws (L[j]! : Nat))) = true → FlI n c ms L ws (j + 1) os qr') ∧ (blankW (xorAt c ms (lookW n ws (L[j]! : Nat))) = false → FlI n c ms L ws (j + 1) (os ++ [xorAt c ms (lookW n ws (L[j]! : Nat))]) qr') := by
  have hnd : L.Nodup := hup.imp fun h e => by omega
  have hni : L[j]! ∉ L.take j := fun hm => by
    obtain ⟨i, hi, e⟩ := List.mem_iff_getElem.1 hm
    rw [List.length_take] at hi
    rw [List.getElem_take] at e
    have := List.pairwise_iff_getElem.1 hup i j (by omega) hj (by omega)
    rw [getElem!_pos L j hj] at e
    omega
  have htk : L.take (j + 1) = L.take j ++ [L[j]!] := by rw [List.take_succ_eq_append_getElem hj, getElem!_pos L j hj]
  have hlk : lookW n (flipL n c ms (L.take j) ws) (L[j]! : Nat) = lookW n ws (L[j]! : Nat) := by
    rw [hw.look_flip c ms (L.take j) (hnd.sublist (List.take_sublist _ _)) (fun i hi => hL i (List.mem_of_mem_take hi)), if_neg hni]
  have hix : (xorAt c ms (lookW n ws (L[j]! : Nat))).ix = (L[j]! : Nat) := look_ix n ws _
  have hflip : flipL n c ms (L.take (j + 1)) ws = os ++ (if blankW (xorAt c ms (lookW n ws (L[j]! : Nat))) = true then [] else [xorAt c ms (lookW n ws (L[j]! : Nat))]) ++ qr' := by
    rw [htk, flipL_snoc, hlk, ← h.1]
    unfold putW
    rw [hix, List.filter_append, List.filter_append]
    rw [List.filter_eq_self.2 (fun m hm => by have := h.2 m hm j (Nat.le_refl _) hj; rw [decide_eq_true_eq]; exact this)]
    rw [List.filter_eq_nil_iff.2 (fun m hm => by have := hge m hm; rw [decide_eq_true_eq]; omega)]
    rw [List.filter_eq_nil_iff (l := os).2 (fun m hm => by have := h.2 m hm j (Nat.le_refl _) hj; rw [decide_eq_true_eq]; omega)]
    rw [hf, List.append_nil, List.nil_append]
  have hos : ∀ m ∈ os, ∀ t, j + 1 ≤ t → t < L.length → m.ix < (L[t]! : Nat) := fun m hm t h1 h2 => h.2 m hm t (by omega) h2
  refine ⟨fun hb => ⟨?_, hos⟩, fun hb => ⟨?_, fun m hm t h1 h2 => ?_⟩⟩
  · rw [hflip, if_pos hb, List.append_nil]
  · rw [hflip, hb]; rfl
  · rcases List.mem_append.1 hm with hm | hm
    · exact hos m hm t h1 h2
    · cases List.mem_singleton.1 hm
      rw [hix]
      have := List.pairwise_iff_getElem.1 hup j t hj h2 (by omega)
      rw [getElem!_pos L j hj, getElem!_pos L t h2]
      omega
theorem covM_up (M : Mm) (f : Fa) : (covM M f).Pairwise (· < ·) := (List.pairwise_lt_range).sublist List.filter_sublist
/-- A call that hands back words, some of which lie where others lay. -/
def GivesFl (q0 : List (Wm × Sv)) (x : Sv) (vs : List Wm) (w : World) (e : Ending) (w' : World) : Prop := ∃ (s : Option Addr) (c : Nat) (zs : List (Wm × Sv)) (G : Nat → Prop) (K : World → Prop), zs.map Prod.fst = vs ∧ e = .returned (.slice s zs.length c) ∧ (∀ w2, CwLie w2 x q0 → K w2 → CwOk w2 zs) ∧ HS NoD w [rowCw s zs.length c zs, .any G K] w'
set_option maxHeartbeats 16000000 in
theorem cflip_any (M : Mm) (b0 : Nat) (x y : Sv) (q0 : List (Wm × Sv)) (hq0 : q0.map Prod.fst = M.ws) (hs : SmallM M) (hg : GoodM M) (f : Fa) (hf : 0 ≤ f.ch ∧ f.ch < M.dt + M.ck) (w : World) (hNm : Nm w) (hp : MeP w b0 M x y) (h : CwLie w x q0) : Calls Tryd.prog 44 #[.pointer (some ⟨b0, 0, none⟩), cfV f] w (GivesFl q0 x (flipL (M.dt + M.ck).toNat f.ch f.ms (covM M f) M.ws) w) := by
  have hrg := codeB_rng hg.co
  have HCOV := Lib.hid (fun w hn => (show Calls Tryd.prog 78 #[shV M, cfV f] w (GivesRow (covM M f) w) from covered_any M.s0 M.s1 M.s2 M.s3 M.s4 M.s5 f.k f.p0 f.p1 f.p2 f.p3 f.p4 f.p5 f.ch f.ms f.vl f.hd w hn))
  have HLL := Lib.hid (covM_lt M f)
  have HUP := Lib.hid (covM_up M f)
  have HGW := Lib.hid hg.ws
  have HLQ := Lib.hid (show (covM M f).length ≤ 4096 from Nat.le_trans (cvL_len _ _ _ _ _ _ _ _ _ _ _ _ _ _) (sizeN_le _ _ _ _ _ _))
  have HSZ := Lib.hid (show szM M ≤ 4096 from sizeN_le _ _ _ _ _ _)
  have HGT := Lib.hid (fun wx (idx : Nat) (_ : idx ∈ covM M f) hp hx => (show Calls Tryd.prog 53 #[.pointer (some ⟨b0, 0, none⟩), .int .i64 (idx : Nat)] wx (GivesCwR (lookW (M.dt + M.ck).toNat M.ws (idx : Nat)) wx) from cget_any13 M b0 x y q0 hq0 hs hg.ws.up (by omega) (by omega) (idx : Nat) wx hp hx))
  have HMP := Lib.hid hp
  have HCW := Lib.hid h
  have HNm := Lib.hid hNm
  have HQ0 := Lib.hid hq0
  have HCH0 := Lib.hid hf
  have HN10 := Lib.hid (show (M.dt + M.ck).toNat ≤ 1000 by omega)
  have HNN := Lib.hid (show ((M.dt + M.ck).toNat : Int) = M.dt + M.ck by omega)
  clear hrg hs hg hf hNm hp h hq0
  generalize covM M f = L at HCOV HLL HUP HGT HLQ ⊢
  have HL4 := Lib.hid HLL
  generalize (M.dt + M.ck).toNat = N at HGW HGT HN10 HNN ⊢
  generalize szM M = size9 at HLL HGW HSZ
  obtain ⟨s0, s1, s2, s3, s4, s5, kd, dt, ck, fx, ws, fs⟩ := M
  obtain ⟨xa0, xn0, xc0⟩ := x
  obtain ⟨ya0, yn0, yc0⟩ := y
  obtain ⟨k, p0, p1, p2, p3, p4, p5, ch, ms, vl, hd⟩ := f
  try dsimp only at HCH0
  obtain ⟨cN, hcN⟩ : ∃ c : Nat, ch = c := ⟨ch.toNat, by have : 0 ≤ ch := HCH0.out.1; omega⟩
  subst hcN
  replace HNN := Lib.hid (show (N : Int) = dt + ck from HNN.out)
  replace HCH0 := Lib.hid (show (cN : Int) < dt + ck from HCH0.out.2)
  obtain rfl : xn0 = q0.length := HCW.out.1
  replace HCOV := Lib.hid (fun wx hn => (show Calls Tryd.prog 78 #[.agg #[.int .i64 s0, .int .i64 s1, .int .i64 s2, .int .i64 s3, .int .i64 s4, .int .i64 s5], .agg #[.int .i64 k, .int .i64 p0, .int .i64 p1, .int .i64 p2, .int .i64 p3, .int .i64 p4, .int .i64 p5, .int .i64 (cN : Nat), .int .u8 ms, .int .u8 vl, .bool hd]] wx _ from HCOV.out wx hn))
  have HCN := Lib.hid (show cN < N from by have h1 := HCH0.out; have h2 := HNN.out; omega)
  show Calls Tryd.prog 44 #[.pointer (some ⟨b0, 0, none⟩), .agg #[.int .i64 k, .int .i64 p0, .int .i64 p1, .int .i64 p2, .int .i64 p3, .int .i64 p4, .int .i64 p5, .int .i64 (cN : Nat), .int .u8 ms, .int .u8 vl, .bool hd]] w _
  go_enter Tryd.func44, Tryd.ntmps44
  have H := HS.start NoD w
  go_upto_region 1 with fail
  generalize hwb : w.alloc _ = w1
  replace H := HS.eqW hwb H.alloc
  try simp only [World.size_alloc, List.nil_append, List.cons_append, List.append_assoc] at H
  clear hwb
  generalize w.heap.size = b3 at H ⊢
  try clear C
  have C := H.cells
  try simp only [cellsOf, cellsM, apartOf, apartM, and_true] at C
  have kp := Blk.cell (HMP.out.up H.done)
  have k10 : w1.cell? ⟨b0, 10, none⟩ = some (.slice xa0 q0.length xc0) := (kp 10).trans rfl
  have hbl : b0 < w1.heap.size := Blk.lt (HMP.out.up H.done)
  have hblw : b0 < w.heap.size := Blk.lt HMP.out
  have n1 : (b0 = b3) = False := eq_false (by have := H.ge (A := .blk b3 #[.int .i64 k, .int .i64 p0, .int .i64 p1, .int .i64 p2, .int .i64 p3, .int .i64 p4, .int .i64 p5, .int .i64 (cN : Nat), .int .u8 ms, .int .u8 vl, .bool hd] 38) (by simp) (k := b3) rfl; omega)
  have n2 : (b3 = b0) = False := eq_false (by have := H.ge (A := .blk b3 #[.int .i64 k, .int .i64 p0, .int .i64 p1, .int .i64 p2, .int .i64 p3, .int .i64 p4, .int .i64 p5, .int .i64 (cN : Nat), .int .u8 ms, .int .u8 vl, .bool hd] 38) (by simp) (k := b3) rfl; omega)
  clear kp hblw
  go_upto_region 3 with fail
  clear k10 hbl n1 n2
  refine wp_region_xH (by kernel_rfl) (by kernel_rfl) (by kernel_rfl) (by kernel_rfl) (fun _ => False) (H) ?_
  clear H; intro w2 H hz0 hs0
  try clear C
  try simp only [World.size_alloc, List.nil_append, List.cons_append, List.append_assoc] at H hz0
  clear hz0
  try clear w1
  have C := H.cells
  try simp only [cellsOf, cellsM, apartOf, apartM, and_true] at C
  have Z := H.zs
  try simp only [ltsOf, ltsM, and_true] at Z
  have hz0 := Nat.le_refl w2.heap.size
  have kp := Blk.cell (HMP.out.up H.done)
  have k0 : w2.cell? ⟨b0, 0, none⟩ = some (.int .i64 s0) := (kp 0).trans rfl
  have k1 : w2.cell? ⟨b0, 1, none⟩ = some (.int .i64 s1) := (kp 1).trans rfl
  have k2 : w2.cell? ⟨b0, 2, none⟩ = some (.int .i64 s2) := (kp 2).trans rfl
  have k3 : w2.cell? ⟨b0, 3, none⟩ = some (.int .i64 s3) := (kp 3).trans rfl
  have k4 : w2.cell? ⟨b0, 4, none⟩ = some (.int .i64 s4) := (kp 4).trans rfl
  have k5 : w2.cell? ⟨b0, 5, none⟩ = some (.int .i64 s5) := (kp 5).trans rfl
  have hbl : b0 < w2.heap.size := Blk.lt (HMP.out.up H.done)
  have hblw : b0 < w.heap.size := Blk.lt HMP.out
  have n1 : (b0 = b3) = False := eq_false (by have := H.ge (A := .blk b3 #[.int .i64 k, .int .i64 p0, .int .i64 p1, .int .i64 p2, .int .i64 p3, .int .i64 p4, .int .i64 p5, .int .i64 (cN : Nat), .int .u8 ms, .int .u8 vl, .bool hd] 38) (by simp) (k := b3) rfl; omega)
  have n2 : (b3 = b0) = False := eq_false (by have := H.ge (A := .blk b3 #[.int .i64 k, .int .i64 p0, .int .i64 p1, .int .i64 p2, .int .i64 p3, .int .i64 p4, .int .i64 p5, .int .i64 (cN : Nat), .int .u8 ms, .int .u8 vl, .bool hd] 38) (by simp) (k := b3) rfl; omega)
  clear kp hblw
  repeat (first | (refine wpX_skip rfl ?_; go_simp) | (refine wpX_free rfl rfl rfl (fun K hK => ?_); go_step; refine hK _ _ ?_; clear hK K) | (refine wpX_load rfl rfl rfl (by simp [Stay, OneD, NoD, *]) hs0 (by simp [*]) (fun K hK => ?_); go_step; refine hK _ _ ?_; clear hK K))
  refine wpX_eff rfl rfl (fun _ _ => ?_)
  go_step
  refine (HCOV.out _ (HNm.out.below H.done)).mono ?_
  rintro _ w3 ⟨v, rfl, hr, hb⟩
  have hba : ∀ k, _ = some k → _ ≤ k := fun k hk => Nat.le_trans hz0 (ownsRow_base hr k hk)
  obtain ⟨ls, lc, rfl⟩ := ownsRow_slice hr
  replace hs0 := hs0.belowS hz0 hb
  replace hz0 := Nat.le_trans hz0 hb.size
  replace H := H.getsRow hb hr
  clear hb hr
  try simp only [List.nil_append, List.cons_append, List.append_assoc] at H
  try clear C
  have C := H.cells
  try simp only [cellsOf, cellsM, apartOf, apartM, and_true] at C
  try clear w2
  dsimp only
  go_step
  refine ⟨hs0, ?_⟩
  repeat (first | (refine wpX_skip rfl ?_; go_simp) | (refine wpX_free rfl rfl rfl (fun K hK => ?_); go_step; refine hK _ _ ?_; clear hK K) | (refine wpX_load rfl rfl rfl (by simp [Stay, OneD, NoD, *]) hs0 (by simp [*]) (fun K hK => ?_); go_step; refine hK _ _ ?_; clear hK K))
  (refine wpX_nil ?_; go_step)
  clear k0 k1 k2 k3 k4 k5 hbl n1 n2
  have hnr := H.nilRow 50 3
  clear H C
  have H := hnr.anyNil
  clear hnr
  try simp only [List.nil_append, List.cons_append] at H
  try clear C
  try simp only [World.size_alloc, List.nil_append, List.cons_append, List.append_assoc] at H
  have C := H.cells
  try simp only [cellsOf, cellsM, apartOf, apartM, and_true] at C
  go_wp2_with fail
  go_loopw [5, 6, 21] (fun ov rv kv wr => ∃ (os qr : List (Wm × Sv)) (so : Option Addr) (co : Nat) (ra : Option Addr) (rc : Nat) (j : Nat) (G : Nat → Prop) (KI : World → Prop), kv = .int .i64 j ∧ j ≤ L.length ∧ ov = .slice so os.length co ∧ rv = .slice ra qr.length rc ∧ Hid (FlI N cN ms L ws j (os.map Prod.fst) (qr.map Prod.fst)) ∧ Hid (∀ w2, CwLie w2 ⟨xa0, q0.length, xc0⟩ q0 → CwLie w2 ⟨ra, qr.length, rc⟩ qr) ∧ Hid (∀ w2, CwLie w2 ⟨xa0, q0.length, xc0⟩ q0 → KI w2 → CwOk w2 os) ∧ HS NoD w [.blk b3 #[.int .i64 k, .int .i64 p0, .int .i64 p1, .int .i64 p2, .int .i64 p3, .int .i64 p4, .int .i64 p5, .int .i64 (cN : Nat), .int .u8 ms, .int .u8 vl, .bool hd] 38, .row (.slice ls L.length lc) 3 1 L.length (L.map intV), rowCw so os.length co os, .any G KI] wr) (fun _ _ kv _ => L.length - (intOf kv).toNat)
  case atStart => exact ⟨[], q0, none, 0, xa0, xc0, 0, _, _, rfl, Nat.zero_le _, rfl, rfl, (show Hid _ from FlI.start HQ0.out), (show Hid _ from fun w2 h2 => h2), (show Hid _ from fun w2 _ _ q hq => absurd hq List.not_mem_nil), H⟩
  case round =>
    clear H C
    obtain ⟨os, qr, so, co, ra, rc, j, G, KI, rfl, hj, rfl, rfl, HFI, HRL, HKI, H⟩ := hrel
    skip
    try clear C
    try simp only [World.size_alloc, List.nil_append, List.cons_append, List.append_assoc] at H
    have C := H.cells
    try simp only [cellsOf, cellsM, apartOf, apartM, and_true] at C
    by_cases hlt : j < L.length
    · have HJ := Lib.hid hlt
      have hji : (j : Int) < L.length := by omega
      obtain ⟨gl, cgl, hv, -, -⟩ := World.ownsRow.form (H.at 1 rfl) (by omega)
      obtain ⟨rfl, -, rfl⟩ := Value.slice.inj hv
      clear hv
      have hlc := (H.rowCells 1 rfl j (by omega)).1
      rw [List.getElem?_map, List.getElem?_eq_getElem hlt, ← getElem!_pos L j hlt] at hlc
      replace hlc : wr.cell? ⟨gl, j, none⟩ = some (.int .i64 (L[j]! : Nat)) := hlc
      have hglt : gl < wr.heap.size := Item.lt (H.at 1 rfl) (k := gl) rfl
      obtain ⟨idx, hidx⟩ : ∃ i : Nat, L[j]! = i := ⟨_, rfl⟩
      rw [hidx] at hlc
      have HIX := Lib.hid hidx
      have HIDX := Lib.hid (show idx ∈ L by rw [← hidx, getElem!_pos L j hlt]; exact List.getElem_mem hlt)
      clear hidx hj hlt
      go_upto_region 6 with fail
      clear hlc hglt hji
      go_loopw [5, 6] (fun ov rv wr => ∃ (os qr : List (Wm × Sv)) (so : Option Addr) (co : Nat) (ra : Option Addr) (rc : Nat), ov = .slice so os.length co ∧ rv = .slice ra qr.length rc ∧ Hid (FlI N cN ms L ws j (os.map Prod.fst) (qr.map Prod.fst)) ∧ Hid (∀ w2, CwLie w2 ⟨xa0, q0.length, xc0⟩ q0 → CwLie w2 ⟨ra, qr.length, rc⟩ qr) ∧ Hid (∀ w2, CwLie w2 ⟨xa0, q0.length, xc0⟩ q0 → KI w2 → CwOk w2 os) ∧ HS NoD w [.blk b3 #[.int .i64 k, .int .i64 p0, .int .i64 p1, .int .i64 p2, .int .i64 p3, .int .i64 p4, .int .i64 p5, .int .i64 (cN : Nat), .int .u8 ms, .int .u8 vl, .bool hd] 38, .row (.slice (some ⟨gl, 0, none⟩) L.length lc) 3 1 L.length (L.map intV), rowCw so os.length co os, .any G KI] wr) (fun _ rv _ => sliceLen rv)
      case atStart => exact ⟨os, qr, so, co, ra, rc, rfl, rfl, HFI, HRL, HKI, H⟩
      case round =>
        clear H C HFI HRL HKI
        obtain ⟨os, qr, so, co, ra, rc, rfl, rfl, HFI, HRL, HKI, H⟩ := hrel
        skip
        try clear C
        try simp only [World.size_alloc, List.nil_append, List.cons_append, List.append_assoc] at H
        have C := H.cells
        try simp only [cellsOf, cellsM, apartOf, apartM, and_true] at C
        by_cases hqn : qr = []
        · subst hqn
          have HGE := Lib.hid (show ∀ m ∈ ([] : List (Wm × Sv)).map Prod.fst, (L[j]! : Int) ≤ m.ix from fun m hm => absurd hm List.not_mem_nil)
          have HFT := Lib.hid (show (([] : List (Wm × Sv)).map Prod.fst).filter (fun m => decide ((L[j]! : Int) < m.ix)) = ([] : List (Wm × Sv)).map Prod.fst from rfl)
          skip
          go_upto_region 8 with fail
          go_wp2_with fail
          refine (HGT.out _ idx HIDX.out (HMP.out.up H.done) (HCW.out.up H.done)).mono ?_
          rintro _ w61 ⟨sz, cz, rfl, K0⟩
          replace H := H.join K0 (one_low rfl)
          clear K0
          try simp only [List.nil_append, List.cons_append] at H
          skip
          try clear C
          try simp only [World.size_alloc, List.nil_append, List.cons_append, List.append_assoc] at H
          have C := H.cells
          try simp only [cellsOf, cellsM, apartOf, apartM, and_true] at C
          have HM0 := Lib.hid (show ∃ m, lookW N ws (idx : Int) = m from ⟨_, rfl⟩)
          obtain ⟨m0, hm0⟩ := HM0.out
          clear HM0
          have HM0 := Lib.hid hm0
          have hbn : m0.bs.length = N := by rw [← hm0]; exact HGW.out.look_len _
          rw [hm0] at H ⊢
          clear hm0
          obtain ⟨wi, bs, wp⟩ := m0
          try dsimp only at H hbn ⊢
          obtain ⟨n9, hn9⟩ : ∃ n, n = bs.length := ⟨_, rfl⟩
          rw [← hn9] at H ⊢
          have HBN := Lib.hid hn9.symm
          have HCB := Lib.hid (show cN < n9 by rw [hn9, hbn]; exact HCN.out)
          have HN4 := Lib.hid (show n9 ≤ 1000 by rw [hn9, hbn]; exact HN10.out)
          clear hn9 hbn C
          try clear C
          try simp only [World.size_alloc, List.nil_append, List.cons_append, List.append_assoc] at H
          have C := H.cells
          try simp only [cellsOf, cellsM, apartOf, apartM, and_true] at C
          go_upto_region 9 with fail
          generalize hwb : w61.alloc _ = w4
          replace H := HS.eqW hwb H.alloc
          try simp only [World.size_alloc, List.nil_append, List.cons_append, List.append_assoc] at H
          clear hwb
          generalize w61.heap.size = b9 at H ⊢
          try clear C
          try clear w61
          have C := H.cells
          try simp only [cellsOf, cellsM, apartOf, apartM, and_true] at C
          go_upto_region 11 with fail
          have HFS := Lib.hid (FlI.step HGW.out HLL.out HUP.out HJ.out HFI.out HGE.out (qr' := ([] : List (Wm × Sv)).map Prod.fst) HFT.out)
          obtain ⟨g8, c8, hv, -, -⟩ := World.ownsRow.form (H.at 4 rfl) (by have := HCB.out; omega)
          obtain ⟨rfl, -, rfl⟩ := Value.slice.inj hv
          clear hv
          have hbc : cN < bs.length := by have h1 := HBN.out; have h2 := HCB.out; omega
          have HVB := Lib.hid (show (bs.flatMap bC1)[cN]? = some (.int .u8 bs[cN]!) from by have := flat_get bC1_len bs cN 0 _ hbc rfl; simpa using this)
          have HXM := Lib.hid (show xorAt cN ms ⟨wi, bs, wp⟩ = (⟨wi, bs.set cN (xorB bs[cN]! ms), wp⟩ : Wm) from rfl)
          have HBS := Lib.hid (by_set bs cN (xorB bs[cN]! ms))
          generalize bs[cN]! = vb at HVB HXM HBS
          have hcbi : (cN : Int) < n9 := by have := HCB.out; omega
          have hcbn : cN < n9 := by have := HCB.out; omega
          go_upto_region 11 with fail
          refine wp_region_zH (by kernel_rfl) (by kernel_rfl) (by kernel_rfl) (by kernel_rfl) (by kernel_rfl) (by dsimp only [List.dropLast]) rfl (fun w => (∀ o, w.cell? ⟨b9, o, none⟩ = [Value.int .i64 wi, .slice (some ⟨g8, 0, none⟩) n9 cz, .bool wp][o]?) ∧ (∀ o, w.cell? ⟨b3, o, none⟩ = [Value.int .i64 k, .int .i64 p0, .int .i64 p1, .int .i64 p2, .int .i64 p3, .int .i64 p4, .int .i64 p5, .int .i64 (cN : Nat), .int .u8 ms, .int .u8 vl, .bool hd][o]?) ∧ w.cell? ⟨g8, cN, none⟩ = some (.int .u8 vb)) (H) (fun w0 H _ => ⟨fun o => (Blk.cell (H.at 5 rfl) o).trans (by simp), fun o => (Blk.cell (H.at 0 rfl) o).trans (by simp), (World.ownsRow.cellAt (H.at 4 rfl) cN (by have := HCB.out; omega)).trans HVB.out⟩) ?_
          clear H; intro w5 h0 H hz0
          try clear C
          try simp only [World.size_alloc, List.nil_append, List.cons_append, List.append_assoc] at H hz0
          clear hz0
          try clear w4
          have C := H.cells
          try simp only [cellsOf, cellsM, apartOf, apartM, and_true] at C
          repeat (first | (refine wpX_skip rfl ?_; go_simp) | (refine wpX_free rfl rfl rfl (fun K hK => ?_); go_step; refine hK _ _ ?_; clear hK K))
          (refine wpX_yield rfl rfl (.slice (some ⟨g8, 0, none⟩) n9 cz) (fun w hw => by obtain ⟨k0, k1, k2⟩ := hw; go_simp) ?_; go_simp)
          repeat (first | (refine wpX_skip rfl ?_; go_simp) | (refine wpX_free rfl rfl rfl (fun K hK => ?_); go_step; refine hK _ _ ?_; clear hK K))
          (refine wpX_yield rfl rfl (.int .i64 (cN : Nat)) (fun w hw => by obtain ⟨k0, k1, k2⟩ := hw; go_simp) ?_; go_simp)
          repeat (first | (refine wpX_skip rfl ?_; go_simp) | (refine wpX_free rfl rfl rfl (fun K hK => ?_); go_step; refine hK _ _ ?_; clear hK K))
          (refine wpX_yield rfl rfl (.int .u8 vb) (fun w hw => by obtain ⟨k0, k1, k2⟩ := hw; go_simp) ?_; go_simp)
          repeat (first | (refine wpX_skip rfl ?_; go_simp) | (refine wpX_free rfl rfl rfl (fun K hK => ?_); go_step; refine hK _ _ ?_; clear hK K))
          (refine wpX_yield rfl rfl (.int .u8 ms) (fun w hw => by obtain ⟨k0, k1, k2⟩ := hw; go_simp) ?_; go_simp)
          repeat (first | (refine wpX_skip rfl ?_; go_simp) | (refine wpX_free rfl rfl rfl (fun K hK => ?_); go_step; refine hK _ _ ?_; clear hK K))
          (refine wpX_nil ?_; go_step)
          have hkf := (H.rowCells 4 rfl cN (by have := HCB.out; omega)).2
          have hkc := (H.rowCells 4 rfl cN (by have := HCB.out; omega)).1.trans HVB.out
          go_upto_region 12 with fail
          generalize hwb : World.setCell w5 _ _ = w54
          have H0 := HS.eqW hwb (H.rowSet 4 rfl cN (.int .u8 (xorB vb ms)))
          clear H C hwb hkf hkc
          simp only [List.set_cons_succ, List.set_cons_zero] at H0
          rw [HBS.out] at H0
          have H := H0
          clear H0
          skip
          try clear C
          try simp only [World.size_alloc, List.nil_append, List.cons_append, List.append_assoc] at H
          have C := H.cells
          try simp only [cellsOf, cellsM, apartOf, apartM, and_true] at C
          have HBL := Lib.hid (show n9 = (bs.set cN (xorB vb ms)).length by rw [List.length_set]; exact HBN.out.symm)
          have HBK := Lib.hid (fun wx hx => (show Calls Tryd.prog 55 #[.agg #[.int .i64 wi, .slice (some ⟨g8, 0, none⟩) n9 cz, .bool wp]] wx (Gives (.bool (blankW ⟨wi, bs.set cN (xorB vb ms), wp⟩)) wx) from blank_any ⟨wi, bs.set cN (xorB vb ms), wp⟩ ⟨some ⟨g8, 0, none⟩, n9, cz⟩ (by rw [← HBL.out]; have := HN4.out; omega) wx hx))
          have HXA := Lib.hid (show xorAt cN ms (lookW N ws idx) = ⟨wi, bs.set cN (xorB vb ms), wp⟩ from by rw [HM0.out]; exact HXM.out)
          clear hbc hcbi hcbn
          generalize bs.set cN (xorB vb ms) = bs2 at H HBL HBK HXA
          skip
          cases hbl : blankW ⟨wi, bs2, wp⟩ with
          | true =>
            replace HBK := Lib.hid (fun wx hx => by have := HBK.out wx hx; rw [hbl] at this; exact this)
            have HBB := Lib.hid hbl
            clear hbl
            go_wp2_with fail
            refine (HBK.out _ (bytes_row HBL.out (H.at 4 rfl))).mono ?_
            rintro _ w6 ⟨rfl, hb⟩
            replace H := H.below hb
            clear hb
            try clear C
            try simp only [World.size_alloc, List.nil_append, List.cons_append, List.append_assoc] at H
            try clear w54
            have C := H.cells
            try simp only [cellsOf, cellsM, apartOf, apartM, and_true] at C
            dsimp only
            have hjl : j + 1 ≤ L.length := HJ.out
            have hll : L.length ≤ 4096 := HLQ.out
            go_wp2_with fail
            go_roundw
            case rel => exact ⟨os, [], so, co, ra, rc, j + 1, G, KI, by go_num, hjl, rfl, rfl, (show Hid _ from HFS.out.1 (by rw [HIX.out, HXA.out]; exact HBB.out)), (show Hid _ from HRL.out), (show Hid _ from HKI.out), HS.less H (by repeat (first | exact .slnil | refine .cons_cons _ ?_ | refine .cons _ ?_))⟩
            case measure => simp [intOf]; omega
          | false =>
            skip
            replace HBK := Lib.hid (fun wx hx => by have := HBK.out wx hx; rw [hbl] at this; exact this)
            have HBB := Lib.hid hbl
            clear hbl
            go_wp2_with fail
            refine (HBK.out _ (bytes_row HBL.out (H.at 4 rfl))).mono ?_
            rintro _ w7 ⟨rfl, hb⟩
            replace H := H.below hb
            clear hb
            try clear C
            try simp only [World.size_alloc, List.nil_append, List.cons_append, List.append_assoc] at H
            try clear w54
            have C := H.cells
            try simp only [cellsOf, cellsM, apartOf, apartM, and_true] at C
            dsimp only
            have hol : os.length ≤ 4096 := by have := (HFI.out).len HGW.out HLL.out; simp only [List.length_map] at this; have := HSZ.out; omega
            go_upto_region 13 with fail
            iterate 10 go_step
            generalize hwb : World.alloc _ _ = w70
            replace H := HS.eqW hwb H.alloc
            clear hwb C
            simp only [List.nil_append, List.cons_append] at H
            refine wpList_append_H rfl (.tmp 73) (.tmp 75) 31 rfl elemCw H 2 rfl rfl 6 rfl rfl rfl rfl (by decide) (by unfold maxLen; omega) (by omega) (fun gz9 cz9 w72 HZ => ?_)
            clear H
            simp only [List.set_cons_succ, List.set_cons_zero, List.nil_append, List.cons_append, List.append_assoc] at HZ
            have H9 := HS.less (L' := [.blk b3 #[.int .i64 k, .int .i64 p0, .int .i64 p1, .int .i64 p2, .int .i64 p3, .int .i64 p4, .int .i64 p5, .int .i64 (cN : Nat), .int .u8 ms, .int .u8 vl, .bool hd] 38, .row (.slice (some ⟨gl, 0, none⟩) L.length lc) 3 1 L.length (L.map intV), rowCw (some ⟨gz9, 0, none⟩) (os.length + 1) cz9 (os ++ [((⟨wi, bs2, wp⟩ : Wm), (⟨some ⟨g8, 0, none⟩, n9, cz⟩ : Sv))]), .any G KI, .row (.slice (some ⟨g8, 0, none⟩) n9 cz) 5 1 n9 (bs2.flatMap bC1)]) HZ (by
              dsimp only [rowCw]
              rw [List.flatMap_append]
              repeat (first | exact .slnil | refine .cons_cons _ ?_ | refine .cons _ ?_))
            clear HZ
            have H8 := HS.anyOf (L := [_, _, _, _]) H9 rfl
            have H := HS.merge (L := [_, _, _]) H8
            clear H9 H8
            have HKN := Lib.hid (show ∀ w2, CwLie w2 ⟨xa0, q0.length, xc0⟩ q0 → (KI w2 ∧ (Item.row (.slice (some ⟨g8, 0, none⟩) n9 cz) 5 1 n9 (bs2.flatMap bC1)).ok w2) → CwOk w2 (os ++ [((⟨wi, bs2, wp⟩ : Wm), (⟨some ⟨g8, 0, none⟩, n9, cz⟩ : Sv))]) from fun w2 h1 h2 => cwOk_snoc (HKI.out w2 h1 h2.1) (bytes_row HBL.out h2.2))
            generalize hy : os ++ [((⟨wi, bs2, wp⟩ : Wm), (⟨some ⟨g8, 0, none⟩, n9, cz⟩ : Sv))] = os2 at H HKN
            have hyl : os.length + 1 = os2.length := by rw [← hy, List.length_append]; rfl
            rw [hyl] at H ⊢
            have HY := Lib.hid hy
            clear hy hyl
            skip
            try clear C
            try simp only [World.size_alloc, List.nil_append, List.cons_append, List.append_assoc] at H
            have C := H.cells
            try simp only [cellsOf, cellsM, apartOf, apartM, and_true] at C
            have hjl : j + 1 ≤ L.length := HJ.out
            have hll : L.length ≤ 4096 := HLQ.out
            go_wp2_with fail
            go_roundw
            case rel => exact ⟨os2, [], some ⟨gz9, 0, none⟩, cz9, ra, rc, j + 1, _, _, by go_num, hjl, rfl, rfl, (show Hid _ from by have h9 := HFS.out.2 (by rw [HIX.out, HXA.out]; exact HBB.out); rw [HIX.out, HXA.out] at h9; rw [← HY.out, List.map_append]; exact h9), (show Hid _ from HRL.out), (show Hid _ from HKN.out), H⟩
            case measure => simp [intOf]; omega
        · skip
          obtain ⟨hq, qt, rfl⟩ : ∃ q t, qr = q :: t := by cases qr with | nil => exact absurd rfl hqn | cons q t => exact ⟨q, t, rfl⟩
          obtain ⟨⟨ix, hbs, po⟩, ⟨za, zn, zc⟩⟩ := hq
          have hrl := HRL.out _ (HCW.out.up H.done)
          have HRC := Lib.hid (show qt.length + 1 ≤ rc from hrl.2.1.1)
          obtain ⟨b, o, rfl, hb, hc⟩ := hrl.2.2.1.at (j := 0) (by rw [List.length_cons]; omega)
          have hbw : b < w.heap.size := by
            obtain ⟨b9, o9, e9, hb9, -⟩ := (HRL.out w HCW.out).2.2.1.at (j := 0) (by rw [List.length_cons]; omega)
            cases e9; exact hb9
          clear hrl hb hc hqn
          skip
          by_cases hhl : ix < (idx : Int)
          · have HHL := Lib.hid (show ix < (L[j]! : Nat) by rw [HIX.out]; exact hhl)
            obtain ⟨b9, o9, e9, hb, hc⟩ := (HRL.out _ (HCW.out.up H.done)).2.2.1.at (j := 0) (by rw [List.length_cons]; omega)
            cases e9
            have c0 : wr.cell? ⟨b, o, none⟩ = some (.int .i64 ix) := by have h9 := hc 0 _ rfl; simpa using h9
            have c1 : wr.cell? ⟨b, o + 1, none⟩ = some (.slice za zn zc) := by have h9 := hc 1 _ rfl; simpa using h9
            have c2 : wr.cell? ⟨b, o + 2, none⟩ = some (.bool po) := by have h9 := hc 2 _ rfl; simpa using h9
            clear hc
            obtain ⟨ad9, had1, had2⟩ : ∃ ad9 : Addr, (if rc = 1 then some ⟨b, o, none⟩ else some ⟨b, o + 3, none⟩ : Option Addr) = some ad9 ∧ (rc ≠ 1 → ad9 = ⟨b, o + 3, none⟩) := by
              by_cases e : rc = 1
              · rw [if_pos e]; exact ⟨_, rfl, fun h => absurd e h⟩
              · rw [if_neg e]; exact ⟨_, rfl, fun h => rfl⟩
            have HAD := Lib.hid had2
            clear had2
            have HRT := Lib.hid (show ∀ w2, CwLie w2 ⟨xa0, q0.length, xc0⟩ q0 → CwLie w2 ⟨some ad9, qt.length, rc - 1⟩ qt from fun w2 h2 => (HRL.out w2 h2).tail HAD.out)
            have hrc1 : 1 ≤ rc := by have := HRC.out; omega
            have hrci : (1 : Int) ≤ rc := by have := HRC.out; omega
            have hqg : ¬ ((qt.length : Int) + 1 < 1) := by omega
            have hX : ¬ (Value.slice so os.length co).ownBlock = some b := fun e => by have := H.ge (A := rowCw so os.length co os) (by simp) (k := b) e; omega
            have hol : os.length ≤ 4096 := by have := (HFI.out).len HGW.out HLL.out; simp only [List.length_map] at this; have := HSZ.out; omega
            go_upto_region 7 with fail
            clear c0 c1 c2 hb
            have HB9 := Lib.hid (fun wx (hx : Below w.heap.size w wx) => (HRL.out _ (HCW.out.up hx)))
            refine wp_region_h (by kernel_rfl) [0, 1, 2, 3, 6, 7, 4, 5, 8, 9] (by kernel_rfl) (by kernel_rfl) (by kernel_rfl) (fun k => (Value.slice so os.length co).ownBlock = some k) (H) ?_
            clear H; intro w8 H hz0
            try clear C
            try simp only [World.size_alloc, List.nil_append, List.cons_append, List.append_assoc] at H hz0 ⊢
            clear hz0
            try clear w72
            have C := H.cells
            try simp only [cellsOf, cellsM, apartOf, apartM, and_true] at C
            have Z := H.zs
            try simp only [ltsOf, ltsM, and_true] at Z
            simp only [List.filterMap_cons, List.filterMap_nil, List.getElem?_toArray, List.getElem?_cons_zero, List.getElem?_cons_succ]
            obtain ⟨b9, o9, e9, hb, hc⟩ := (HB9.out _ H.done).2.2.1.at (j := 0) (by rw [List.length_cons]; omega)
            cases e9
            have c0 : w8.cell? ⟨b, o, none⟩ = some (.int .i64 ix) := by have h9 := hc 0 _ rfl; simpa using h9
            have c1 : w8.cell? ⟨b, o + 1, none⟩ = some (.slice za zn zc) := by have h9 := hc 1 _ rfl; simpa using h9
            have c2 : w8.cell? ⟨b, o + 2, none⟩ = some (.bool po) := by have h9 := hc 2 _ rfl; simpa using h9
            clear hc
            (refine wpH_free rfl rfl rfl (fun _ _ => ?_); go_step; go_step)
            (refine wpH_free rfl rfl rfl (fun _ _ => ?_); go_step; go_step)
            (refine wpH_yield rfl rfl (.pointer (some ⟨b, o, none⟩)) (fun w _ => by go_simp) ?_; go_simp)
            (refine wpH_load rfl rfl rfl (by simp [Stay, OneD, NoD, *]) (by simp [*]) (fun _ _ => ?_); go_step; go_step)
            (refine wpH_free rfl rfl rfl (fun _ _ => ?_); go_step; go_step)
            (refine wpH_yield rfl rfl (.slice (some ad9) (qt.length : Nat) (rc - 1 : Nat) ) (fun w _ => by  (go_simp)) ?_; go_simp)
            (refine wpH_lit rfl rfl #[.int .i64 ix, .slice za zn zc, .bool po]   50 1 (fun w => by kernel_rfl) (fun bL hbL nbL _ _ => ?_); go_simp; go_step)
            refine wpH_append rfl (.tmp 36) (.tmp 40) 31 rfl elemCw 2 rfl rfl (fun b hb hS => hS.2 hb) (fun _ h => h.1) rfl (news := [((⟨ix, hbs, po⟩ : Wm), (⟨za, zn, zc⟩ : Sv))].flatMap cwC) (fun w hc => src_lit (Fl.at _ _ _) hc) rfl (cwC_one _) (by unfold maxLen; omega) (by omega) (N := os.length + 1) rfl (fun s4 c4 hs4 => ?_)
            (refine wpH_free rfl rfl rfl (fun _ _ => ?_); go_step; go_step)
            (refine wpH_free rfl rfl rfl (fun _ _ => ?_); go_step; go_step)
            refine wpH_nil ?_
            intro w9 hC
            replace H := hC.hs
            clear hC
            try clear C
            try clear Z
            try simp only [List.nil_append, List.cons_append, List.append_assoc, List.set_cons_succ, List.set_cons_zero] at H
            try clear w8
            have C := H.cells
            try simp only [cellsOf, cellsM, apartOf, apartM, and_true] at C
            clear c0 c1 c2 hb hX
            have H9 := HS.less (L' := [.blk b3 #[.int .i64 k, .int .i64 p0, .int .i64 p1, .int .i64 p2, .int .i64 p3, .int .i64 p4, .int .i64 p5, .int .i64 (cN : Nat), .int .u8 ms, .int .u8 vl, .bool hd] 38, .row (.slice (some ⟨gl, 0, none⟩) L.length lc) 3 1 L.length (L.map intV), rowCw s4 (os.length + 1) c4 (os ++ [((⟨ix, hbs, po⟩ : Wm), (⟨za, zn, zc⟩ : Sv))]), .any G KI]) H (by
              dsimp only [rowCw]
              rw [List.flatMap_append]
              repeat (first | exact .slnil | refine .cons_cons _ ?_ | refine .cons _ ?_))
            clear H C
            have HFM := Lib.hid (HFI.out.move HUP.out HJ.out HHL.out)
            have HKN := Lib.hid (show ∀ w2, CwLie w2 ⟨xa0, q0.length, xc0⟩ q0 → KI w2 → CwOk w2 (os ++ [((⟨ix, hbs, po⟩ : Wm), (⟨za, zn, zc⟩ : Sv))]) from fun w2 h1 h2 => cwOk_snoc (HKI.out w2 h1 h2) ((HRL.out w2 h1).2.2.2 _ List.mem_cons_self))
            generalize hy : os ++ [((⟨ix, hbs, po⟩ : Wm), (⟨za, zn, zc⟩ : Sv))] = os2 at H9 HKN
            have hyl : os.length + 1 = os2.length := by rw [← hy, List.length_append]; rfl
            rw [hyl] at H9 ⊢
            have HY := Lib.hid hy
            clear hy hyl
            have H := H9
            clear H9
            try clear C
            try simp only [World.size_alloc, List.nil_append, List.cons_append, List.append_assoc] at H
            have C := H.cells
            try simp only [cellsOf, cellsM, apartOf, apartM, and_true] at C
            go_wp2_with fail
            go_roundw
            case rel => exact ⟨os2, qt, s4, c4, some ad9, rc - 1, rfl, rfl, (show Hid _ from by rw [← HY.out, List.map_append]; exact HFM.out), HRT, HKN, H⟩
            case measure => simp [sliceLen]
          · skip
            have HGE := Lib.hid (show ∀ m ∈ (((⟨ix, hbs, po⟩ : Wm), (⟨za, zn, zc⟩ : Sv)) :: qt).map Prod.fst, (L[j]! : Int) ≤ m.ix from fun m hm => by
              rw [HIX.out]
              rcases List.mem_cons.1 hm with rfl | hm
              · show (idx : Int) ≤ ix; omega
              · have := HFI.out.head HGW.out HLL.out m hm; have : ix < m.ix := this; omega)
            skip
            by_cases hhe : ix = (idx : Int)
            · have HEQ := Lib.hid hhe
              have HFT := Lib.hid (show ((((⟨ix, hbs, po⟩ : Wm), (⟨za, zn, zc⟩ : Sv)) :: qt).map Prod.fst).filter (fun m => decide ((L[j]! : Int) < m.ix)) = qt.map Prod.fst from by
                rw [HIX.out, List.map_cons, List.filter_cons_of_neg (by show ¬ decide ((idx : Int) < ix) = true; rw [hhe]; simp), List.filter_eq_self.2 (fun m hm => by have h9 : ix < m.ix := HFI.out.head HGW.out HLL.out m hm; rw [decide_eq_true_eq]; omega)])
              obtain ⟨b9, o9, e9, hb, hc⟩ := (HRL.out _ (HCW.out.up H.done)).2.2.1.at (j := 0) (by rw [List.length_cons]; omega)
              cases e9
              have c0 : wr.cell? ⟨b, o, none⟩ = some (.int .i64 ix) := by have h9 := hc 0 _ rfl; simpa using h9
              have c1 : wr.cell? ⟨b, o + 1, none⟩ = some (.slice za zn zc) := by have h9 := hc 1 _ rfl; simpa using h9
              have c2 : wr.cell? ⟨b, o + 2, none⟩ = some (.bool po) := by have h9 := hc 2 _ rfl; simpa using h9
              clear hc
              clear hhe
              skip
              go_upto_region 8 with fail
              go_wp2_with fail
              refine (HGT.out _ idx HIDX.out (HMP.out.up H.done) (HCW.out.up H.done)).mono ?_
              rintro _ w61 ⟨sz, cz, rfl, K0⟩
              replace H := H.join K0 (one_low rfl)
              clear K0
              try simp only [List.nil_append, List.cons_append] at H
              skip
              try clear C
              try simp only [World.size_alloc, List.nil_append, List.cons_append, List.append_assoc] at H
              have C := H.cells
              try simp only [cellsOf, cellsM, apartOf, apartM, and_true] at C
              have HM0 := Lib.hid (show ∃ m, lookW N ws (idx : Int) = m from ⟨_, rfl⟩)
              obtain ⟨m0, hm0⟩ := HM0.out
              clear HM0
              have HM0 := Lib.hid hm0
              have hbn : m0.bs.length = N := by rw [← hm0]; exact HGW.out.look_len _
              rw [hm0] at H ⊢
              clear hm0
              obtain ⟨wi, bs, wp⟩ := m0
              try dsimp only at H hbn ⊢
              obtain ⟨n9, hn9⟩ : ∃ n, n = bs.length := ⟨_, rfl⟩
              rw [← hn9] at H ⊢
              have HBN := Lib.hid hn9.symm
              have HCB := Lib.hid (show cN < n9 by rw [hn9, hbn]; exact HCN.out)
              have HN4 := Lib.hid (show n9 ≤ 1000 by rw [hn9, hbn]; exact HN10.out)
              clear hn9 hbn C
              try clear C
              try simp only [World.size_alloc, List.nil_append, List.cons_append, List.append_assoc] at H
              have C := H.cells
              try simp only [cellsOf, cellsM, apartOf, apartM, and_true] at C
              go_upto_region 9 with fail
              generalize hwb : w61.alloc _ = w10
              replace H := HS.eqW hwb H.alloc
              try simp only [World.size_alloc, List.nil_append, List.cons_append, List.append_assoc] at H
              clear hwb
              generalize w61.heap.size = b9 at H ⊢
              try clear C
              try clear w61
              have C := H.cells
              try simp only [cellsOf, cellsM, apartOf, apartM, and_true] at C
              obtain ⟨b8, o9, e9, hb, hc⟩ := (HRL.out _ (HCW.out.up H.done)).2.2.1.at (j := 0) (by rw [List.length_cons]; omega)
              cases e9
              have c0 : w10.cell? ⟨b, o, none⟩ = some (.int .i64 ix) := by have h9 := hc 0 _ rfl; simpa using h9
              have c1 : w10.cell? ⟨b, o + 1, none⟩ = some (.slice za zn zc) := by have h9 := hc 1 _ rfl; simpa using h9
              have c2 : w10.cell? ⟨b, o + 2, none⟩ = some (.bool po) := by have h9 := hc 2 _ rfl; simpa using h9
              clear hc
              obtain rfl : ix = (idx : Int) := HEQ.out
              have n1 : (b = b9) = False := eq_false (by have := H.ge (A := .blk b9 #[.int .i64 wi, .slice sz n9 cz, .bool wp] 50) (by simp) (k := b9) rfl; omega)
              have n2 : (b9 = b) = False := eq_false (by have := H.ge (A := .blk b9 #[.int .i64 wi, .slice sz n9 cz, .bool wp] 50) (by simp) (k := b9) rfl; omega)
              obtain ⟨ad9, had1, had2⟩ : ∃ ad9 : Addr, (if rc = 1 then some ⟨b, o, none⟩ else some ⟨b, o + 3, none⟩ : Option Addr) = some ad9 ∧ (rc ≠ 1 → ad9 = ⟨b, o + 3, none⟩) := by
                by_cases e : rc = 1
                · rw [if_pos e]; exact ⟨_, rfl, fun h => absurd e h⟩
                · rw [if_neg e]; exact ⟨_, rfl, fun h => rfl⟩
              have HAD := Lib.hid had2
              clear had2
              have HRT := Lib.hid (show ∀ w2, CwLie w2 ⟨xa0, q0.length, xc0⟩ q0 → CwLie w2 ⟨some ad9, qt.length, rc - 1⟩ qt from fun w2 h2 => (HRL.out w2 h2).tail HAD.out)
              have hrc1 : 1 ≤ rc := by have := HRC.out; omega
              have hrci : (1 : Int) ≤ rc := by have := HRC.out; omega
              have hqg : ¬ ((qt.length : Int) + 1 < 1) := by omega
              go_upto_region 10 with fail
              clear c0 c1 c2 hb n1 n2
              go_upto_region 11 with fail
              have HFS := Lib.hid (FlI.step HGW.out HLL.out HUP.out HJ.out HFI.out HGE.out (qr' := (qt : List (Wm × Sv)).map Prod.fst) HFT.out)
              obtain ⟨g8, c8, hv, -, -⟩ := World.ownsRow.form (H.at 4 rfl) (by have := HCB.out; omega)
              obtain ⟨rfl, -, rfl⟩ := Value.slice.inj hv
              clear hv
              have hbc : cN < bs.length := by have h1 := HBN.out; have h2 := HCB.out; omega
              have HVB := Lib.hid (show (bs.flatMap bC1)[cN]? = some (.int .u8 bs[cN]!) from by have := flat_get bC1_len bs cN 0 _ hbc rfl; simpa using this)
              have HXM := Lib.hid (show xorAt cN ms ⟨wi, bs, wp⟩ = (⟨wi, bs.set cN (xorB bs[cN]! ms), wp⟩ : Wm) from rfl)
              have HBS := Lib.hid (by_set bs cN (xorB bs[cN]! ms))
              generalize bs[cN]! = vb at HVB HXM HBS
              have hcbi : (cN : Int) < n9 := by have := HCB.out; omega
              have hcbn : cN < n9 := by have := HCB.out; omega
              go_upto_region 11 with fail
              refine wp_region_zH (by kernel_rfl) (by kernel_rfl) (by kernel_rfl) (by kernel_rfl) (by kernel_rfl) (by dsimp only [List.dropLast]) rfl (fun w => (∀ o, w.cell? ⟨b9, o, none⟩ = [Value.int .i64 wi, .slice (some ⟨g8, 0, none⟩) n9 cz, .bool wp][o]?) ∧ (∀ o, w.cell? ⟨b3, o, none⟩ = [Value.int .i64 k, .int .i64 p0, .int .i64 p1, .int .i64 p2, .int .i64 p3, .int .i64 p4, .int .i64 p5, .int .i64 (cN : Nat), .int .u8 ms, .int .u8 vl, .bool hd][o]?) ∧ w.cell? ⟨g8, cN, none⟩ = some (.int .u8 vb)) (H) (fun w0 H _ => ⟨fun o => (Blk.cell (H.at 5 rfl) o).trans (by simp), fun o => (Blk.cell (H.at 0 rfl) o).trans (by simp), (World.ownsRow.cellAt (H.at 4 rfl) cN (by have := HCB.out; omega)).trans HVB.out⟩) ?_
              clear H; intro w11 h0 H hz0
              try clear C
              try simp only [World.size_alloc, List.nil_append, List.cons_append, List.append_assoc] at H hz0
              clear hz0
              try clear w10
              have C := H.cells
              try simp only [cellsOf, cellsM, apartOf, apartM, and_true] at C
              repeat (first | (refine wpX_skip rfl ?_; go_simp) | (refine wpX_free rfl rfl rfl (fun K hK => ?_); go_step; refine hK _ _ ?_; clear hK K))
              (refine wpX_yield rfl rfl (.slice (some ⟨g8, 0, none⟩) n9 cz) (fun w hw => by obtain ⟨k0, k1, k2⟩ := hw; go_simp) ?_; go_simp)
              repeat (first | (refine wpX_skip rfl ?_; go_simp) | (refine wpX_free rfl rfl rfl (fun K hK => ?_); go_step; refine hK _ _ ?_; clear hK K))
              (refine wpX_yield rfl rfl (.int .i64 (cN : Nat)) (fun w hw => by obtain ⟨k0, k1, k2⟩ := hw; go_simp) ?_; go_simp)
              repeat (first | (refine wpX_skip rfl ?_; go_simp) | (refine wpX_free rfl rfl rfl (fun K hK => ?_); go_step; refine hK _ _ ?_; clear hK K))
              (refine wpX_yield rfl rfl (.int .u8 vb) (fun w hw => by obtain ⟨k0, k1, k2⟩ := hw; go_simp) ?_; go_simp)
              repeat (first | (refine wpX_skip rfl ?_; go_simp) | (refine wpX_free rfl rfl rfl (fun K hK => ?_); go_step; refine hK _ _ ?_; clear hK K))
              (refine wpX_yield rfl rfl (.int .u8 ms) (fun w hw => by obtain ⟨k0, k1, k2⟩ := hw; go_simp) ?_; go_simp)
              repeat (first | (refine wpX_skip rfl ?_; go_simp) | (refine wpX_free rfl rfl rfl (fun K hK => ?_); go_step; refine hK _ _ ?_; clear hK K))
              (refine wpX_nil ?_; go_step)
              have hkf := (H.rowCells 4 rfl cN (by have := HCB.out; omega)).2
              have hkc := (H.rowCells 4 rfl cN (by have := HCB.out; omega)).1.trans HVB.out
              go_upto_region 12 with fail
              generalize hwb : World.setCell w11 _ _ = w54
              have H0 := HS.eqW hwb (H.rowSet 4 rfl cN (.int .u8 (xorB vb ms)))
              clear H C hwb hkf hkc
              simp only [List.set_cons_succ, List.set_cons_zero] at H0
              rw [HBS.out] at H0
              have H := H0
              clear H0
              skip
              try clear C
              try simp only [World.size_alloc, List.nil_append, List.cons_append, List.append_assoc] at H
              have C := H.cells
              try simp only [cellsOf, cellsM, apartOf, apartM, and_true] at C
              have HBL := Lib.hid (show n9 = (bs.set cN (xorB vb ms)).length by rw [List.length_set]; exact HBN.out.symm)
              have HBK := Lib.hid (fun wx hx => (show Calls Tryd.prog 55 #[.agg #[.int .i64 wi, .slice (some ⟨g8, 0, none⟩) n9 cz, .bool wp]] wx (Gives (.bool (blankW ⟨wi, bs.set cN (xorB vb ms), wp⟩)) wx) from blank_any ⟨wi, bs.set cN (xorB vb ms), wp⟩ ⟨some ⟨g8, 0, none⟩, n9, cz⟩ (by rw [← HBL.out]; have := HN4.out; omega) wx hx))
              have HXA := Lib.hid (show xorAt cN ms (lookW N ws idx) = ⟨wi, bs.set cN (xorB vb ms), wp⟩ from by rw [HM0.out]; exact HXM.out)
              clear hbc hcbi hcbn
              generalize bs.set cN (xorB vb ms) = bs2 at H HBL HBK HXA
              skip
              cases hbl : blankW ⟨wi, bs2, wp⟩ with
              | true =>
                replace HBK := Lib.hid (fun wx hx => by have := HBK.out wx hx; rw [hbl] at this; exact this)
                have HBB := Lib.hid hbl
                clear hbl
                go_wp2_with fail
                refine (HBK.out _ (bytes_row HBL.out (H.at 4 rfl))).mono ?_
                rintro _ w12 ⟨rfl, hb⟩
                replace H := H.below hb
                clear hb
                try clear C
                try simp only [World.size_alloc, List.nil_append, List.cons_append, List.append_assoc] at H
                try clear w54
                have C := H.cells
                try simp only [cellsOf, cellsM, apartOf, apartM, and_true] at C
                dsimp only
                have hjl : j + 1 ≤ L.length := HJ.out
                have hll : L.length ≤ 4096 := HLQ.out
                go_wp2_with fail
                go_roundw
                case rel => exact ⟨os, qt, so, co, (some ad9), (rc - 1), j + 1, G, KI, by go_num, hjl, rfl, rfl, (show Hid _ from HFS.out.1 (by rw [HIX.out, HXA.out]; exact HBB.out)), (show Hid _ from HRT.out), (show Hid _ from HKI.out), HS.less H (by repeat (first | exact .slnil | refine .cons_cons _ ?_ | refine .cons _ ?_))⟩
                case measure => simp [intOf]; omega
              | false =>
                skip
                replace HBK := Lib.hid (fun wx hx => by have := HBK.out wx hx; rw [hbl] at this; exact this)
                have HBB := Lib.hid hbl
                clear hbl
                go_wp2_with fail
                refine (HBK.out _ (bytes_row HBL.out (H.at 4 rfl))).mono ?_
                rintro _ w13 ⟨rfl, hb⟩
                replace H := H.below hb
                clear hb
                try clear C
                try simp only [World.size_alloc, List.nil_append, List.cons_append, List.append_assoc] at H
                try clear w54
                have C := H.cells
                try simp only [cellsOf, cellsM, apartOf, apartM, and_true] at C
                dsimp only
                have hol : os.length ≤ 4096 := by have := (HFI.out).len HGW.out HLL.out; simp only [List.length_map] at this; have := HSZ.out; omega
                go_upto_region 13 with fail
                iterate 10 go_step
                generalize hwb : World.alloc _ _ = w70
                replace H := HS.eqW hwb H.alloc
                clear hwb C
                simp only [List.nil_append, List.cons_append] at H
                refine wpList_append_H rfl (.tmp 73) (.tmp 75) 31 rfl elemCw H 2 rfl rfl 6 rfl rfl rfl rfl (by decide) (by unfold maxLen; omega) (by omega) (fun gz9 cz9 w72 HZ => ?_)
                clear H
                simp only [List.set_cons_succ, List.set_cons_zero, List.nil_append, List.cons_append, List.append_assoc] at HZ
                have H9 := HS.less (L' := [.blk b3 #[.int .i64 k, .int .i64 p0, .int .i64 p1, .int .i64 p2, .int .i64 p3, .int .i64 p4, .int .i64 p5, .int .i64 (cN : Nat), .int .u8 ms, .int .u8 vl, .bool hd] 38, .row (.slice (some ⟨gl, 0, none⟩) L.length lc) 3 1 L.length (L.map intV), rowCw (some ⟨gz9, 0, none⟩) (os.length + 1) cz9 (os ++ [((⟨wi, bs2, wp⟩ : Wm), (⟨some ⟨g8, 0, none⟩, n9, cz⟩ : Sv))]), .any G KI, .row (.slice (some ⟨g8, 0, none⟩) n9 cz) 5 1 n9 (bs2.flatMap bC1)]) HZ (by
                  dsimp only [rowCw]
                  rw [List.flatMap_append]
                  repeat (first | exact .slnil | refine .cons_cons _ ?_ | refine .cons _ ?_))
                clear HZ
                have H8 := HS.anyOf (L := [_, _, _, _]) H9 rfl
                have H := HS.merge (L := [_, _, _]) H8
                clear H9 H8
                have HKN := Lib.hid (show ∀ w2, CwLie w2 ⟨xa0, q0.length, xc0⟩ q0 → (KI w2 ∧ (Item.row (.slice (some ⟨g8, 0, none⟩) n9 cz) 5 1 n9 (bs2.flatMap bC1)).ok w2) → CwOk w2 (os ++ [((⟨wi, bs2, wp⟩ : Wm), (⟨some ⟨g8, 0, none⟩, n9, cz⟩ : Sv))]) from fun w2 h1 h2 => cwOk_snoc (HKI.out w2 h1 h2.1) (bytes_row HBL.out h2.2))
                generalize hy : os ++ [((⟨wi, bs2, wp⟩ : Wm), (⟨some ⟨g8, 0, none⟩, n9, cz⟩ : Sv))] = os2 at H HKN
                have hyl : os.length + 1 = os2.length := by rw [← hy, List.length_append]; rfl
                rw [hyl] at H ⊢
                have HY := Lib.hid hy
                clear hy hyl
                skip
                try clear C
                try simp only [World.size_alloc, List.nil_append, List.cons_append, List.append_assoc] at H
                have C := H.cells
                try simp only [cellsOf, cellsM, apartOf, apartM, and_true] at C
                have hjl : j + 1 ≤ L.length := HJ.out
                have hll : L.length ≤ 4096 := HLQ.out
                go_wp2_with fail
                go_roundw
                case rel => exact ⟨os2, qt, some ⟨gz9, 0, none⟩, cz9, (some ad9), (rc - 1), j + 1, _, _, by go_num, hjl, rfl, rfl, (show Hid _ from by have h9 := HFS.out.2 (by rw [HIX.out, HXA.out]; exact HBB.out); rw [HIX.out, HXA.out] at h9; rw [← HY.out, List.map_append]; exact h9), (show Hid _ from HRT.out), (show Hid _ from HKN.out), H⟩
                case measure => simp [intOf]; omega
            · have HGT2 := Lib.hid (show (idx : Int) < ix by omega)
              have HFT := Lib.hid (show ((((⟨ix, hbs, po⟩ : Wm), (⟨za, zn, zc⟩ : Sv)) :: qt).map Prod.fst).filter (fun m => decide ((L[j]! : Int) < m.ix)) = (((⟨ix, hbs, po⟩ : Wm), (⟨za, zn, zc⟩ : Sv)) :: qt).map Prod.fst from List.filter_eq_self.2 (fun m hm => by
                rw [HIX.out, decide_eq_true_eq]
                rcases List.mem_cons.1 hm with rfl | hm
                · show (idx : Int) < ix; omega
                · have h9 : ix < m.ix := HFI.out.head HGW.out HLL.out m hm; omega))
              skip
              obtain ⟨b9, o9, e9, hb, hc⟩ := (HRL.out _ (HCW.out.up H.done)).2.2.1.at (j := 0) (by rw [List.length_cons]; omega)
              cases e9
              have c0 : wr.cell? ⟨b, o, none⟩ = some (.int .i64 ix) := by have h9 := hc 0 _ rfl; simpa using h9
              have c1 : wr.cell? ⟨b, o + 1, none⟩ = some (.slice za zn zc) := by have h9 := hc 1 _ rfl; simpa using h9
              have c2 : wr.cell? ⟨b, o + 2, none⟩ = some (.bool po) := by have h9 := hc 2 _ rfl; simpa using h9
              clear hc
              clear hhe
              skip
              go_upto_region 8 with fail
              go_wp2_with fail
              refine (HGT.out _ idx HIDX.out (HMP.out.up H.done) (HCW.out.up H.done)).mono ?_
              rintro _ w61 ⟨sz, cz, rfl, K0⟩
              replace H := H.join K0 (one_low rfl)
              clear K0
              try simp only [List.nil_append, List.cons_append] at H
              skip
              try clear C
              try simp only [World.size_alloc, List.nil_append, List.cons_append, List.append_assoc] at H
              have C := H.cells
              try simp only [cellsOf, cellsM, apartOf, apartM, and_true] at C
              have HM0 := Lib.hid (show ∃ m, lookW N ws (idx : Int) = m from ⟨_, rfl⟩)
              obtain ⟨m0, hm0⟩ := HM0.out
              clear HM0
              have HM0 := Lib.hid hm0
              have hbn : m0.bs.length = N := by rw [← hm0]; exact HGW.out.look_len _
              rw [hm0] at H ⊢
              clear hm0
              obtain ⟨wi, bs, wp⟩ := m0
              try dsimp only at H hbn ⊢
              obtain ⟨n9, hn9⟩ : ∃ n, n = bs.length := ⟨_, rfl⟩
              rw [← hn9] at H ⊢
              have HBN := Lib.hid hn9.symm
              have HCB := Lib.hid (show cN < n9 by rw [hn9, hbn]; exact HCN.out)
              have HN4 := Lib.hid (show n9 ≤ 1000 by rw [hn9, hbn]; exact HN10.out)
              clear hn9 hbn C
              try clear C
              try simp only [World.size_alloc, List.nil_append, List.cons_append, List.append_assoc] at H
              have C := H.cells
              try simp only [cellsOf, cellsM, apartOf, apartM, and_true] at C
              go_upto_region 9 with fail
              generalize hwb : w61.alloc _ = w14
              replace H := HS.eqW hwb H.alloc
              try simp only [World.size_alloc, List.nil_append, List.cons_append, List.append_assoc] at H
              clear hwb
              generalize w61.heap.size = b9 at H ⊢
              try clear C
              try clear w61
              have C := H.cells
              try simp only [cellsOf, cellsM, apartOf, apartM, and_true] at C
              obtain ⟨b8, o9, e9, hb, hc⟩ := (HRL.out _ (HCW.out.up H.done)).2.2.1.at (j := 0) (by rw [List.length_cons]; omega)
              cases e9
              have c0 : w14.cell? ⟨b, o, none⟩ = some (.int .i64 ix) := by have h9 := hc 0 _ rfl; simpa using h9
              have c1 : w14.cell? ⟨b, o + 1, none⟩ = some (.slice za zn zc) := by have h9 := hc 1 _ rfl; simpa using h9
              have c2 : w14.cell? ⟨b, o + 2, none⟩ = some (.bool po) := by have h9 := hc 2 _ rfl; simpa using h9
              clear hc
              have hne : ¬ ix = (idx : Int) := by have := HGT2.out; omega
              have hneb : (ix == (idx : Int)) = false := beq_eq_false_iff_ne.2 hne
              have n1 : (b = b9) = False := eq_false (by have := H.ge (A := .blk b9 #[.int .i64 wi, .slice sz n9 cz, .bool wp] 50) (by simp) (k := b9) rfl; omega)
              have n2 : (b9 = b) = False := eq_false (by have := H.ge (A := .blk b9 #[.int .i64 wi, .slice sz n9 cz, .bool wp] 50) (by simp) (k := b9) rfl; omega)
              go_upto_region 11 with fail
              clear c0 c1 c2 hb n1 n2
              have HFS := Lib.hid (FlI.step HGW.out HLL.out HUP.out HJ.out HFI.out HGE.out (qr' := ((((⟨ix, hbs, po⟩ : Wm), (⟨za, zn, zc⟩ : Sv)) :: qt) : List (Wm × Sv)).map Prod.fst) HFT.out)
              obtain ⟨g8, c8, hv, -, -⟩ := World.ownsRow.form (H.at 4 rfl) (by have := HCB.out; omega)
              obtain ⟨rfl, -, rfl⟩ := Value.slice.inj hv
              clear hv
              have hbc : cN < bs.length := by have h1 := HBN.out; have h2 := HCB.out; omega
              have HVB := Lib.hid (show (bs.flatMap bC1)[cN]? = some (.int .u8 bs[cN]!) from by have := flat_get bC1_len bs cN 0 _ hbc rfl; simpa using this)
              have HXM := Lib.hid (show xorAt cN ms ⟨wi, bs, wp⟩ = (⟨wi, bs.set cN (xorB bs[cN]! ms), wp⟩ : Wm) from rfl)
              have HBS := Lib.hid (by_set bs cN (xorB bs[cN]! ms))
              generalize bs[cN]! = vb at HVB HXM HBS
              have hcbi : (cN : Int) < n9 := by have := HCB.out; omega
              have hcbn : cN < n9 := by have := HCB.out; omega
              go_upto_region 11 with fail
              refine wp_region_zH (by kernel_rfl) (by kernel_rfl) (by kernel_rfl) (by kernel_rfl) (by kernel_rfl) (by dsimp only [List.dropLast]) rfl (fun w => (∀ o, w.cell? ⟨b9, o, none⟩ = [Value.int .i64 wi, .slice (some ⟨g8, 0, none⟩) n9 cz, .bool wp][o]?) ∧ (∀ o, w.cell? ⟨b3, o, none⟩ = [Value.int .i64 k, .int .i64 p0, .int .i64 p1, .int .i64 p2, .int .i64 p3, .int .i64 p4, .int .i64 p5, .int .i64 (cN : Nat), .int .u8 ms, .int .u8 vl, .bool hd][o]?) ∧ w.cell? ⟨g8, cN, none⟩ = some (.int .u8 vb)) (H) (fun w0 H _ => ⟨fun o => (Blk.cell (H.at 5 rfl) o).trans (by simp), fun o => (Blk.cell (H.at 0 rfl) o).trans (by simp), (World.ownsRow.cellAt (H.at 4 rfl) cN (by have := HCB.out; omega)).trans HVB.out⟩) ?_
              clear H; intro w15 h0 H hz0
              try clear C
              try simp only [World.size_alloc, List.nil_append, List.cons_append, List.append_assoc] at H hz0
              clear hz0
              try clear w14
              have C := H.cells
              try simp only [cellsOf, cellsM, apartOf, apartM, and_true] at C
              repeat (first | (refine wpX_skip rfl ?_; go_simp) | (refine wpX_free rfl rfl rfl (fun K hK => ?_); go_step; refine hK _ _ ?_; clear hK K))
              (refine wpX_yield rfl rfl (.slice (some ⟨g8, 0, none⟩) n9 cz) (fun w hw => by obtain ⟨k0, k1, k2⟩ := hw; go_simp) ?_; go_simp)
              repeat (first | (refine wpX_skip rfl ?_; go_simp) | (refine wpX_free rfl rfl rfl (fun K hK => ?_); go_step; refine hK _ _ ?_; clear hK K))
              (refine wpX_yield rfl rfl (.int .i64 (cN : Nat)) (fun w hw => by obtain ⟨k0, k1, k2⟩ := hw; go_simp) ?_; go_simp)
              repeat (first | (refine wpX_skip rfl ?_; go_simp) | (refine wpX_free rfl rfl rfl (fun K hK => ?_); go_step; refine hK _ _ ?_; clear hK K))
              (refine wpX_yield rfl rfl (.int .u8 vb) (fun w hw => by obtain ⟨k0, k1, k2⟩ := hw; go_simp) ?_; go_simp)
              repeat (first | (refine wpX_skip rfl ?_; go_simp) | (refine wpX_free rfl rfl rfl (fun K hK => ?_); go_step; refine hK _ _ ?_; clear hK K))
              (refine wpX_yield rfl rfl (.int .u8 ms) (fun w hw => by obtain ⟨k0, k1, k2⟩ := hw; go_simp) ?_; go_simp)
              repeat (first | (refine wpX_skip rfl ?_; go_simp) | (refine wpX_free rfl rfl rfl (fun K hK => ?_); go_step; refine hK _ _ ?_; clear hK K))
              (refine wpX_nil ?_; go_step)
              have hkf := (H.rowCells 4 rfl cN (by have := HCB.out; omega)).2
              have hkc := (H.rowCells 4 rfl cN (by have := HCB.out; omega)).1.trans HVB.out
              go_upto_region 12 with fail
              generalize hwb : World.setCell w15 _ _ = w54
              have H0 := HS.eqW hwb (H.rowSet 4 rfl cN (.int .u8 (xorB vb ms)))
              clear H C hwb hkf hkc
              simp only [List.set_cons_succ, List.set_cons_zero] at H0
              rw [HBS.out] at H0
              have H := H0
              clear H0
              skip
              try clear C
              try simp only [World.size_alloc, List.nil_append, List.cons_append, List.append_assoc] at H
              have C := H.cells
              try simp only [cellsOf, cellsM, apartOf, apartM, and_true] at C
              have HBL := Lib.hid (show n9 = (bs.set cN (xorB vb ms)).length by rw [List.length_set]; exact HBN.out.symm)
              have HBK := Lib.hid (fun wx hx => (show Calls Tryd.prog 55 #[.agg #[.int .i64 wi, .slice (some ⟨g8, 0, none⟩) n9 cz, .bool wp]] wx (Gives (.bool (blankW ⟨wi, bs.set cN (xorB vb ms), wp⟩)) wx) from blank_any ⟨wi, bs.set cN (xorB vb ms), wp⟩ ⟨some ⟨g8, 0, none⟩, n9, cz⟩ (by rw [← HBL.out]; have := HN4.out; omega) wx hx))
              have HXA := Lib.hid (show xorAt cN ms (lookW N ws idx) = ⟨wi, bs.set cN (xorB vb ms), wp⟩ from by rw [HM0.out]; exact HXM.out)
              clear hbc hcbi hcbn
              generalize bs.set cN (xorB vb ms) = bs2 at H HBL HBK HXA
              skip
              cases hbl : blankW ⟨wi, bs2, wp⟩ with
              | true =>
                replace HBK := Lib.hid (fun wx hx => by have := HBK.out wx hx; rw [hbl] at this; exact this)
                have HBB := Lib.hid hbl
                clear hbl
                go_wp2_with fail
                refine (HBK.out _ (bytes_row HBL.out (H.at 4 rfl))).mono ?_
                rintro _ w16 ⟨rfl, hb⟩
                replace H := H.below hb
                clear hb
                try clear C
                try simp only [World.size_alloc, List.nil_append, List.cons_append, List.append_assoc] at H
                try clear w54
                have C := H.cells
                try simp only [cellsOf, cellsM, apartOf, apartM, and_true] at C
                dsimp only
                have hjl : j + 1 ≤ L.length := HJ.out
                have hll : L.length ≤ 4096 := HLQ.out
                go_wp2_with fail
                go_roundw
                case rel => exact ⟨os, (((⟨ix, hbs, po⟩ : Wm), (⟨za, zn, zc⟩ : Sv)) :: qt), so, co, (some ⟨b, o, none⟩), rc, j + 1, G, KI, by go_num, hjl, rfl, rfl, (show Hid _ from HFS.out.1 (by rw [HIX.out, HXA.out]; exact HBB.out)), (show Hid _ from HRL.out), (show Hid _ from HKI.out), HS.less H (by repeat (first | exact .slnil | refine .cons_cons _ ?_ | refine .cons _ ?_))⟩
                case measure => simp [intOf]; omega
              | false =>
                skip
                replace HBK := Lib.hid (fun wx hx => by have := HBK.out wx hx; rw [hbl] at this; exact this)
                have HBB := Lib.hid hbl
                clear hbl
                go_wp2_with fail
                refine (HBK.out _ (bytes_row HBL.out (H.at 4 rfl))).mono ?_
                rintro _ w17 ⟨rfl, hb⟩
                replace H := H.below hb
                clear hb
                try clear C
                try simp only [World.size_alloc, List.nil_append, List.cons_append, List.append_assoc] at H
                try clear w54
                have C := H.cells
                try simp only [cellsOf, cellsM, apartOf, apartM, and_true] at C
                dsimp only
                have hol : os.length ≤ 4096 := by have := (HFI.out).len HGW.out HLL.out; simp only [List.length_map] at this; have := HSZ.out; omega
                go_upto_region 13 with fail
                iterate 10 go_step
                generalize hwb : World.alloc _ _ = w70
                replace H := HS.eqW hwb H.alloc
                clear hwb C
                simp only [List.nil_append, List.cons_append] at H
                refine wpList_append_H rfl (.tmp 73) (.tmp 75) 31 rfl elemCw H 2 rfl rfl 6 rfl rfl rfl rfl (by decide) (by unfold maxLen; omega) (by omega) (fun gz9 cz9 w72 HZ => ?_)
                clear H
                simp only [List.set_cons_succ, List.set_cons_zero, List.nil_append, List.cons_append, List.append_assoc] at HZ
                have H9 := HS.less (L' := [.blk b3 #[.int .i64 k, .int .i64 p0, .int .i64 p1, .int .i64 p2, .int .i64 p3, .int .i64 p4, .int .i64 p5, .int .i64 (cN : Nat), .int .u8 ms, .int .u8 vl, .bool hd] 38, .row (.slice (some ⟨gl, 0, none⟩) L.length lc) 3 1 L.length (L.map intV), rowCw (some ⟨gz9, 0, none⟩) (os.length + 1) cz9 (os ++ [((⟨wi, bs2, wp⟩ : Wm), (⟨some ⟨g8, 0, none⟩, n9, cz⟩ : Sv))]), .any G KI, .row (.slice (some ⟨g8, 0, none⟩) n9 cz) 5 1 n9 (bs2.flatMap bC1)]) HZ (by
                  dsimp only [rowCw]
                  rw [List.flatMap_append]
                  repeat (first | exact .slnil | refine .cons_cons _ ?_ | refine .cons _ ?_))
                clear HZ
                have H8 := HS.anyOf (L := [_, _, _, _]) H9 rfl
                have H := HS.merge (L := [_, _, _]) H8
                clear H9 H8
                have HKN := Lib.hid (show ∀ w2, CwLie w2 ⟨xa0, q0.length, xc0⟩ q0 → (KI w2 ∧ (Item.row (.slice (some ⟨g8, 0, none⟩) n9 cz) 5 1 n9 (bs2.flatMap bC1)).ok w2) → CwOk w2 (os ++ [((⟨wi, bs2, wp⟩ : Wm), (⟨some ⟨g8, 0, none⟩, n9, cz⟩ : Sv))]) from fun w2 h1 h2 => cwOk_snoc (HKI.out w2 h1 h2.1) (bytes_row HBL.out h2.2))
                generalize hy : os ++ [((⟨wi, bs2, wp⟩ : Wm), (⟨some ⟨g8, 0, none⟩, n9, cz⟩ : Sv))] = os2 at H HKN
                have hyl : os.length + 1 = os2.length := by rw [← hy, List.length_append]; rfl
                rw [hyl] at H ⊢
                have HY := Lib.hid hy
                clear hy hyl
                skip
                try clear C
                try simp only [World.size_alloc, List.nil_append, List.cons_append, List.append_assoc] at H
                have C := H.cells
                try simp only [cellsOf, cellsM, apartOf, apartM, and_true] at C
                have hjl : j + 1 ≤ L.length := HJ.out
                have hll : L.length ≤ 4096 := HLQ.out
                go_wp2_with fail
                go_roundw
                case rel => exact ⟨os2, (((⟨ix, hbs, po⟩ : Wm), (⟨za, zn, zc⟩ : Sv)) :: qt), some ⟨gz9, 0, none⟩, cz9, (some ⟨b, o, none⟩), rc, j + 1, _, _, by go_num, hjl, rfl, rfl, (show Hid _ from by have h9 := HFS.out.2 (by rw [HIX.out, HXA.out]; exact HBB.out); rw [HIX.out, HXA.out] at h9; rw [← HY.out, List.map_append]; exact h9), (show Hid _ from HRL.out), (show Hid _ from HKN.out), H⟩
                case measure => simp [intOf]; omega
    · obtain rfl : j = L.length := by omega
      have HRW := Lib.hid (HRL.out _ (HCW.out.up H.done))
      have hol : os.length + qr.length ≤ 4096 := by have := (HFI.out).len HGW.out HLL.out; simp only [List.length_map] at this; have := HSZ.out; omega
      skip
      go_upto_region 15 with fail
      iterate 7 go_step
      refine wpList_apX rfl (.tmp 78) (.tmp 79) 31 rfl elemCw H 2 rfl rfl rfl (Lies.srcX cwC_len (by decide) HRW.out.2.1.1 HRW.out.2.2.1 HRW.out.2.1.2) (flat_len cwC_len qr) (cwC_one _) (by unfold maxLen; omega) (by omega) (N := (os ++ qr).length) (by rw [List.length_append]) (fun s9 c9 w9 HZ _ => ?_)
      clear H C
      simp only [List.set_cons_succ, List.set_cons_zero, List.nil_append, List.cons_append, List.append_assoc] at HZ
      have H := HZ
      clear HZ
      skip
      try clear C
      try simp only [World.size_alloc, List.nil_append, List.cons_append, List.append_assoc] at H
      have C := H.cells
      try simp only [cellsOf, cellsM, apartOf, apartM, and_true] at C
      go_wp2_with fail
      go_ret
      refine ⟨s9, c9, os ++ qr, G, KI, ?_, by first | rfl | go_simp, fun w2 h1 h2 q hq => ?_, HS.less H (by
        dsimp only [rowCw]
        rw [List.flatMap_append]
        repeat (first | exact .slnil | refine .cons_cons _ ?_ | refine .cons _ ?_))⟩
      · have h9 := HFI.out.1
        rw [List.take_length] at h9
        rw [List.map_append]; exact h9
      · rcases List.mem_append.1 hq with h3 | h3
        · exact HKI.out w2 h1 h2 q h3
        · exact (HRL.out w2 h1).2.2.2 q h3
end Go.Proofs.YtplflpmkomeadaaDoor
