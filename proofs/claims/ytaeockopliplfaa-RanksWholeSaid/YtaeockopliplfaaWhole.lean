/- The statement RanksWhole: its walk. -/
import Derived.Test.YtaeockopliplfaaRAwake
import Derived.Test.YtaeockopliplfaaShape
import Derived.Test.YtaeockopliplfaaSet
import Derived.Deep.CutRange
import Derived.Maps.Own
import Derived.Maps.OwnOps
import Derived.Deep.CutBlock
namespace Go.Proofs.Ytaeockopliplfaa
set_option linter.unusedSimpArgs false
set_option linter.unusedVariables false
open Go.RowKit
set_option maxRecDepth 100000
attribute [local go_sem] lt_more ne_more ne_more'
attribute [local go_sem] run_mkMap
attribute [local irreducible] wpX wpF Calls

theorem SV_w {a0 a1 a2 a3 a5 : Int} (h0 : 0 ≤ a0 ∧ a0 < 2) (h1 : 0 ≤ a1 ∧ a1 < 2) (h2 : 1 ≤ a2 ∧ a2 ≤ 2) (h3 : 0 ≤ a3 ∧ a3 < 2) (h5 : 0 ≤ a5 ∧ a5 < 2) : SV a0 a1 a2 a3 1 a5 := by constructor <;> omega
theorem PV_w {a0 a1 a2 a3 a4 a5 p0 p1 p2 p3 p4 p5 r : Int} (h : PV a0 a1 a2 a3 a4 a5 p0 p1 p2 p3 p4 p5) (hr : 0 ≤ r ∧ r < 2 ^ a2.toNat) : PV a0 a1 a2 a3 a4 a5 p0 p1 r 0 0 0 :=
  ⟨h.h0, h.h1, hr, ⟨by decide, by have := pw_pos a3; omega⟩, ⟨by decide, by have := pw_pos a4; omega⟩, ⟨by decide, by have := pw_pos a5; omega⟩⟩
theorem modF_ne {M x u : Int} (hM : 2 ≤ M) (hM2 : M ≤ 4096) (hx : 0 ≤ x ∧ x < M) (hu : 0 ≤ u ∧ u < M - 1) : 0 ≤ modF (x + 1 + u) M ∧ modF (x + 1 + u) M < M ∧ x ≠ modF (x + 1 + u) M := by
  have h1 := modF_in (n := x + 1 + u) (m := M) (by omega) (by omega)
  refine ⟨h1.1, h1.2, ?_⟩
  have e : modF (x + 1 + u) M = (x + 1 + u) % M := by
    unfold modF
    rw [if_neg (by omega), Int.tmod_eq_emod_of_nonneg (by omega)]
    have := Int.emod_nonneg (x + 1 + u) (show M ≠ 0 by omega)
    rw [if_neg (by omega)]
  rw [e]
  by_cases hc : x + 1 + u < M
  · rw [Int.emod_eq_of_lt (by omega) hc]; omega
  · have : (x + 1 + u) % M = x + 1 + u - M := by
      rw [← Int.sub_emod_right, Int.emod_eq_of_lt (by omega) (by omega)]
    omega

theorem fst_hi {a0 a1 a2 a3 a4 a5 so cn r : Int} (h : SV a0 a1 a2 a3 a4 a5) : fst a0 a1 a2 a3 a4 a5 so cn r = hi3 a1 a2 so cn r * rsz a3 a4 a5 := by
  unfold fst; rw [idx_hilo h]; simp [lo3]
/-- One step of the sparing: what Next and Copied give. -/
theorem step_of {a0 a1 a2 a3 a4 a5 so cn bd sp k : Int} (h : RS a0 a1 a2 a3 a4 a5 so cn bd sp) (hk : 0 ≤ k ∧ k ≤ rsz a3 a4 a5) : ∃ (frm dst k' f : Int) (ok : Bool),
    (∀ w, Calls Try.prog 14 #[vS a0 a1 a2 a3 a4 a5 so cn bd sp k true] w (Gives (.tuple #[.int .i64 frm, .int .i64 dst, .bool ok]) w)) ∧
    (∀ w, Calls Try.prog 15 #[vS a0 a1 a2 a3 a4 a5 so cn bd sp k true] w (Gives (.tuple #[vS a0 a1 a2 a3 a4 a5 so cn bd sp k' true, .int .i64 f]) w)) ∧
    ((ok = true ∧ k < rsz a3 a4 a5 ∧ frm = hi3 a1 a2 so cn bd * rsz a3 a4 a5 + k ∧ dst = hi3 a1 a2 so cn sp * rsz a3 a4 a5 + k ∧ k' = k + 1 ∧ f = 0) ∨ (ok = false ∧ k = rsz a3 a4 a5 ∧ k' = k ∧ f = 40)) := by
  by_cases hlt : k < rsz a3 a4 a5
  · refine ⟨_, _, _, _, _, fun w => next_yes h ⟨hk.1, hlt⟩ w, fun w => copied_yes h ⟨hk.1, hlt⟩ w, .inl ⟨rfl, hlt, ?_, ?_, rfl, rfl⟩⟩
    · rw [fst_hi h.sv]
    · rw [fst_hi h.sv]
  · have e : k = rsz a3 a4 a5 := by omega
    subst e
    exact ⟨_, _, _, _, _, fun w => next_no h w, fun w => copied_no h w, .inr ⟨rfl, rfl, rfl, rfl⟩⟩

/-- The word to which the word i leads: where it lies. -/
theorem whole_at {a0 a1 a2 a3 a4 a5 so cn bd sp k i : Int} (h : RS a0 a1 a2 a3 a4 a5 so cn bd sp) (hi0 : 0 ≤ i) (hi1 : i < 2 ^ (a0 + a1 + a2 + a3 + a4 + a5).toNat) (hk : 0 ≤ k ∧ k ≤ rsz a3 a4 a5) :
    ∃ q : P6, (∀ w, Calls Try.prog 16 #[v6 a0 a1 a2 a3 a4 a5, .int .i64 (whF (rsz a3 a4 a5) (hi3 a1 a2 so cn bd) (hi3 a1 a2 so cn sp) k i)] w (Gives (.tuple #[v6 q.a q.b q.c q.d q.e q.f, .int .i64 0]) w)) ∧
      (k = rsz a3 a4 a5 → i / rsz a3 a4 a5 = hi3 a1 a2 so cn bd → q.c = sp) := by
  have hin := whF_in h.sv hi0 hi1 h.ps (bd := bd) (k := k)
  refine ⟨_, fun w => rat_is h.sv hin.1 hin.2 w, fun hkk hh => ?_⟩
  subst hkk
  rw [whF_all (rsz_in h.sv).1 hh, (at_moved h.sv hi0 hi1 h.ps).1]
theorem whole_cases {a0 a1 a2 a3 a4 a5 so cn bd sp k k' f i R hb hs va vb frm dst : Int} {ok : Bool} {q : P6} (h : RS a0 a1 a2 a3 a4 a5 so cn bd sp) (hi0 : 0 ≤ i) (hi1 : i < 2 ^ (a0 + a1 + a2 + a3 + a4 + a5).toNat) (hR1 : 1 ≤ R) (hbs : hb ≠ hs)
    (hR : R = rsz a3 a4 a5) (hhb : hb = hi3 a1 a2 so cn bd) (hhs : hs = hi3 a1 a2 so cn sp) (hva : va = whF R hb hs k i) (hvb : vb = whF R hb hs k' i) (hk : 0 ≤ k ∧ k ≤ R)
    (hcase : (ok = true ∧ k < R ∧ frm = hb * R + k ∧ dst = hs * R + k ∧ k' = k + 1 ∧ f = 0) ∨ (ok = false ∧ k = R ∧ k' = k ∧ f = 40)) (hq : k = R → i / R = hb → q.c = sp) :
    (ok = true ∧ i = frm ∧ i = va ∧ vb = dst ∧ i ≠ dst ∧ (atF a0 a1 a2 a3 a4 a5 i).a = so ∧ (atF a0 a1 a2 a3 a4 a5 i).b = cn ∧ (atF a0 a1 a2 a3 a4 a5 i).c = bd ∧ i / R ≠ hs) ∨
    (ok = true ∧ i ≠ frm ∧ va = vb ∧ (atF a0 a1 a2 a3 a4 a5 i).a = so ∧ (atF a0 a1 a2 a3 a4 a5 i).b = cn ∧ (atF a0 a1 a2 a3 a4 a5 i).c = sp) ∨
    (ok = true ∧ i ≠ frm ∧ va = vb ∧ (atF a0 a1 a2 a3 a4 a5 i).a = so ∧ (atF a0 a1 a2 a3 a4 a5 i).b = cn ∧ (atF a0 a1 a2 a3 a4 a5 i).c = bd ∧ i / R ≠ hs) ∨
    (ok = true ∧ i ≠ frm ∧ i = va ∧ i = vb ∧ (atF a0 a1 a2 a3 a4 a5 i).a ≠ so ∧ i / R ≠ hs) ∨
    (ok = true ∧ i ≠ frm ∧ i = va ∧ i = vb ∧ (atF a0 a1 a2 a3 a4 a5 i).a = so ∧ (atF a0 a1 a2 a3 a4 a5 i).b ≠ cn ∧ i / R ≠ hs) ∨
    (ok = true ∧ i ≠ frm ∧ i = va ∧ i = vb ∧ (atF a0 a1 a2 a3 a4 a5 i).a = so ∧ (atF a0 a1 a2 a3 a4 a5 i).b = cn ∧ (atF a0 a1 a2 a3 a4 a5 i).c ≠ sp ∧ (atF a0 a1 a2 a3 a4 a5 i).c ≠ bd ∧ i / R ≠ hs) ∨
    (ok = false ∧ (atF a0 a1 a2 a3 a4 a5 i).a = so ∧ (atF a0 a1 a2 a3 a4 a5 i).b = cn ∧ (atF a0 a1 a2 a3 a4 a5 i).c = sp) ∨
    (ok = false ∧ (atF a0 a1 a2 a3 a4 a5 i).a = so ∧ (atF a0 a1 a2 a3 a4 a5 i).b = cn ∧ (atF a0 a1 a2 a3 a4 a5 i).c = bd ∧ q.c = sp ∧ i / R ≠ hs) ∨
    (ok = false ∧ i = va ∧ (atF a0 a1 a2 a3 a4 a5 i).a ≠ so ∧ i / R ≠ hs) ∨
    (ok = false ∧ i = va ∧ (atF a0 a1 a2 a3 a4 a5 i).a = so ∧ (atF a0 a1 a2 a3 a4 a5 i).b ≠ cn ∧ i / R ≠ hs) ∨
    (ok = false ∧ i = va ∧ (atF a0 a1 a2 a3 a4 a5 i).a = so ∧ (atF a0 a1 a2 a3 a4 a5 i).b = cn ∧ (atF a0 a1 a2 a3 a4 a5 i).c ≠ sp ∧ (atF a0 a1 a2 a3 a4 a5 i).c ≠ bd ∧ i / R ≠ hs) := by
  obtain ⟨hp, hd1, -⟩ := at_div h.sv hi0 hi1
  rw [← hR] at hd1
  have iB : i / R = hb ↔ ((atF a0 a1 a2 a3 a4 a5 i).a = so ∧ (atF a0 a1 a2 a3 a4 a5 i).b = cn ∧ (atF a0 a1 a2 a3 a4 a5 i).c = bd) := by
    rw [hd1, hhb]; exact ⟨fun e => hi3_inj hp h.pb e, fun ⟨x, y, z⟩ => by rw [x, y, z]⟩
  have iS : i / R = hs ↔ ((atF a0 a1 a2 a3 a4 a5 i).a = so ∧ (atF a0 a1 a2 a3 a4 a5 i).b = cn ∧ (atF a0 a1 a2 a3 a4 a5 i).c = sp) := by
    rw [hd1, hhs]; exact ⟨fun e => hi3_inj hp h.ps e, fun ⟨x, y, z⟩ => by rw [x, y, z]⟩
  generalize atF a0 a1 a2 a3 a4 a5 i = t at *
  clear hp hd1 hi1 hR hhb hhs
  have hstay : i / R ≠ hb → i = va ∧ i = vb := fun hn => by rw [hva, hvb, whF_stays hn, whF_stays hn]; exact ⟨rfl, rfl⟩
  rcases hcase with ⟨hok, hlt, hf, hd, hk', -⟩ | ⟨hok, hkR, hk', -⟩
  · obtain ⟨s1, s2⟩ := whF_step (i := i) hR1 ⟨hk.1, hlt⟩ hbs
    rw [← hva, show k + 1 = k' from hk'.symm, ← hvb] at s1
    rw [← hva, show k + 1 = k' from hk'.symm, ← hvb] at s2
    by_cases hfi : i = frm
    · have h2 := s2 (by omega)
      have hdiv : i / R = hb := by
        have := (divmod_of (q := hb) (r := k) (R := R) ⟨hk.1, hlt⟩).1
        rw [← hf, ← hfi] at this; exact this
      have h3 := s1.2 (by omega)
      have h4 := iB.1 hdiv
      exact .inl ⟨hok, hfi, by omega, by omega, by omega, h4.1, h4.2.1, h4.2.2, by omega⟩
    · have hsame : va = vb := by
        by_cases e : va = vb
        · exact e
        · exact absurd (s1.1 e) (by omega)
      refine .inr ?_
      by_cases c1 : i / R = hs
      · have := iS.1 c1
        exact .inl ⟨hok, hfi, hsame, this⟩
      · by_cases c2 : i / R = hb
        · have := iB.1 c2
          exact .inr (.inl ⟨hok, hfi, hsame, this.1, this.2.1, this.2.2, c1⟩)
        · obtain ⟨e1, e2⟩ := hstay c2
          by_cases d1 : t.a = so
          · by_cases d2 : t.b = cn
            · exact .inr (.inr (.inr (.inr (.inl ⟨hok, hfi, e1, e2, d1, d2, fun e => c1 (iS.2 ⟨d1, d2, e⟩), fun e => c2 (iB.2 ⟨d1, d2, e⟩), c1⟩))))
            · exact .inr (.inr (.inr (.inl ⟨hok, hfi, e1, e2, d1, d2, c1⟩)))
          · exact .inr (.inr (.inl ⟨hok, hfi, e1, e2, d1, c1⟩))
  · refine .inr (.inr (.inr (.inr (.inr (.inr ?_)))))
    by_cases c1 : i / R = hs
    · have := iS.1 c1
      exact .inl ⟨hok, this⟩
    · by_cases c2 : i / R = hb
      · have := iB.1 c2
        exact .inr (.inl ⟨hok, this.1, this.2.1, this.2.2, hq hkR c2, c1⟩)
      · obtain ⟨e1, e2⟩ := hstay c2
        by_cases d1 : t.a = so
        · by_cases d2 : t.b = cn
          · exact .inr (.inr (.inr (.inr ⟨hok, e1, d1, d2, fun e => c1 (iS.2 ⟨d1, d2, e⟩), fun e => c2 (iB.2 ⟨d1, d2, e⟩), c1⟩)))
          · exact .inr (.inr (.inr (.inl ⟨hok, e1, d1, d2, c1⟩)))
        · exact .inr (.inr (.inl ⟨hok, e1, d1, c1⟩))

set_option maxHeartbeats 60000000 in
theorem whole_walk (sa : Option Addr) (len cap : Nat) (hl : len ≤ maxLen) (bad spare : Int) (w : World) (hI : Ints w sa len) :
    Calls Try.prog 3 #[.slice sa len cap, .int .i64 bad, .int .i64 spare] w (Gives (.bool true) w) := by
  have HT : Try.prog.underlying 44 = some (.map 3 4) := by kernel_rfl
  have HK : Try.prog.underlying 3 = some (.int .i64) := by kernel_rfl
  have HE : ∀ w, (zeroValue 4).run Try.prog w = .ok (.bool false) w := fun w => by rfl
  have HI := Lib.hid hI
  clear hI
  have hli := light_any sa len cap hl
  clear hl
  by_cases h400 : len ≤ 400
  · rw [decide_eq_true h400] at hli
    have HLI := Lib.hid hli
    clear hli
    go_enter Try.func3, Try.ntmps3
    have H := HS.start NoD w
    go_wp2_with fail
    refine (gives_of (HLI.out _)).mono ?_
    rintro _ w1 ⟨rfl, hb⟩
    replace H := H.below hb
    clear hb
    try clear C
    try simp only [World.size_alloc, List.nil_append, List.cons_append, List.append_assoc] at H
    have C := H.cells
    try simp only [cellsOf, apartOf, and_true] at C
    dsimp only
    go_wp2_with fail
    refine (roll_at w.heap.size _ _ _ h400 _ H.size (H.ints HI.out)).mono ?_
    rintro _ w2 ⟨b, rfl, hd, hb, hbb⟩
    replace H := H.getsDice hb hd hbb (Nat.le_refl _)
    clear hb hd hbb
    try clear C
    try simp only [World.size_alloc, List.nil_append, List.cons_append, List.append_assoc] at H
    try clear w1
    have C := H.cells
    try simp only [cellsOf, apartOf, and_true] at C
    dsimp only
    go_wp2_with fail
    refine (next_any 2 (by omega) w.heap.size b _ (H.at 0 rfl)).mono ?_
    rintro _ w3 ⟨a0, rfl, h0, hd, hg⟩
    replace H := (H).diceAt 0 rfl hg hd
    clear hg hd
    try clear C
    try simp only [World.size_alloc, List.nil_append, List.cons_append, List.append_assoc] at H
    try clear w2
    have C := H.cells
    try simp only [cellsOf, apartOf, and_true] at C
    dsimp only
    go_wp2_with fail
    refine (next_any 2 (by omega) w.heap.size b _ (H.at 0 rfl)).mono ?_
    rintro _ w4 ⟨a1, rfl, h1, hd, hg⟩
    replace H := (H).diceAt 0 rfl hg hd
    clear hg hd
    try clear C
    try simp only [World.size_alloc, List.nil_append, List.cons_append, List.append_assoc] at H
    try clear w3
    have C := H.cells
    try simp only [cellsOf, apartOf, and_true] at C
    dsimp only
    go_wp2_with fail
    refine (next_any 2 (by omega) w.heap.size b _ (H.at 0 rfl)).mono ?_
    rintro _ w5 ⟨c2, rfl, h2, hd, hg⟩
    replace H := (H).diceAt 0 rfl hg hd
    clear hg hd
    try clear C
    try simp only [World.size_alloc, List.nil_append, List.cons_append, List.append_assoc] at H
    try clear w4
    have C := H.cells
    try simp only [cellsOf, apartOf, and_true] at C
    dsimp only
    replace h0 : 0 ≤ a0 ∧ a0 < 2 := ⟨h0.1, h0.lt (by decide)⟩
    replace h1 : 0 ≤ a1 ∧ a1 < 2 := ⟨h1.1, h1.lt (by decide)⟩
    replace h2 : 0 ≤ c2 ∧ c2 < 2 := ⟨h2.1, h2.lt (by decide)⟩
    obtain ⟨a2, ha2⟩ : ∃ a2, a2 = 1 + c2 := ⟨_, rfl⟩
    have q2 : wrap64 (1 + c2) = a2 := by rw [ha2]; exact IntWalk.wrap64_in _ (by omega)
    replace h2 : 1 ≤ a2 ∧ a2 ≤ 2 := by omega
    clear ha2
    go_wp2_with fail
    refine (next_any 2 (by omega) w.heap.size b _ (H.at 0 rfl)).mono ?_
    rintro _ w6 ⟨a3, rfl, h3, hd, hg⟩
    replace H := (H).diceAt 0 rfl hg hd
    clear hg hd
    try clear C
    try simp only [World.size_alloc, List.nil_append, List.cons_append, List.append_assoc] at H
    try clear w5
    have C := H.cells
    try simp only [cellsOf, apartOf, and_true] at C
    dsimp only
    go_wp2_with fail
    refine (next_any 2 (by omega) w.heap.size b _ (H.at 0 rfl)).mono ?_
    rintro _ w7 ⟨a5, rfl, h5, hd, hg⟩
    replace H := (H).diceAt 0 rfl hg hd
    clear hg hd
    try clear C
    try simp only [World.size_alloc, List.nil_append, List.cons_append, List.append_assoc] at H
    try clear w6
    have C := H.cells
    try simp only [cellsOf, apartOf, and_true] at C
    dsimp only
    replace h3 : 0 ≤ a3 ∧ a3 < 2 := ⟨h3.1, h3.lt (by decide)⟩
    replace h5 : 0 ≤ a5 ∧ a5 < 2 := ⟨h5.1, h5.lt (by decide)⟩
    have HSV := Lib.hid (SV_w h0 h1 h2 h3 h5)
    go_wp2_with fail
    clear q2
    refine (place_any HSV.out w.heap.size b _ (H.alloc.at 0 rfl)).mono ?_
    rintro _ w8 ⟨p0, p1, p2, p3, p4, p5, rfl, hp, hd, hg⟩
    replace H := (H.alloc).diceAt 0 rfl hg hd
    clear hg hd
    try clear C
    try simp only [World.size_alloc, List.nil_append, List.cons_append, List.append_assoc] at H
    generalize w7.heap.size = bS at H ⊢
    try clear w7
    have C := H.cells
    try simp only [cellsOf, apartOf, and_true] at C
    dsimp only
    have HP := Lib.hid hp
    clear hp
    have hMM := pw_12 (a := a2) (by omega)
    have hM2 : (2 : Int) ≤ 2 ^ a2.toNat := by have := pw_le (a := 1) (b := a2) (by omega); simpa using this
    obtain ⟨M, hM⟩ : ∃ M : Int, M = 2 ^ a2.toNat := ⟨_, rfl⟩
    have q3 : wrap64 (2 ^ a2.toNat) = M := by rw [hM]; exact wrap_pw (by omega)
    rw [← hM] at hMM hM2
    have HM := Lib.hid hM
    clear hM
    have HQ3 := Lib.hid q3
    clear q3
    have q4 : wrap64 (M - 1) = M - 1 := IntWalk.wrap64_in _ (by omega)
    have q3 := HQ3.out
    go_wp2_with fail
    refine (gives_of (mod_any _ _ _)).mono ?_
    rintro _ w9 ⟨rfl, hb⟩
    replace H := H.alloc.below hb
    clear hb
    try clear C
    try simp only [World.size_alloc, List.nil_append, List.cons_append, List.append_assoc] at H
    generalize w8.heap.size = bP at H ⊢
    try clear w8
    have C := H.cells
    try simp only [cellsOf, apartOf, and_true] at C
    dsimp only
    have hbd := modF_in (n := bad) (m := M) (by omega) (by omega)
    obtain ⟨bd, hbde⟩ : ∃ bd, bd = modF bad M := ⟨_, rfl⟩
    rw [← hbde] at hbd ⊢
    clear hbde
    go_wp2_with fail
    obtain ⟨u, hu⟩ : ∃ u, u = modF spare (M - 1) := ⟨_, rfl⟩
    have hu1 : 0 ≤ u ∧ u < M - 1 := by rw [hu]; exact modF_in (by omega) (by omega)
    obtain ⟨sp, hsp⟩ : ∃ sp, sp = modF (bd + 1 + u) M := ⟨_, rfl⟩
    have hs3 := modF_ne hM2 hMM hbd hu1
    rw [← hsp] at hs3
    have q5 : wrap64 (bd + 1) = bd + 1 := by clear q3; exact IntWalk.wrap64_in _ (by omega)
    have q6 : wrap64 (bd + 1 + u) = bd + 1 + u := by clear q3; exact IntWalk.wrap64_in _ (by omega)
    have q7 := hu.symm
    have q8 := hsp.symm
    clear hu hsp
    refine wp_region_xH (by kernel_rfl) (by kernel_rfl) (by kernel_rfl) (by kernel_rfl) (fun _ => False) (H) ?_
    clear H; intro w10 H hz0 hs0
    try clear C
    try simp only [World.size_alloc, List.nil_append, List.cons_append, List.append_assoc] at H hz0
    clear hz0
    try clear w9
    have C := H.cells
    try simp only [cellsOf, apartOf, and_true] at C
    have Z := H.zs
    try simp only [ltsOf, and_true] at Z
    have hz0 := Nat.le_refl w10.heap.size
    repeat (first | (refine wpX_skip rfl ?_; go_simp) | (refine wpX_free rfl rfl rfl (fun K hK => ?_); go_step; refine hK _ _ ?_; clear hK K) | (refine wpX_load rfl rfl rfl (by simp [Stay, OneD, NoD, *]) hs0 (by simp [*]) (fun K hK => ?_); go_step; refine hK _ _ ?_; clear hK K))
    refine wpX_eff rfl rfl (fun _ _ => ?_)
    go_step
    refine (gives_of (mod_any _ _ _)).mono ?_
    rintro _ w11 ⟨rfl, hb⟩
    replace hs0 := hs0.belowS hz0 hb
    replace hz0 := Nat.le_trans hz0 hb.size
    replace H := H.below hb
    clear hb
    try clear C
    have C := H.cells
    try simp only [cellsOf, apartOf, and_true] at C
    try clear w10
    dsimp only
    go_step
    refine ⟨hs0, ?_⟩
    rw [q7]
    repeat (first | (refine wpX_skip rfl ?_; go_simp) | (refine wpX_free rfl rfl rfl (fun K hK => ?_); go_step; refine hK _ _ ?_; clear hK K) | (refine wpX_load rfl rfl rfl (by simp [Stay, OneD, NoD, *]) hs0 (by simp [*]) (fun K hK => ?_); go_step; refine hK _ _ ?_; clear hK K))
    refine wpX_eff rfl rfl (fun _ _ => ?_)
    go_step
    refine (gives_of (mod_any _ _ _)).mono ?_
    rintro _ w12 ⟨rfl, hb⟩
    replace hs0 := hs0.belowS hz0 hb
    replace hz0 := Nat.le_trans hz0 hb.size
    replace H := H.below hb
    clear hb
    try clear C
    have C := H.cells
    try simp only [cellsOf, apartOf, and_true] at C
    try clear w11
    dsimp only
    go_step
    refine ⟨hs0, ?_⟩
    rw [q8]
    repeat (first | (refine wpX_skip rfl ?_; go_simp) | (refine wpX_free rfl rfl rfl (fun K hK => ?_); go_step; refine hK _ _ ?_; clear hK K) | (refine wpX_load rfl rfl rfl (by simp [Stay, OneD, NoD, *]) hs0 (by simp [*]) (fun K hK => ?_); go_step; refine hK _ _ ?_; clear hK K))
    (refine wpX_nil ?_; go_step)
    have HRS : Hid (RS a0 a1 a2 a3 1 a5 p0 p1 bd sp) := ⟨HSV.out, PV_w HP.out (by rw [← HM.out]; exact hbd), PV_w HP.out (by rw [← HM.out]; exact ⟨hs3.1, hs3.2.1⟩), hs3.2.2⟩
    clear q3 q4 q5 q6 q7 q8 hs3
    go_wp2_with fail
    refine (start_of HRS.out _).mono ?_
    rintro _ w13 ⟨rfl, hb⟩
    replace H := H.below hb
    clear hb
    try clear C
    try simp only [World.size_alloc, List.nil_append, List.cons_append, List.append_assoc] at H
    try clear w12
    have C := H.cells
    try simp only [cellsOf, apartOf, and_true] at C
    dsimp only
    go_wp2_with fail
    have hsz : ∀ w, Calls Try.prog 12 #[v6 a0 a1 a2 a3 1 a5] w (Gives (.int .i64 (2 ^ (a0 + a1 + a2 + a3 + 1 + a5).toNat)) w) := fun w => rsize_yes HRS.out.sv w
    have hNN := pw_12 (a := a0 + a1 + a2 + a3 + 1 + a5) HRS.out.sv.sum
    have hN1 := pw_pos (a0 + a1 + a2 + a3 + 1 + a5)
    obtain ⟨N, hN⟩ : ∃ N : Int, N = 2 ^ (a0 + a1 + a2 + a3 + 1 + a5).toNat := ⟨_, rfl⟩
    rw [← hN] at hsz hNN hN1
    have HSZ := Lib.hid hsz
    have HN := Lib.hid hN
    clear hsz hN
    refine (HSZ.out _).mono ?_
    rintro _ w14 ⟨rfl, hb⟩
    replace H := H.alloc.below hb
    clear hb
    try clear C
    try simp only [World.size_alloc, List.nil_append, List.cons_append, List.append_assoc] at H
    generalize w13.heap.size = bX at H ⊢
    try clear w13
    have C := H.cells
    try simp only [cellsOf, apartOf, and_true] at C
    dsimp only
    go_wp2_with fail
    have hz := rsz_in HRS.out.sv
    obtain ⟨R, hR⟩ : ∃ R, R = rsz a3 1 a5 := ⟨_, rfl⟩
    rw [← hR] at hz
    have hwd : ∀ w, Calls Try.prog 13 #[vS a0 a1 a2 a3 1 a5 p0 p1 bd sp 0 true] w (Gives (.int .i64 R) w) := fun w => by rw [hR]; exact words_of HRS.out (dn := 0) (by rw [← hR]; omega) w
    have HWD := Lib.hid hwd
    have HR := Lib.hid hR
    clear hwd hR
    refine (HWD.out _).mono ?_
    rintro _ w15 ⟨rfl, hb⟩
    replace H := H.below hb
    clear hb
    try clear C
    try simp only [World.size_alloc, List.nil_append, List.cons_append, List.append_assoc] at H
    try clear w14
    have C := H.cells
    try simp only [cellsOf, apartOf, and_true] at C
    dsimp only
    go_wp2_with fail
    obtain ⟨hb, hhb⟩ : ∃ hb, hb = hi3 a1 a2 p0 p1 bd := ⟨_, rfl⟩
    obtain ⟨hs, hhs⟩ : ∃ hs, hs = hi3 a1 a2 p0 p1 sp := ⟨_, rfl⟩
    have hbs : hb ≠ hs := by rw [hhb, hhs]; exact hi3_ne HRS.out.ne
    have HHB := Lib.hid hhb
    have HHS := Lib.hid hhs
    clear hhb hhs
    go_loopw [14] (fun c wr => ∃ k : Int, c = .int .i64 k ∧ 0 ≤ k ∧ k ≤ R + 1 ∧ HS NoD w [.dice w.heap.size b, .blk bS #[.int .i64 a0, .int .i64 a1, .int .i64 a2, .int .i64 a3, .int .i64 1, .int .i64 a5] 29, .blk bP #[.int .i64 p0, .int .i64 p1, .int .i64 p2, .int .i64 p3, .int .i64 p4, .int .i64 p5] 30, .blk bX #[.int .i64 a0, .int .i64 a1, .int .i64 a2, .int .i64 a3, .int .i64 1, .int .i64 a5, .int .i64 p0, .int .i64 p1, .int .i64 bd, .int .i64 sp, .int .i64 (min k R), .bool true] 35] wr) (fun c _ => (R + 1 - intOf c).toNat)
    case atStart => exact ⟨0, rfl, Int.le_refl _, by omega, by rw [show min 0 R = 0 by omega]; exact H⟩
    case round =>
      clear H C w15
      obtain ⟨k, rfl, hk0, hk1, H⟩ := hrel
      skip
      by_cases hk : k ≤ R
      · rw [show min k R = k by omega] at H
        obtain ⟨frm, dst, k', f, ok, hnx, hcp, hcase⟩ := step_of HRS.out (k := k) (by rw [← HR.out]; exact ⟨hk0, hk⟩)
        rw [← HR.out, ← HHB.out, ← HHS.out] at hcase
        have HNX := Lib.hid hnx
        have HCP := Lib.hid hcp
        have hk' : 0 ≤ k' ∧ k' ≤ R := by rcases hcase with ⟨-, h1, -, -, h2, -⟩ | ⟨-, h1, h2, -⟩ <;> omega
        have HCS := Lib.hid hcase
        have hdk : ok = decide (k < R) := by rcases hcase with ⟨h1, h2, -⟩ | ⟨h1, h2, -⟩ <;> simp [h1, h2]
        have hf : f = if k < R then 0 else 40 := by rcases hcase with ⟨-, h1, -, -, -, h2⟩ | ⟨-, h1, -, h2⟩ <;> simp [h1, h2]
        have hok : (ok = true ∧ k < R ∧ f = 0) ∨ (ok = false ∧ ¬ k < R ∧ f = 40) := by
          rcases hcase with ⟨h1, h2, -, -, -, h3⟩ | ⟨h1, h2, -, h3⟩
          · exact .inl ⟨h1, h2, h3⟩
          · exact .inr ⟨h1, by omega, h3⟩
        clear hnx hcp hcase hdk hf
        try clear C
        try simp only [World.size_alloc, List.nil_append, List.cons_append, List.append_assoc] at H
        have C := H.cells
        try simp only [cellsOf, apartOf, and_true] at C
        rcases hok with ⟨rfl, hlt, rfl⟩ | ⟨rfl, hlt, rfl⟩
        · as_aux_lemma =>
          skip
          go_wp2_with fail
          refine (HNX.out _).mono ?_
          rintro _ w16 ⟨rfl, hb⟩
          replace H := H.below hb
          clear hb
          try clear C
          try simp only [World.size_alloc, List.nil_append, List.cons_append, List.append_assoc] at H
          try clear wr
          have C := H.cells
          try simp only [cellsOf, apartOf, and_true] at C
          dsimp only
          go_wp2_with fail
          refine (HCP.out _).mono ?_
          rintro _ w17 ⟨rfl, hb⟩
          replace H := H.below hb
          clear hb
          try clear C
          try simp only [World.size_alloc, List.nil_append, List.cons_append, List.append_assoc] at H
          try clear w16
          have C := H.cells
          try simp only [cellsOf, apartOf, and_true] at C
          dsimp only
          go_wp2_with fail
          generalize hwb : (w17.alloc _).alloc _ = wm
          replace H := HS.eqW hwb H.alloc.allocObj
          try simp only [World.size_alloc, List.nil_append, List.cons_append, List.append_assoc] at H
          clear hwb
          generalize w17.heap.size + 1 = bm at H ⊢
          generalize w17.heap.size = bY at H ⊢
          clear C
          try clear w17
          go_loopw [127] (fun c wr => ∃ (i : Int) (es : Array MapEntry) (clock : Nat) (S : List Int), c = .int .i64 i ∧ 0 ≤ i ∧ i ≤ N ∧ SetM es S ∧ (∀ v ∈ S, ∃ j, 0 ≤ j ∧ j < i ∧ j / R ≠ hs ∧ whF R hb hs k j = v) ∧ HS NoD w [.dice w.heap.size b, .blk bS #[.int .i64 a0, .int .i64 a1, .int .i64 a2, .int .i64 a3, .int .i64 1, .int .i64 a5] 29, .blk bP #[.int .i64 p0, .int .i64 p1, .int .i64 p2, .int .i64 p3, .int .i64 p4, .int .i64 p5] 30, .blk bX #[.int .i64 a0, .int .i64 a1, .int .i64 a2, .int .i64 a3, .int .i64 1, .int .i64 a5, .int .i64 p0, .int .i64 p1, .int .i64 bd, .int .i64 sp, .int .i64 k, .bool true] 35, .blk bY #[.int .i64 a0, .int .i64 a1, .int .i64 a2, .int .i64 a3, .int .i64 1, .int .i64 a5, .int .i64 p0, .int .i64 p1, .int .i64 bd, .int .i64 sp, .int .i64 k', .bool true] 35, .obj bm (.map es clock)] wr) (fun c _ => (N - intOf c).toNat)
          case atStart => exact ⟨0, #[], 0, [], rfl, Int.le_refl _, by omega, SetM.nil, fun v hv => (List.not_mem_nil hv).elim, H⟩
          case round =>
            clear H wm
            obtain ⟨i, es, clock, S, rfl, hi0, hiN, hSM, hSI, H⟩ := hrel
            have HSM := Lib.hid hSM
            have HSI := Lib.hid hSI
            clear hSM hSI
            skip
            try clear C
            try simp only [World.size_alloc, List.nil_append, List.cons_append, List.append_assoc] at H
            have C := H.cells
            try simp only [cellsOf, apartOf, and_true] at C
            by_cases hi : i < N
            · have hiS : i < 2 ^ (a0 + a1 + a2 + a3 + 1 + a5).toNat := by rw [← HN.out]; exact hi
              have HA := Lib.hid (fun w => rat_is HRS.out.sv hi0 hiS w)
              obtain ⟨va, hva⟩ : ∃ va, va = whF R hb hs k i := ⟨_, rfl⟩
              obtain ⟨vb, hvb⟩ : ∃ vb, vb = whF R hb hs k' i := ⟨_, rfl⟩
              have hwx : ∀ w, Calls Try.prog 17 #[vS a0 a1 a2 a3 1 a5 p0 p1 bd sp k true, .int .i64 i] w (Gives (.tuple #[.int .i64 va, .int .i64 0]) w) := fun w => by
                rw [hva, HR.out, HHB.out, HHS.out]; exact where_of HRS.out (by rw [← HR.out]; exact ⟨hk0, hk⟩) hi0 hiS w
              have hwy : ∀ w, Calls Try.prog 17 #[vS a0 a1 a2 a3 1 a5 p0 p1 bd sp k' true, .int .i64 i] w (Gives (.tuple #[.int .i64 vb, .int .i64 0]) w) := fun w => by
                rw [hvb, HR.out, HHB.out, HHS.out]; exact where_of HRS.out (by rw [← HR.out]; exact hk') hi0 hiS w
              have hq := whole_at HRS.out hi0 hiS (k := k) (by rw [← HR.out]; exact ⟨hk0, hk⟩)
              rw [← HR.out, ← HHB.out, ← HHS.out, ← hva] at hq
              obtain ⟨qr, hqr, hqc⟩ := hq
              have hcs := whole_cases HRS.out hi0 hiS hz.1 hbs HR.out HHB.out HHS.out hva hvb ⟨hk0, hk⟩ (ok := true) (f := 0) (.inl ⟨rfl, hlt, by have := HCS.out; simp at this; exact ⟨this.2.1, this.2.2.1, this.2.2.2, rfl⟩⟩) hqc
              have HNEW : Hid (i / R ≠ hs → va ∉ S) := fun h hm => by
                obtain ⟨j, h1, h2, h3, h4⟩ := HSI.out va hm
                have := whF_inj hz.1 h3 h (h4.trans hva)
                omega
              have HADD : Hid (i / R ≠ hs → ∀ v ∈ S ++ [va], ∃ j, 0 ≤ j ∧ j < i + 1 ∧ j / R ≠ hs ∧ whF R hb hs k j = v) := fun h v hm => by
                rcases List.mem_append.1 hm with hm | hm
                · obtain ⟨j, h1, h2, h3, h4⟩ := HSI.out v hm
                  exact ⟨j, h1, by omega, h3, h4⟩
                · rw [List.mem_singleton.1 hm]
                  exact ⟨i, hi0, by omega, h, hva.symm⟩
              have HWX := Lib.hid hwx
              have HWY := Lib.hid hwy
              have HQR := Lib.hid hqr
              clear hwx hwy hva hvb hiS hqr hqc
              have HCC := Lib.hid hcs
              clear hcs
              go_wp2_with fail
              refine (HA.out _).mono ?_
              rintro _ w18 ⟨rfl, hb⟩
              replace H := H.below hb
              clear hb
              try clear C
              try simp only [World.size_alloc, List.nil_append, List.cons_append, List.append_assoc] at H
              try clear wr
              have C := H.cells
              try simp only [cellsOf, apartOf, and_true] at C
              dsimp only
              go_wp2_with fail
              refine (HWX.out _).mono ?_
              rintro _ w19 ⟨rfl, hb⟩
              replace H := H.alloc.below hb
              clear hb
              try clear C
              try simp only [World.size_alloc, List.nil_append, List.cons_append, List.append_assoc] at H
              generalize w18.heap.size = bQ at H ⊢
              try clear w18
              have C := H.cells
              try simp only [cellsOf, apartOf, and_true] at C
              dsimp only
              go_wp2_with fail
              refine (HWY.out _).mono ?_
              rintro _ w20 ⟨rfl, hb⟩
              replace H := H.below hb
              clear hb
              try clear C
              try simp only [World.size_alloc, List.nil_append, List.cons_append, List.append_assoc] at H
              try clear w19
              have C := H.cells
              try simp only [cellsOf, apartOf, and_true] at C
              dsimp only
              skip
              have hcs := HCC.out
              clear HCC
              rcases hcs with hcs | hcs | hcs | hcs | hcs | hcs | hcs | hcs | hcs | hcs | hcs
              · as_aux_lemma =>
                obtain ⟨hok, rfl, rfl, rfl, hid, e1, e2, e3, hns⟩ := hcs
                have hid2 := bne_iff_ne.2 hid
                have hid3 := bne_iff_ne.2 (Ne.symm hid)
                have hne := HRS.out.ne
                skip
                go_wp2_with fail
                refine (HQR.out _).mono ?_
                rintro _ w21 ⟨rfl, hb⟩
                replace H := H.below hb
                clear hb
                try clear C
                try simp only [World.size_alloc, List.nil_append, List.cons_append, List.append_assoc] at H
                try clear w20
                have C := H.cells
                try simp only [cellsOf, apartOf, and_true] at C
                dsimp only
                go_upto_region 32 with fail
                generalize hwb : w21.alloc _ = w22
                replace H := HS.eqW hwb H.alloc
                try simp only [World.size_alloc, List.nil_append, List.cons_append, List.append_assoc] at H
                clear hwb
                generalize w21.heap.size = bR2 at H ⊢
                try clear C
                try clear w21
                have C := H.cells
                try simp only [cellsOf, apartOf, and_true] at C
                go_upto_region 34 with (at_lookup; refine wpList_lookup_want (by rfl) (.tmp 209) (.tmp 210) rfl HT HK HE H 5 rfl HSM.out rfl rfl (HNEW.out hns) ?_)
                go_upto_region 35 with (at_mapUpdate; refine wpList_update_set rfl (.tmp 246) (.tmp 247) _ rfl HT HK H 5 rfl HSM.out rfl rfl rfl (HNEW.out hns) (fun wz es' clock' hS' HZ => ?_))
                go_wp2_with fail
                go_roundw
                case rel => exact ⟨i + 1, es', clock', _, by go_num, by omega, by omega, hS', HADD.out hns, HZ.less (by repeat (first | exact .slnil | refine .cons_cons _ ?_ | refine .cons _ ?_))⟩
                case measure => simp [intOf]; omega
              · as_aux_lemma =>
                obtain ⟨hok, hif, rfl, e1, e2, e3⟩ := hcs
                skip
                go_wp2_with fail
                go_roundw
                case rel => exact ⟨i + 1, es, clock, S, by go_num, by omega, by omega, HSM.out, fun v hv => by obtain ⟨j, h1, h2, h3⟩ := HSI.out v hv; exact ⟨j, h1, by omega, h3⟩, H.less (by repeat (first | exact .slnil | refine .cons_cons _ ?_ | refine .cons _ ?_))⟩
                case measure => simp [intOf]; omega
              · as_aux_lemma =>
                obtain ⟨hok, hif, rfl, e1, e2, e3, hns⟩ := hcs
                have hne := HRS.out.ne
                skip
                go_wp2_with fail
                refine (HQR.out _).mono ?_
                rintro _ w23 ⟨rfl, hb⟩
                replace H := H.below hb
                clear hb
                try clear C
                try simp only [World.size_alloc, List.nil_append, List.cons_append, List.append_assoc] at H
                try clear w20
                have C := H.cells
                try simp only [cellsOf, apartOf, and_true] at C
                dsimp only
                go_upto_region 32 with fail
                generalize hwb : w23.alloc _ = w24
                replace H := HS.eqW hwb H.alloc
                try simp only [World.size_alloc, List.nil_append, List.cons_append, List.append_assoc] at H
                clear hwb
                generalize w23.heap.size = bR2 at H ⊢
                try clear C
                try clear w23
                have C := H.cells
                try simp only [cellsOf, apartOf, and_true] at C
                go_upto_region 34 with (at_lookup; refine wpList_lookup_want (by rfl) (.tmp 209) (.tmp 210) rfl HT HK HE H 5 rfl HSM.out rfl rfl (HNEW.out hns) ?_)
                go_upto_region 35 with (at_mapUpdate; refine wpList_update_set rfl (.tmp 246) (.tmp 247) _ rfl HT HK H 5 rfl HSM.out rfl rfl rfl (HNEW.out hns) (fun wz es' clock' hS' HZ => ?_))
                go_wp2_with fail
                go_roundw
                case rel => exact ⟨i + 1, es', clock', _, by go_num, by omega, by omega, hS', HADD.out hns, HZ.less (by repeat (first | exact .slnil | refine .cons_cons _ ?_ | refine .cons _ ?_))⟩
                case measure => simp [intOf]; omega
              · as_aux_lemma =>
                obtain ⟨hok, hif, rfl, rfl, e1, hns⟩ := hcs
                skip
                go_wp2_with fail
                refine (HQR.out _).mono ?_
                rintro _ w25 ⟨rfl, hb⟩
                replace H := H.below hb
                clear hb
                try clear C
                try simp only [World.size_alloc, List.nil_append, List.cons_append, List.append_assoc] at H
                try clear w20
                have C := H.cells
                try simp only [cellsOf, apartOf, and_true] at C
                dsimp only
                go_upto_region 32 with fail
                generalize hwb : w25.alloc _ = w26
                replace H := HS.eqW hwb H.alloc
                try simp only [World.size_alloc, List.nil_append, List.cons_append, List.append_assoc] at H
                clear hwb
                generalize w25.heap.size = bR2 at H ⊢
                try clear C
                try clear w25
                have C := H.cells
                try simp only [cellsOf, apartOf, and_true] at C
                go_upto_region 34 with (at_lookup; refine wpList_lookup_want (by rfl) (.tmp 209) (.tmp 210) rfl HT HK HE H 5 rfl HSM.out rfl rfl (HNEW.out hns) ?_)
                go_upto_region 35 with (at_mapUpdate; refine wpList_update_set rfl (.tmp 246) (.tmp 247) _ rfl HT HK H 5 rfl HSM.out rfl rfl rfl (HNEW.out hns) (fun wz es' clock' hS' HZ => ?_))
                go_wp2_with fail
                go_roundw
                case rel => exact ⟨i + 1, es', clock', _, by go_num, by omega, by omega, hS', HADD.out hns, HZ.less (by repeat (first | exact .slnil | refine .cons_cons _ ?_ | refine .cons _ ?_))⟩
                case measure => simp [intOf]; omega
              · as_aux_lemma =>
                obtain ⟨hok, hif, rfl, rfl, e1, e2, hns⟩ := hcs
                skip
                go_wp2_with fail
                refine (HQR.out _).mono ?_
                rintro _ w27 ⟨rfl, hb⟩
                replace H := H.below hb
                clear hb
                try clear C
                try simp only [World.size_alloc, List.nil_append, List.cons_append, List.append_assoc] at H
                try clear w20
                have C := H.cells
                try simp only [cellsOf, apartOf, and_true] at C
                dsimp only
                go_upto_region 32 with fail
                generalize hwb : w27.alloc _ = w28
                replace H := HS.eqW hwb H.alloc
                try simp only [World.size_alloc, List.nil_append, List.cons_append, List.append_assoc] at H
                clear hwb
                generalize w27.heap.size = bR2 at H ⊢
                try clear C
                try clear w27
                have C := H.cells
                try simp only [cellsOf, apartOf, and_true] at C
                go_upto_region 34 with (at_lookup; refine wpList_lookup_want (by rfl) (.tmp 209) (.tmp 210) rfl HT HK HE H 5 rfl HSM.out rfl rfl (HNEW.out hns) ?_)
                go_upto_region 35 with (at_mapUpdate; refine wpList_update_set rfl (.tmp 246) (.tmp 247) _ rfl HT HK H 5 rfl HSM.out rfl rfl rfl (HNEW.out hns) (fun wz es' clock' hS' HZ => ?_))
                go_wp2_with fail
                go_roundw
                case rel => exact ⟨i + 1, es', clock', _, by go_num, by omega, by omega, hS', HADD.out hns, HZ.less (by repeat (first | exact .slnil | refine .cons_cons _ ?_ | refine .cons _ ?_))⟩
                case measure => simp [intOf]; omega
              · as_aux_lemma =>
                obtain ⟨hok, hif, rfl, rfl, e1, e2, e3, e4, hns⟩ := hcs
                skip
                go_wp2_with fail
                refine (HQR.out _).mono ?_
                rintro _ w29 ⟨rfl, hb⟩
                replace H := H.below hb
                clear hb
                try clear C
                try simp only [World.size_alloc, List.nil_append, List.cons_append, List.append_assoc] at H
                try clear w20
                have C := H.cells
                try simp only [cellsOf, apartOf, and_true] at C
                dsimp only
                go_upto_region 32 with fail
                generalize hwb : w29.alloc _ = w30
                replace H := HS.eqW hwb H.alloc
                try simp only [World.size_alloc, List.nil_append, List.cons_append, List.append_assoc] at H
                clear hwb
                generalize w29.heap.size = bR2 at H ⊢
                try clear C
                try clear w29
                have C := H.cells
                try simp only [cellsOf, apartOf, and_true] at C
                go_upto_region 34 with (at_lookup; refine wpList_lookup_want (by rfl) (.tmp 209) (.tmp 210) rfl HT HK HE H 5 rfl HSM.out rfl rfl (HNEW.out hns) ?_)
                go_upto_region 35 with (at_mapUpdate; refine wpList_update_set rfl (.tmp 246) (.tmp 247) _ rfl HT HK H 5 rfl HSM.out rfl rfl rfl (HNEW.out hns) (fun wz es' clock' hS' HZ => ?_))
                go_wp2_with fail
                go_roundw
                case rel => exact ⟨i + 1, es', clock', _, by go_num, by omega, by omega, hS', HADD.out hns, HZ.less (by repeat (first | exact .slnil | refine .cons_cons _ ?_ | refine .cons _ ?_))⟩
                case measure => simp [intOf]; omega
              · exact absurd hcs.1 (by decide)
              · exact absurd hcs.1 (by decide)
              · exact absurd hcs.1 (by decide)
              · exact absurd hcs.1 (by decide)
              · exact absurd hcs.1 (by decide)
            · have hmin : min (k + 1) R = k' ∨ k = R := by
                rcases HCS.out with ⟨-, h1, -, -, h2, -⟩ | ⟨-, h1, -⟩
                · exact .inl (by omega)
                · exact .inr h1
              have hmin' : min (k + 1) R = k' := by
                rcases HCS.out with ⟨-, h1, -, -, h2, -⟩ | ⟨-, h1, h2, -⟩ <;> omega
              have HMIN := Lib.hid hmin'
              clear hmin hmin'
              go_step
              go_step
              go_step
              go_step
              go_step
              go_step
              go_step
              go_step
              go_step
              go_step
              go_step
              go_step
              go_step
              go_step
              go_step
              go_step
              go_step
              go_step
              go_step
              go_step
              refine wpList_store_row rfl 35 (.tmp 10) (.tmp 249) rfl bX #[.int .i64 a0, .int .i64 a1, .int .i64 a2, .int .i64 a3, .int .i64 1, .int .i64 a5, .int .i64 p0, .int .i64 p1, .int .i64 bd, .int .i64 sp, .int .i64 k', .bool true] rfl rfl _ _ (H.at 3 rfl) (by rfl) rfl (by rw [← Array.all_toList]; rfl) ?_
              replace H := H.rowAt 3 rfl #[.int .i64 a0, .int .i64 a1, .int .i64 a2, .int .i64 a3, .int .i64 1, .int .i64 a5, .int .i64 p0, .int .i64 p1, .int .i64 bd, .int .i64 sp, .int .i64 k', .bool true] rfl
              generalize hwz : World.setRow _ _ _ = wz at H ⊢
              clear hwz C
              go_wp2_with fail
              go_roundw
              case rel => exact ⟨k + 1, by go_num, by omega, by omega, by rw [HMIN.out]; exact H.less (by repeat (first | exact .slnil | refine .cons_cons _ ?_ | refine .cons _ ?_))⟩
              case measure => simp [intOf]; omega
        · as_aux_lemma =>
          skip
          go_wp2_with fail
          refine (HNX.out _).mono ?_
          rintro _ w31 ⟨rfl, hb⟩
          replace H := H.below hb
          clear hb
          try clear C
          try simp only [World.size_alloc, List.nil_append, List.cons_append, List.append_assoc] at H
          try clear wr
          have C := H.cells
          try simp only [cellsOf, apartOf, and_true] at C
          dsimp only
          go_wp2_with fail
          refine (HCP.out _).mono ?_
          rintro _ w32 ⟨rfl, hb⟩
          replace H := H.below hb
          clear hb
          try clear C
          try simp only [World.size_alloc, List.nil_append, List.cons_append, List.append_assoc] at H
          try clear w31
          have C := H.cells
          try simp only [cellsOf, apartOf, and_true] at C
          dsimp only
          go_wp2_with fail
          generalize hwb : (w32.alloc _).alloc _ = wm
          replace H := HS.eqW hwb H.alloc.allocObj
          try simp only [World.size_alloc, List.nil_append, List.cons_append, List.append_assoc] at H
          clear hwb
          generalize w32.heap.size + 1 = bm at H ⊢
          generalize w32.heap.size = bY at H ⊢
          clear C
          try clear w32
          go_loopw [127] (fun c wr => ∃ (i : Int) (es : Array MapEntry) (clock : Nat) (S : List Int), c = .int .i64 i ∧ 0 ≤ i ∧ i ≤ N ∧ SetM es S ∧ (∀ v ∈ S, ∃ j, 0 ≤ j ∧ j < i ∧ j / R ≠ hs ∧ whF R hb hs k j = v) ∧ HS NoD w [.dice w.heap.size b, .blk bS #[.int .i64 a0, .int .i64 a1, .int .i64 a2, .int .i64 a3, .int .i64 1, .int .i64 a5] 29, .blk bP #[.int .i64 p0, .int .i64 p1, .int .i64 p2, .int .i64 p3, .int .i64 p4, .int .i64 p5] 30, .blk bX #[.int .i64 a0, .int .i64 a1, .int .i64 a2, .int .i64 a3, .int .i64 1, .int .i64 a5, .int .i64 p0, .int .i64 p1, .int .i64 bd, .int .i64 sp, .int .i64 k, .bool true] 35, .blk bY #[.int .i64 a0, .int .i64 a1, .int .i64 a2, .int .i64 a3, .int .i64 1, .int .i64 a5, .int .i64 p0, .int .i64 p1, .int .i64 bd, .int .i64 sp, .int .i64 k', .bool true] 35, .obj bm (.map es clock)] wr) (fun c _ => (N - intOf c).toNat)
          case atStart => exact ⟨0, #[], 0, [], rfl, Int.le_refl _, by omega, SetM.nil, fun v hv => (List.not_mem_nil hv).elim, H⟩
          case round =>
            clear H wm
            obtain ⟨i, es, clock, S, rfl, hi0, hiN, hSM, hSI, H⟩ := hrel
            have HSM := Lib.hid hSM
            have HSI := Lib.hid hSI
            clear hSM hSI
            skip
            try clear C
            try simp only [World.size_alloc, List.nil_append, List.cons_append, List.append_assoc] at H
            have C := H.cells
            try simp only [cellsOf, apartOf, and_true] at C
            by_cases hi : i < N
            · have hiS : i < 2 ^ (a0 + a1 + a2 + a3 + 1 + a5).toNat := by rw [← HN.out]; exact hi
              have HA := Lib.hid (fun w => rat_is HRS.out.sv hi0 hiS w)
              obtain ⟨va, hva⟩ : ∃ va, va = whF R hb hs k i := ⟨_, rfl⟩
              obtain ⟨vb, hvb⟩ : ∃ vb, vb = whF R hb hs k' i := ⟨_, rfl⟩
              have hwx : ∀ w, Calls Try.prog 17 #[vS a0 a1 a2 a3 1 a5 p0 p1 bd sp k true, .int .i64 i] w (Gives (.tuple #[.int .i64 va, .int .i64 0]) w) := fun w => by
                rw [hva, HR.out, HHB.out, HHS.out]; exact where_of HRS.out (by rw [← HR.out]; exact ⟨hk0, hk⟩) hi0 hiS w
              have hwy : ∀ w, Calls Try.prog 17 #[vS a0 a1 a2 a3 1 a5 p0 p1 bd sp k' true, .int .i64 i] w (Gives (.tuple #[.int .i64 vb, .int .i64 0]) w) := fun w => by
                rw [hvb, HR.out, HHB.out, HHS.out]; exact where_of HRS.out (by rw [← HR.out]; exact hk') hi0 hiS w
              have hq := whole_at HRS.out hi0 hiS (k := k) (by rw [← HR.out]; exact ⟨hk0, hk⟩)
              rw [← HR.out, ← HHB.out, ← HHS.out, ← hva] at hq
              obtain ⟨qr, hqr, hqc⟩ := hq
              have hcs := whole_cases HRS.out hi0 hiS hz.1 hbs HR.out HHB.out HHS.out hva hvb ⟨hk0, hk⟩ (ok := false) (f := 40) (frm := 0) (dst := 0) (.inr ⟨rfl, by omega, by have := HCS.out; simp at this; exact ⟨this.2, rfl⟩⟩) hqc
              have HNEW : Hid (i / R ≠ hs → va ∉ S) := fun h hm => by
                obtain ⟨j, h1, h2, h3, h4⟩ := HSI.out va hm
                have := whF_inj hz.1 h3 h (h4.trans hva)
                omega
              have HADD : Hid (i / R ≠ hs → ∀ v ∈ S ++ [va], ∃ j, 0 ≤ j ∧ j < i + 1 ∧ j / R ≠ hs ∧ whF R hb hs k j = v) := fun h v hm => by
                rcases List.mem_append.1 hm with hm | hm
                · obtain ⟨j, h1, h2, h3, h4⟩ := HSI.out v hm
                  exact ⟨j, h1, by omega, h3, h4⟩
                · rw [List.mem_singleton.1 hm]
                  exact ⟨i, hi0, by omega, h, hva.symm⟩
              have HWX := Lib.hid hwx
              have HWY := Lib.hid hwy
              have HQR := Lib.hid hqr
              clear hwx hwy hva hvb hiS hqr hqc
              have HCC := Lib.hid hcs
              clear hcs
              go_wp2_with fail
              refine (HA.out _).mono ?_
              rintro _ w33 ⟨rfl, hb⟩
              replace H := H.below hb
              clear hb
              try clear C
              try simp only [World.size_alloc, List.nil_append, List.cons_append, List.append_assoc] at H
              try clear wr
              have C := H.cells
              try simp only [cellsOf, apartOf, and_true] at C
              dsimp only
              go_wp2_with fail
              refine (HWX.out _).mono ?_
              rintro _ w34 ⟨rfl, hb⟩
              replace H := H.alloc.below hb
              clear hb
              try clear C
              try simp only [World.size_alloc, List.nil_append, List.cons_append, List.append_assoc] at H
              generalize w33.heap.size = bQ at H ⊢
              try clear w33
              have C := H.cells
              try simp only [cellsOf, apartOf, and_true] at C
              dsimp only
              go_wp2_with fail
              refine (HWY.out _).mono ?_
              rintro _ w35 ⟨rfl, hb⟩
              replace H := H.below hb
              clear hb
              try clear C
              try simp only [World.size_alloc, List.nil_append, List.cons_append, List.append_assoc] at H
              try clear w34
              have C := H.cells
              try simp only [cellsOf, apartOf, and_true] at C
              dsimp only
              skip
              have hcs := HCC.out
              clear HCC
              rcases hcs with hcs | hcs | hcs | hcs | hcs | hcs | hcs | hcs | hcs | hcs | hcs
              · exact absurd hcs.1 (by decide)
              · exact absurd hcs.1 (by decide)
              · exact absurd hcs.1 (by decide)
              · exact absurd hcs.1 (by decide)
              · exact absurd hcs.1 (by decide)
              · exact absurd hcs.1 (by decide)
              · as_aux_lemma =>
                obtain ⟨hok, e1, e2, e3⟩ := hcs
                skip
                go_wp2_with fail
                go_roundw
                case rel => exact ⟨i + 1, es, clock, S, by go_num, by omega, by omega, HSM.out, fun v hv => by obtain ⟨j, h1, h2, h3⟩ := HSI.out v hv; exact ⟨j, h1, by omega, h3⟩, H.less (by repeat (first | exact .slnil | refine .cons_cons _ ?_ | refine .cons _ ?_))⟩
                case measure => simp [intOf]; omega
              · as_aux_lemma =>
                obtain ⟨hok, e1, e2, e3, e4, hns⟩ := hcs
                have hne := HRS.out.ne
                skip
                go_wp2_with fail
                refine (HQR.out _).mono ?_
                rintro _ w36 ⟨rfl, hb⟩
                replace H := H.below hb
                clear hb
                try clear C
                try simp only [World.size_alloc, List.nil_append, List.cons_append, List.append_assoc] at H
                try clear w35
                have C := H.cells
                try simp only [cellsOf, apartOf, and_true] at C
                dsimp only
                go_upto_region 32 with fail
                generalize hwb : w36.alloc _ = w37
                replace H := HS.eqW hwb H.alloc
                try simp only [World.size_alloc, List.nil_append, List.cons_append, List.append_assoc] at H
                clear hwb
                generalize w36.heap.size = bR2 at H ⊢
                try clear C
                try clear w36
                have C := H.cells
                try simp only [cellsOf, apartOf, and_true] at C
                go_upto_region 34 with (at_lookup; refine wpList_lookup_want (by rfl) (.tmp 209) (.tmp 210) rfl HT HK HE H 5 rfl HSM.out rfl rfl (HNEW.out hns) ?_)
                go_upto_region 35 with (at_mapUpdate; refine wpList_update_set rfl (.tmp 246) (.tmp 247) _ rfl HT HK H 5 rfl HSM.out rfl rfl rfl (HNEW.out hns) (fun wz es' clock' hS' HZ => ?_))
                go_wp2_with fail
                go_roundw
                case rel => exact ⟨i + 1, es', clock', _, by go_num, by omega, by omega, hS', HADD.out hns, HZ.less (by repeat (first | exact .slnil | refine .cons_cons _ ?_ | refine .cons _ ?_))⟩
                case measure => simp [intOf]; omega
              · as_aux_lemma =>
                obtain ⟨hok, rfl, e1, hns⟩ := hcs
                skip
                go_wp2_with fail
                refine (HQR.out _).mono ?_
                rintro _ w38 ⟨rfl, hb⟩
                replace H := H.below hb
                clear hb
                try clear C
                try simp only [World.size_alloc, List.nil_append, List.cons_append, List.append_assoc] at H
                try clear w35
                have C := H.cells
                try simp only [cellsOf, apartOf, and_true] at C
                dsimp only
                go_upto_region 32 with fail
                generalize hwb : w38.alloc _ = w39
                replace H := HS.eqW hwb H.alloc
                try simp only [World.size_alloc, List.nil_append, List.cons_append, List.append_assoc] at H
                clear hwb
                generalize w38.heap.size = bR2 at H ⊢
                try clear C
                try clear w38
                have C := H.cells
                try simp only [cellsOf, apartOf, and_true] at C
                go_upto_region 34 with (at_lookup; refine wpList_lookup_want (by rfl) (.tmp 209) (.tmp 210) rfl HT HK HE H 5 rfl HSM.out rfl rfl (HNEW.out hns) ?_)
                go_upto_region 35 with (at_mapUpdate; refine wpList_update_set rfl (.tmp 246) (.tmp 247) _ rfl HT HK H 5 rfl HSM.out rfl rfl rfl (HNEW.out hns) (fun wz es' clock' hS' HZ => ?_))
                go_wp2_with fail
                go_roundw
                case rel => exact ⟨i + 1, es', clock', _, by go_num, by omega, by omega, hS', HADD.out hns, HZ.less (by repeat (first | exact .slnil | refine .cons_cons _ ?_ | refine .cons _ ?_))⟩
                case measure => simp [intOf]; omega
              · as_aux_lemma =>
                obtain ⟨hok, rfl, e1, e2, hns⟩ := hcs
                skip
                go_wp2_with fail
                refine (HQR.out _).mono ?_
                rintro _ w40 ⟨rfl, hb⟩
                replace H := H.below hb
                clear hb
                try clear C
                try simp only [World.size_alloc, List.nil_append, List.cons_append, List.append_assoc] at H
                try clear w35
                have C := H.cells
                try simp only [cellsOf, apartOf, and_true] at C
                dsimp only
                go_upto_region 32 with fail
                generalize hwb : w40.alloc _ = w41
                replace H := HS.eqW hwb H.alloc
                try simp only [World.size_alloc, List.nil_append, List.cons_append, List.append_assoc] at H
                clear hwb
                generalize w40.heap.size = bR2 at H ⊢
                try clear C
                try clear w40
                have C := H.cells
                try simp only [cellsOf, apartOf, and_true] at C
                go_upto_region 34 with (at_lookup; refine wpList_lookup_want (by rfl) (.tmp 209) (.tmp 210) rfl HT HK HE H 5 rfl HSM.out rfl rfl (HNEW.out hns) ?_)
                go_upto_region 35 with (at_mapUpdate; refine wpList_update_set rfl (.tmp 246) (.tmp 247) _ rfl HT HK H 5 rfl HSM.out rfl rfl rfl (HNEW.out hns) (fun wz es' clock' hS' HZ => ?_))
                go_wp2_with fail
                go_roundw
                case rel => exact ⟨i + 1, es', clock', _, by go_num, by omega, by omega, hS', HADD.out hns, HZ.less (by repeat (first | exact .slnil | refine .cons_cons _ ?_ | refine .cons _ ?_))⟩
                case measure => simp [intOf]; omega
              · as_aux_lemma =>
                obtain ⟨hok, rfl, e1, e2, e3, e4, hns⟩ := hcs
                skip
                go_wp2_with fail
                refine (HQR.out _).mono ?_
                rintro _ w42 ⟨rfl, hb⟩
                replace H := H.below hb
                clear hb
                try clear C
                try simp only [World.size_alloc, List.nil_append, List.cons_append, List.append_assoc] at H
                try clear w35
                have C := H.cells
                try simp only [cellsOf, apartOf, and_true] at C
                dsimp only
                go_upto_region 32 with fail
                generalize hwb : w42.alloc _ = w43
                replace H := HS.eqW hwb H.alloc
                try simp only [World.size_alloc, List.nil_append, List.cons_append, List.append_assoc] at H
                clear hwb
                generalize w42.heap.size = bR2 at H ⊢
                try clear C
                try clear w42
                have C := H.cells
                try simp only [cellsOf, apartOf, and_true] at C
                go_upto_region 34 with (at_lookup; refine wpList_lookup_want (by rfl) (.tmp 209) (.tmp 210) rfl HT HK HE H 5 rfl HSM.out rfl rfl (HNEW.out hns) ?_)
                go_upto_region 35 with (at_mapUpdate; refine wpList_update_set rfl (.tmp 246) (.tmp 247) _ rfl HT HK H 5 rfl HSM.out rfl rfl rfl (HNEW.out hns) (fun wz es' clock' hS' HZ => ?_))
                go_wp2_with fail
                go_roundw
                case rel => exact ⟨i + 1, es', clock', _, by go_num, by omega, by omega, hS', HADD.out hns, HZ.less (by repeat (first | exact .slnil | refine .cons_cons _ ?_ | refine .cons _ ?_))⟩
                case measure => simp [intOf]; omega
            · have hmin : min (k + 1) R = k' ∨ k = R := by
                rcases HCS.out with ⟨-, h1, -, -, h2, -⟩ | ⟨-, h1, -⟩
                · exact .inl (by omega)
                · exact .inr h1
              have hmin' : min (k + 1) R = k' := by
                rcases HCS.out with ⟨-, h1, -, -, h2, -⟩ | ⟨-, h1, h2, -⟩ <;> omega
              have HMIN := Lib.hid hmin'
              clear hmin hmin'
              go_step
              go_step
              go_step
              go_step
              go_step
              go_step
              go_step
              go_step
              go_step
              go_step
              go_step
              go_step
              go_step
              go_step
              go_step
              go_step
              go_step
              go_step
              go_step
              go_step
              refine wpList_store_row rfl 35 (.tmp 10) (.tmp 249) rfl bX #[.int .i64 a0, .int .i64 a1, .int .i64 a2, .int .i64 a3, .int .i64 1, .int .i64 a5, .int .i64 p0, .int .i64 p1, .int .i64 bd, .int .i64 sp, .int .i64 k', .bool true] rfl rfl _ _ (H.at 3 rfl) (by rfl) rfl (by rw [← Array.all_toList]; rfl) ?_
              replace H := H.rowAt 3 rfl #[.int .i64 a0, .int .i64 a1, .int .i64 a2, .int .i64 a3, .int .i64 1, .int .i64 a5, .int .i64 p0, .int .i64 p1, .int .i64 bd, .int .i64 sp, .int .i64 k', .bool true] rfl
              generalize hwz : World.setRow _ _ _ = wz at H ⊢
              clear hwz C
              go_wp2_with fail
              go_roundw
              case rel => exact ⟨k + 1, by go_num, by omega, by omega, by rw [HMIN.out]; exact H.less (by repeat (first | exact .slnil | refine .cons_cons _ ?_ | refine .cons _ ?_))⟩
              case measure => simp [intOf]; omega
      · try clear C
        try simp only [World.size_alloc, List.nil_append, List.cons_append, List.append_assoc] at H
        have C := H.cells
        try simp only [cellsOf, apartOf, and_true] at C
        go_wp2_with fail
        refine (awake38 _).mono ?_
        rintro _ w44 ⟨rfl, hb⟩
        replace H := H.below hb
        clear hb
        try clear C
        try simp only [World.size_alloc, List.nil_append, List.cons_append, List.append_assoc] at H
        try clear w43
        have C := H.cells
        try simp only [cellsOf, apartOf, and_true] at C
        dsimp only
        go_wp2_with fail
        go_ret
        exact ⟨rfl, H.done⟩
  · rw [decide_eq_false h400] at hli
    have HLI := Lib.hid hli
    clear hli
    go_enter Try.func3, Try.ntmps3
    have H := HS.start NoD w
    go_wp2_with fail
    refine (gives_of (HLI.out _)).mono ?_
    rintro _ w1 ⟨rfl, hb⟩
    replace H := H.below hb
    clear hb
    try clear C
    try simp only [World.size_alloc, List.nil_append, List.cons_append, List.append_assoc] at H
    have C := H.cells
    try simp only [cellsOf, apartOf, and_true] at C
    dsimp only
    go_wp2_with fail
    refine (awake38 _).mono ?_
    rintro _ w2 ⟨rfl, hb⟩
    replace H := H.below hb
    clear hb
    try clear C
    try simp only [World.size_alloc, List.nil_append, List.cons_append, List.append_assoc] at H
    try clear w1
    have C := H.cells
    try simp only [cellsOf, apartOf, and_true] at C
    dsimp only
    go_wp2_with fail
    go_ret
    exact ⟨rfl, H.done⟩
end Go.Proofs.Ytaeockopliplfaa
