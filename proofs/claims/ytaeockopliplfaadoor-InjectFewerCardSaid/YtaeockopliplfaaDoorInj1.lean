/- Package inject: masks. -/
import Derived.Test.YtaeockopliplfaaDoorMapI
import Derived.Test.YtaeockopliplfaaDoorRow
import Derived.Test.YtaeockopliplfaaDoorCovA
import Derived.Maps.Own
import Derived.Maps.OwnOps
import Derived.Deep.CutRange
import Derived.Deep.CutBlock
namespace Go.Proofs.YtaeockopliplfaaDoor
set_option linter.unusedSimpArgs false
set_option linter.unusedVariables false
open Go.RowKit
set_option maxRecDepth 100000
attribute [local go_sem] lt_more ne_more ne_more'
attribute [local irreducible] wpX wpF Calls

/-- A strike. -/
structure St where
  t : Int
  k : Int
  p0 : Int
  p1 : Int
  p2 : Int
  p3 : Int
  p4 : Int
  p5 : Int
  ch : Int
  ms : Int
  vl : Int
  hd : Bool
deriving Inhabited
def stC (x : St) : List Value := [.int .i64 x.t, .int .i64 x.k, .int .i64 x.p0, .int .i64 x.p1, .int .i64 x.p2, .int .i64 x.p3, .int .i64 x.p4, .int .i64 x.p5, .int .i64 x.ch, .int .u8 x.ms, .int .u8 x.vl, .bool x.hd]
theorem stC_len (x : St) : (stC x).length = 12 := rfl
/-- Does a strike's fault cover the place? -/
def cvP (x : St) (q : P6) : Bool := decide ((1 ≤ x.k ∧ x.k ≤ 6) ∧ CV x.k x.p0 x.p1 x.p2 x.p3 x.p4 x.p5 q.a q.b q.c q.d q.e q.f)
def hitP (x : St) (q : P6) (time : Int) : Bool := decide (x.t ≤ time) && cvP x q
/-- One more strike in the table of masks. -/
def addI (q : P6) (time : Int) (M : List (Int × Int)) (x : St) : List (Int × Int) := if hitP x q time then putI x.ch (bits BinOp.or .u8 ((getI x.ch M).getD 0) x.ms) M else M
def mkI (xs : List St) (q : P6) (time : Int) : List (Int × Int) := xs.foldl (addI q time) []
theorem mkI_take {xs : List St} {q : P6} {time : Int} {j : Nat} (h : j < xs.length) : mkI (xs.take (j + 1)) q time = addI q time (mkI (xs.take j) q time) xs[j]! := by
  unfold mkI
  rw [List.take_add_one, List.foldl_append, getElem!_pos xs j h, List.getElem?_eq_getElem h]
  rfl
theorem HS.mineObj {W w : World} {L : List Item} (h : HS NoD W L w) (i : Nat) {b : Nat} {o : Obj} (hi : L[i]? = some (.obj b o)) : W.heap.size ≤ b := (h.own _ (List.mem_of_getElem? hi) b rfl).resolve_right id
def GivesM (M : List (Int × Int)) (w : World) (x : Ending) (w' : World) : Prop :=
  ∃ b es clock, x = .returned (.map (some b)) ∧ w.heap.size ≤ b ∧ w'.heap[b]? = some (.map es clock) ∧ MapI es clock M ∧ Below w.heap.size w w'

attribute [local go_sem] run_mkMap'
set_option maxHeartbeats 8000000 in
theorem masks_is {a0 a1 a2 a3 a4 a5 i time : Int} (h : SV a0 a1 a2 a3 a4 a5) (hi0 : 0 ≤ i) (hi1 : i < 2 ^ (a0 + a1 + a2 + a3 + a4 + a5).toNat) {sa : Option Addr} (c : Nat) {xs : List St} (hx : xs.length ≤ 1000) (w : World) (hN : Nm w)
    (hl : Lies w w.heap.size sa 12 xs.length (fun j => stC xs[j]!)) :
    Calls Tryd.prog 58 #[v6 a0 a1 a2 a3 a4 a5, .slice sa xs.length c, .int .i64 i, .int .i64 time] w (GivesM (mkI xs (atF a0 a1 a2 a3 a4 a5 i) time) w) := by
  have HA := Lib.hid (fun w => at_is h hi0 hi1 w)
  have HT : Tryd.prog.underlying 95 = some (.map 3 5) := Tryd.underlying95
  have HK : Tryd.prog.underlying 3 = some (.int .i64) := Tryd.underlying3
  have HE : ∀ w, (zeroValue 5).run Tryd.prog w = .ok (.int .u8 0) w := fun w => rfl
  generalize atF a0 a1 a2 a3 a4 a5 i = q at HA ⊢
  obtain ⟨q0, q1, q2, q3, q4, q5⟩ := q
  have HL := Lib.hid hl
  have HNm := Lib.hid hN
  have HX := Lib.hid hx
  clear hl hN h hi0 hi1 hx
  go_enter Tryd.func58, Tryd.ntmps58
  have H := HS.start NoD w
  go_wp2_with fail
  refine (HA.out _).mono ?_
  rintro _ w1 ⟨rfl, hb⟩
  replace H := H.alloc.below hb
  clear hb
  try clear C
  try simp only [World.size_alloc, List.nil_append, List.cons_append, List.append_assoc] at H
  generalize w.heap.size = bS at H ⊢
  have C := H.cells
  try simp only [cellsOf, apartOf, and_true] at C
  dsimp only
  go_wp2_with fail
  generalize hwb : (w1.alloc _).alloc _ = wm
  replace H := HS.eqW hwb H.alloc.allocObj
  try simp only [World.size_alloc, List.nil_append, List.cons_append, List.append_assoc] at H
  clear hwb
  generalize w1.heap.size + 1 = bm at H ⊢
  generalize w1.heap.size = bP at H ⊢
  clear C
  try clear w1
  go_loopw [25] (fun c wr => ∃ (j : Nat) (es : Array MapEntry) (clock : Nat), c = .int .i64 j ∧ j ≤ xs.length ∧ MapI es clock (mkI (xs.take j) ⟨q0, q1, q2, q3, q4, q5⟩ time) ∧ HS NoD w [.blk bS #[.int .i64 a0, .int .i64 a1, .int .i64 a2, .int .i64 a3, .int .i64 a4, .int .i64 a5] 28, .blk bP #[.int .i64 q0, .int .i64 q1, .int .i64 q2, .int .i64 q3, .int .i64 q4, .int .i64 q5] 32, .obj bm (.map es clock)] wr) (fun c _ => xs.length - (intOf c).toNat)
  case atStart => exact ⟨0, #[], 0, rfl, Nat.zero_le _, MapI.nil, H⟩
  case round =>
    clear H wm
    obtain ⟨j, es, clock, rfl, hj, hM, H⟩ := hrel
    have HM := Lib.hid hM
    clear hM
    skip
    try clear C
    try simp only [World.size_alloc, List.nil_append, List.cons_append, List.append_assoc] at H
    have C := H.cells
    try simp only [cellsOf, apartOf, and_true] at C
    have hx := HX.out
    by_cases hlt : j < xs.length
    · obtain ⟨b, o, rfl, hb, hc⟩ := (H.lies HL.out).at hlt
      have htk := mkI_take (q := ⟨q0, q1, q2, q3, q4, q5⟩) (time := time) hlt
      obtain ⟨x, hxj⟩ : ∃ x, x = xs[j]! := ⟨_, rfl⟩
      rw [← hxj] at hc htk
      obtain ⟨t, k, p0, p1, p2, p3, p4, p5, ch, ms, vl, hd⟩ := x
      have c0 : wr.cell? ⟨b, o + j * 12, none⟩ = some (.int .i64 t) := hc 0 _ rfl
      have c1 : wr.cell? ⟨b, o + j * 12 + 1, none⟩ = some (.int .i64 k) := hc 1 _ rfl
      have c2 : wr.cell? ⟨b, o + j * 12 + 2, none⟩ = some (.int .i64 p0) := hc 2 _ rfl
      have c3 : wr.cell? ⟨b, o + j * 12 + 3, none⟩ = some (.int .i64 p1) := hc 3 _ rfl
      have c4 : wr.cell? ⟨b, o + j * 12 + 4, none⟩ = some (.int .i64 p2) := hc 4 _ rfl
      have c5 : wr.cell? ⟨b, o + j * 12 + 5, none⟩ = some (.int .i64 p3) := hc 5 _ rfl
      have c6 : wr.cell? ⟨b, o + j * 12 + 6, none⟩ = some (.int .i64 p4) := hc 6 _ rfl
      have c7 : wr.cell? ⟨b, o + j * 12 + 7, none⟩ = some (.int .i64 p5) := hc 7 _ rfl
      have c8 : wr.cell? ⟨b, o + j * 12 + 8, none⟩ = some (.int .i64 ch) := hc 8 _ rfl
      have c9 : wr.cell? ⟨b, o + j * 12 + 9, none⟩ = some (.int .u8 ms) := hc 9 _ rfl
      have c10 : wr.cell? ⟨b, o + j * 12 + 10, none⟩ = some (.int .u8 vl) := hc 10 _ rfl
      have c11 : wr.cell? ⟨b, o + j * 12 + 11, none⟩ = some (.bool hd) := hc 11 _ rfl
      clear hc hxj
      have hcv : ∀ w, Nm w → Calls Tryd.prog 22 #[vF k p0 p1 p2 p3 p4 p5 ch ms vl hd, v6 q0 q1 q2 q3 q4 q5] w (Gives (.bool (cvP ⟨t, k, p0, p1, p2, p3, p4, p5, ch, ms, vl, hd⟩ ⟨q0, q1, q2, q3, q4, q5⟩)) w) := fun w hw => covers_all k p0 p1 p2 p3 p4 p5 ch ms vl q0 q1 q2 q3 q4 q5 hd w hw
      by_cases ht : t ≤ time
      · have hh : hitP ⟨t, k, p0, p1, p2, p3, p4, p5, ch, ms, vl, hd⟩ ⟨q0, q1, q2, q3, q4, q5⟩ time = cvP ⟨t, k, p0, p1, p2, p3, p4, p5, ch, ms, vl, hd⟩ ⟨q0, q1, q2, q3, q4, q5⟩ := by
          unfold hitP; dsimp only; rw [decide_eq_true ht, Bool.true_and]
        cases hcp : cvP ⟨t, k, p0, p1, p2, p3, p4, p5, ch, ms, vl, hd⟩ ⟨q0, q1, q2, q3, q4, q5⟩
        all_goals
          rw [hcp] at hcv
          rw [hcp] at hh
          unfold addI at htk
          rw [hh] at htk
          simp only [if_true, if_false, Bool.false_eq_true] at htk
          have HCV := Lib.hid hcv
          have HTK := Lib.hid htk
          clear hcv htk hh hcp
          skip
          go_wp2_with fail
          refine (HCV.out _ (HNm.out.below H.alloc.done)).mono ?_
          rintro _ w2 ⟨rfl, hb⟩
          replace H := H.alloc.below hb
          clear hb
          try clear C
          try simp only [World.size_alloc, List.nil_append, List.cons_append, List.append_assoc] at H
          generalize wr.heap.size = bx at H ⊢
          try clear wr
          have C := H.cells
          try simp only [cellsOf, apartOf, and_true] at C
          dsimp only
        · go_wp2_with fail
          go_roundw
          case rel => exact ⟨j + 1, es, clock, by go_num, by omega, by rw [HTK.out]; exact HM.out, H.less (by repeat (first | exact .slnil | refine .cons_cons _ ?_ | refine .cons _ ?_))⟩
          case measure => simp [intOf]; omega
        · go_upto_region 9 with fail
          go_upto_region 10 with (first | (at_lookup; refine wpList_lookup_I rfl (.tmp 39) (.tmp 42) rfl HT HK HE H 2 rfl HM.out rfl rfl ?_) | (at_mapUpdate; refine wpList_update_I rfl (.tmp 39) (.tmp 42) (.tmp 47) rfl HT HK H 2 rfl HM.out rfl rfl rfl (fun wz es' clock' hM' HZ => ?_)))
          go_wp2_with fail
          go_roundw
          case rel => exact ⟨j + 1, es', clock', by go_num, by omega, by rw [HTK.out]; exact hM', HZ.less (by repeat (first | exact .slnil | refine .cons_cons _ ?_ | refine .cons _ ?_))⟩
          case measure => simp [intOf]; omega
      · have hh : hitP ⟨t, k, p0, p1, p2, p3, p4, p5, ch, ms, vl, hd⟩ ⟨q0, q1, q2, q3, q4, q5⟩ time = false := by
          unfold hitP; dsimp only; rw [decide_eq_false ht, Bool.false_and]
        unfold addI at htk
        rw [hh] at htk
        simp only [if_false, Bool.false_eq_true] at htk
        have HTK := Lib.hid htk
        clear htk hh hcv
        skip
        go_wp2_with fail
        go_roundw
        case rel => exact ⟨j + 1, es, clock, by go_num, by omega, by rw [HTK.out]; exact HM.out, H.alloc.less (by repeat (first | exact .slnil | refine .cons_cons _ ?_ | refine .cons _ ?_))⟩
        case measure => simp [intOf]; omega
    · have hje : j = xs.length := by omega
      subst hje
      have hM := HM.out
      rw [List.take_length] at hM
      skip
      go_wp2_with fail
      go_ret
      exact ⟨bm, es, clock, rfl, H.mineObj 2 rfl, H.at 2 rfl, hM, H.done⟩
end Go.Proofs.YtaeockopliplfaaDoor
