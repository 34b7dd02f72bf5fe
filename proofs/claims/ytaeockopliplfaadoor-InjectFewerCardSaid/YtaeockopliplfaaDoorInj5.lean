/- Package inject: Within. -/
import Derived.Test.YtaeockopliplfaaDoorInj4
import Derived.Test.YtaeockopliplfaaDoorInj3
import Derived.Test.YtaeockopliplfaaDoorMapR
import Derived.Test.YtaeockopliplfaaDoorOnes
import Derived.Lib.BitFns
import Derived.WideLaws
namespace Go.Proofs.YtaeockopliplfaaDoor
set_option linter.unusedSimpArgs false
set_option linter.unusedVariables false
open Go.RowKit
set_option maxRecDepth 100000
attribute [local go_sem] lt_more ne_more ne_more'
attribute [local irreducible] wpX wpF Calls

theorem ones_is (x : Int) (w : World) (h0 : 0 ≤ x) (h1 : x ≤ 255) : Calls Tryd.prog 59 #[.int .u8 x] w (Gives (.int .i64 (Lib.onesCount x.toNat)) w) :=
  (ones_all x w h0 h1).mono fun _ _ ⟨he, hw⟩ => ⟨he, hw ▸ Below.refl _ _⟩
theorem putI_byte {x v : Int} (hv : Byte v) : ∀ {M : List (Int × Int)}, (∀ p ∈ M, Byte p.2) → ∀ p ∈ putI x v M, Byte p.2
  | [], _, p, hp => by simp [putI] at hp; subst hp; exact hv
  | q :: M, h, p, hp => by
    unfold putI at hp
    split at hp
    · rcases List.mem_cons.1 hp with rfl | hp
      · exact hv
      · exact h p (by simp [hp])
    · rcases List.mem_cons.1 hp with rfl | hp
      · exact h _ (by simp)
      · exact putI_byte hv (fun p hp => h p (by simp [hp])) p hp
theorem getI_byte {x : Int} : ∀ {M : List (Int × Int)}, (∀ p ∈ M, Byte p.2) → Byte ((getI x M).getD 0)
  | [], _ => by show Byte 0; exact ⟨by decide, by decide⟩
  | q :: M, h => by
    unfold getI
    split
    · exact h q (by simp)
    · exact getI_byte fun p hp => h p (by simp [hp])
theorem mkI_byte_aux (q : P6) (t : Int) : ∀ (xs : List St) (M : List (Int × Int)), (∀ p ∈ M, Byte p.2) → ∀ p ∈ xs.foldl (addI q t) M, Byte p.2
  | [], M, h => h
  | x :: xs, M, h => mkI_byte_aux q t xs (addI q t M x) (by
      unfold addI
      split
      · have hb := getI_byte (x := x.ch) h
        have := orB_is _ x.ms hb
        exact putI_byte ⟨by rw [this.1]; exact Int.natCast_nonneg _, by rw [this.1]; have := this.2; omega⟩ h
      · exact h)
theorem mkI_byte (xs : List St) (q : P6) (t : Int) : ∀ p ∈ mkI xs q t, Byte p.2 := mkI_byte_aux q t xs [] (fun p hp => (List.not_mem_nil hp).elim)
theorem MapI.size {es : Array MapEntry} {clock : Nat} {M : List (Int × Int)} (h : MapI es clock M) : es.size = M.length := by
  have := congrArg List.length h.kv
  simpa using this

section
variable {P : Program} {D : Nat → Prop} {W w : World} {L : List Item}
/-- 'len(m)'. -/
theorem wpList_len_I {ops : Array Oper} {rest : List Oper} {o : Oper} {a : Act} {Q : Exit → Act → World → Prop} (hw : Region.wanted o (yielded ops a.tmps) = true) (m : Operand) {t k e : TypeId} (ho : o.op = Op.call { callee := Callee.builtin Builtin.len, args := #[m], argTypes := #[t] })
    (ht : P.underlying t = some (.map k e)) (H : HS D W L w) (i : Nat) {b : Nat} {es : Array MapEntry} {clock : Nat} (hi : L[i]? = some (.obj b (.map es clock))) {M : List (Int × Int)} (hM : MapI es clock M)
    (hm : a.eval m = .map (some b)) (h : wpList P ops Q rest (a.put o.dst (.int .i64 M.length)) w) : wpList P ops Q (o :: rest) a w := by
  unfold wpList
  rw [if_pos hw]
  refine .inl ?_
  have hr : (Builtin.len_ #[t] o.type #[.map (some b)]).run P w = .ok (goInt M.length) w := by
    rw [← hM.size]
    simp [Builtin.len_, run_underlying ht, MapKept.run_getObj_map (H.at i hi)]
  unfold Oper.wp
  simp [execOp, ho, resolve, invoke, builtin, hm, hr, Result.andThen, goInt]
  exact h
end
/-- 'k, v' of the round. -/
theorem wpList_entry_I {P : Program} {w : World} {ops : Array Oper} {rest : List Oper} {o : Oper} {a : Act} {Q : Exit → Act → World → Prop} (hgd : o.guard = none) (m : Operand) (ho : o.op = .entry m) {p v : Value} (hm : a.eval m = p) (hr : (Instr.entry p).run P w = .ok v w) (h : wpList P ops Q rest (a.put o.dst v) w) : wpList P ops Q (o :: rest) a w :=
  wpList_plain hgd fun K hK => by
    unfold Oper.wp execOp
    simp only [ho, hm, Sem.run_bind, hr, Result.andThen_ok, Sem.run_pure]
    exact hK _ _ h
/-- How much of a map is still to come. -/
def itLeft (es : Array MapEntry) (r : Nat) (w : World) : Nat := match w.heap[r]? with
  | some (.mapIter _ _ seen _) => leftN es seen
  | _ => 0
theorem itLeft_of {es : Array MapEntry} {r : Nat} {w : World} {m : Option Nat} {c k : Nat} {seen : Array Nat} (h : w.heap[r]? = some (.mapIter m c seen k)) : itLeft es r w = leftN es seen := by unfold itLeft; rw [h]
theorem born_inj {x y : MapEntry} : ∀ {l : List MapEntry}, (l.map (·.born)).Nodup → x ∈ l → y ∈ l → x.born = y.born → x = y
  | [], _, hx, _, _ => absurd hx (by simp)
  | z :: l, hn, hx, hy, e => by
    simp only [List.map_cons, List.nodup_cons] at hn
    rcases List.mem_cons.1 hx with h1 | h1
    · rcases List.mem_cons.1 hy with h2 | h2
      · rw [h1, h2]
      · exact absurd (List.mem_map.2 ⟨y, h2, by rw [← e, h1]⟩) hn.1
    · rcases List.mem_cons.1 hy with h2 | h2
      · exact absurd (List.mem_map.2 ⟨x, h1, by rw [e, h2]⟩) hn.1
      · exact born_inj hn.2 h1 h2 e
theorem MapI.val_of {es : Array MapEntry} {clock : Nat} {M : List (Int × Int)} (h : MapI es clock M) {x v : Int} (hm : (x, v) ∈ M) : ∃ e ∈ es.toList, e.key = .int .i64 x ∧ e.val = .int .u8 v := by
  have : (Value.int .i64 x, Value.int .u8 v) ∈ M.map fun p => (Value.int .i64 p.1, Value.int .u8 p.2) := List.mem_map.2 ⟨_, hm, rfl⟩
  rw [← h.kv] at this
  obtain ⟨e, he, hp⟩ := List.mem_map.1 this
  injection hp with h1 h2
  exact ⟨e, he, h1, h2⟩
/-- At most one bit. -/
def Few (v : Int) : Prop := ¬ (1 : Int) < (Lib.onesCount v.toNat : Int)
/-- Each entry that has come is of the kind. -/
def SeenOk (p : Int → Prop) (es : Array MapEntry) (seen : Array Nat) : Prop := ∀ e ∈ es.toList, seen.contains e.born = true → ∀ v, e.val = .int .u8 v → p v
theorem SeenOk.nil (p : Int → Prop) (es : Array MapEntry) : SeenOk p es #[] := fun e _ h => by simp at h
theorem SeenOk.push {p : Int → Prop} {es : Array MapEntry} {seen : Array Nat} {clock : Nat} {M : List (Int × Int)} (h : SeenOk p es seen) (hM : MapI es clock M) {e : MapEntry} (he : e ∈ es.toList) {v : Int} (hv : e.val = .int .u8 v) (hp : p v) : SeenOk p es (seen.push e.born) := fun x hx hc u hu => by
  rw [Array.contains_push, Bool.or_eq_true] at hc
  rcases hc with hc | hc
  · first
    | exact h x hx hc u hu
    | (have := born_inj hM.nodup hx he (by simpa using hc); subst this; rw [hv] at hu; injection hu with _ hu; rw [← hu]; exact hp)
  · first
    | exact h x hx hc u hu
    | (have := born_inj hM.nodup hx he (by simpa using hc); subst this; rw [hv] at hu; injection hu with _ hu; rw [← hu]; exact hp)
theorem SeenOk.all {p : Int → Prop} {es : Array MapEntry} {seen : Array Nat} {clock : Nat} {M : List (Int × Int)} (h : SeenOk p es seen) (hM : MapI es clock M) (hd : ∀ e ∈ es.toList, seen.contains e.born = true) : ∀ x v, (x, v) ∈ M → p v := fun x v hm => by
  obtain ⟨e, he, _, hv⟩ := hM.val_of hm
  exact h e he (hd e he) v hv
/-- Is no word damaged more than the code corrects? -/
def wB (a0 a1 a2 a3 a4 a5 kd dt ck fx : Int) (xs : List St) : Bool :=
  okS a0 a1 a2 a3 a4 a5 (nC kd dt ck) 0 xs && (List.range (2 ^ (a0 + a1 + a2 + a3 + a4 + a5).toNat)).all fun i => okM kd fx (mkI xs (atF a0 a1 a2 a3 a4 a5 i) 1099511627776)

theorem okM_1_len {fx : Int} {M : List (Int × Int)} (h : (1 : Int) < M.length) : okM 1 fx M = false := by unfold okM; simp; intro h2; omega
theorem okM_1_ones {fx : Int} {M : List (Int × Int)} {x v : Int} (hm : (x, v) ∈ M) (h : (1 : Int) < (Lib.onesCount v.toNat : Int)) : okM 1 fx M = false := by
  unfold okM
  rw [Bool.and_eq_false_iff]
  refine .inr ?_
  rw [List.all_eq_false]
  exact ⟨_, hm, by simp; omega⟩
theorem okM_1 {fx : Int} {M : List (Int × Int)} (h : ¬ (1 : Int) < M.length) (ha : ∀ x v, (x, v) ∈ M → ¬ (1 : Int) < (Lib.onesCount v.toNat : Int)) : okM 1 fx M = true := by
  unfold okM
  rw [Bool.and_eq_true, List.all_eq_true]
  refine ⟨by simp; omega, fun p hp => ?_⟩
  have := ha p.1 p.2 hp
  simp; omega
theorem okM_2_len {fx : Int} {M : List (Int × Int)} (h : fx < M.length) : okM 2 fx M = false := by unfold okM; simp [h]
theorem okM_2 {fx : Int} {M : List (Int × Int)} (h : ¬ fx < M.length) : okM 2 fx M = true := by unfold okM; simp; omega

set_option maxHeartbeats 16000000 in
theorem within_any {a0 a1 a2 a3 a4 a5 kd dt ck fx : Int} (h : SV a0 a1 a2 a3 a4 a5) (hC : CodeOk kd dt ck fx) {sa : Option Addr} (c : Nat) {xs : List St} (hx : xs.length ≤ 40) (w : World) (hN : Nm w)
    (hl : Lies w w.heap.size sa 12 xs.length (fun j => stC xs[j]!)) :
    Calls Tryd.prog 34 #[v6 a0 a1 a2 a3 a4 a5, vC kd dt ck fx, .slice sa xs.length c] w (Gives (.bool (wB a0 a1 a2 a3 a4 a5 kd dt ck fx xs)) w) := by
  have hpw := pw_12 (a := a0 + a1 + a2 + a3 + a4 + a5) h.sum
  obtain ⟨n, hn⟩ : ∃ n : Nat, n = 2 ^ (a0 + a1 + a2 + a3 + a4 + a5).toNat := ⟨_, rfl⟩
  have hni : ((n : Nat) : Int) = 2 ^ (a0 + a1 + a2 + a3 + a4 + a5).toNat := by rw [hn]; simp
  have hsz : ∀ w, Calls Tryd.prog 16 #[v6 a0 a1 a2 a3 a4 a5] w (Gives (.int .i64 n) w) := fun w => by rw [hni]; exact size_yes h w
  have hn4 : n ≤ 4096 := by omega
  have HMK := Lib.hid (fun (j : Nat) w (hj : j < n) (hN : Nm w) hl => masks_is (time := 1099511627776) h (Int.natCast_nonneg j) (by omega) (sa := sa) c (xs := xs) (by omega) w hN hl)
  have HVL := Lib.hid (fun w hN hl => ivalid_any h hC (sa := sa) c hx w hN hl)
  have hkd : kd = 1 ∨ kd = 2 := by rcases hC with h | ⟨h, -⟩; exact .inl h; exact .inr h
  obtain ⟨V, hV⟩ : ∃ V, V = wB a0 a1 a2 a3 a4 a5 kd dt ck fx xs := ⟨_, rfl⟩
  rw [← hV]
  unfold wB at hV
  rw [← hn] at hV
  have HSZ := Lib.hid hsz
  have HV := Lib.hid hV
  have HL := Lib.hid hl
  have HNm := Lib.hid hN
  have HKD := Lib.hid hkd
  clear hl hN h hC hV hsz hx hn hni hpw hkd
  go_enter Tryd.func34, Tryd.ntmps34
  have H := HS.start NoD w
  go_wp2_with fail
  refine (HVL.out _ (HNm.out.below H.alloc.alloc.done) (H.alloc.alloc.liesUp HL.out)).mono ?_
  rintro _ w1 ⟨rfl, hb⟩
  replace H := H.alloc.alloc.below hb
  clear hb
  try clear C
  try simp only [World.size_alloc, List.nil_append, List.cons_append, List.append_assoc] at H
  generalize w.heap.size + 1 = bC at H ⊢
  generalize w.heap.size = bS at H ⊢
  have C := H.cells
  try simp only [cellsOf, apartOf, and_true] at C
  dsimp only
  cases hok : okS a0 a1 a2 a3 a4 a5 (nC kd dt ck) 0 xs
  · have hv : V = false := by have := HV.out; rw [hok] at this; simpa using this
    clear hok HV
    subst hv
    go_wp2_with fail
    go_ret
    exact ⟨rfl, H.done⟩
  have HALL : Hid (V = (List.range n).all fun i => okM kd fx (mkI xs (atF a0 a1 a2 a3 a4 a5 i) 1099511627776)) := Lib.hid (by have := HV.out; rw [hok] at this; simpa using this)
  clear hok HV
  go_wp2_with fail
  refine (HSZ.out _).mono ?_
  rintro _ w2 ⟨rfl, hb⟩
  replace H := H.below hb
  clear hb
  try clear C
  try simp only [World.size_alloc, List.nil_append, List.cons_append, List.append_assoc] at H
  try clear w1
  have C := H.cells
  try simp only [cellsOf, apartOf, and_true] at C
  dsimp only
  go_wp2_with fail
  go_loopw [18] (fun c wr => ∃ (j : Nat), c = .int .i64 j ∧ j ≤ n ∧ (∀ i, i < j → okM kd fx (mkI xs (atF a0 a1 a2 a3 a4 a5 i) 1099511627776) = true) ∧ HS NoD w [.blk bS #[.int .i64 a0, .int .i64 a1, .int .i64 a2, .int .i64 a3, .int .i64 a4, .int .i64 a5] 28, .blk bC #[.int .i64 kd, .int .i64 dt, .int .i64 ck, .int .i64 fx] 58] wr) (fun c _ => n - (intOf c).toNat)
  case atStart => exact ⟨0, rfl, Nat.zero_le _, fun i hi => absurd hi (Nat.not_lt_zero _), H⟩
  case round =>
    clear H C w2
    obtain ⟨j, rfl, hj, hall, H⟩ := hrel
    have HAL := Lib.hid hall
    clear hall
    skip
    try clear C
    try simp only [World.size_alloc, List.nil_append, List.cons_append, List.append_assoc] at H
    have C := H.cells
    try simp only [cellsOf, apartOf, and_true] at C
    by_cases hlt : j < n
    · have hNO : Hid (okM kd fx (mkI xs (atF a0 a1 a2 a3 a4 a5 j) 1099511627776) = false → V = false) := fun hf => by
        rw [HALL.out, List.all_eq_false]
        exact ⟨j, List.mem_range.2 hlt, by rw [hf]; decide⟩
      have hYES : Hid (okM kd fx (mkI xs (atF a0 a1 a2 a3 a4 a5 j) 1099511627776) = true → ∀ i, i < j + 1 → okM kd fx (mkI xs (atF a0 a1 a2 a3 a4 a5 i) 1099511627776) = true) := fun hf i hi => by
        by_cases e : i = j
        · rw [e]; exact hf
        · exact HAL.out i (by omega)
      have hm := HMK.out j
      have hby := mkI_byte xs (atF a0 a1 a2 a3 a4 a5 j) 1099511627776
      generalize mkI xs (atF a0 a1 a2 a3 a4 a5 j) 1099511627776 = M at hm hby hNO hYES
      have HM := Lib.hid hm
      have HBY := Lib.hid hby
      clear hm hby
      go_wp2_with fail
      refine (HM.out _ hlt (HNm.out.below H.done) (H.liesUp HL.out)).mono ?_
      rintro _ w1 ⟨bm, es, clock, rfl, hb0, hbm, hMM, hb⟩
      replace H := H.gets hb (A := .obj bm (.map es clock)) hbm (fun k hk => by cases hk; exact hb0) ⟨Nat.zero_le _, fun k hk => absurd hk (Nat.not_lt_zero _)⟩
      clear hb hbm hb0 HM C
      try simp only [World.size_alloc, List.nil_append, List.cons_append, List.append_assoc] at H
      have hes := hMM.size
      have HMM := Lib.hid hMM
      clear hMM
      skip
      try clear C
      try simp only [World.size_alloc, List.nil_append, List.cons_append, List.append_assoc] at H
      have C := H.cells
      try simp only [cellsOf, apartOf, and_true] at C
      have HT : Tryd.prog.underlying 95 = some (.map 3 5) := Tryd.underlying95
      rcases HKD.out with rfl | rfl
      · by_cases h1 : (1 : Int) < M.length
        · have hv := hNO.out (okM_1_len h1)
          subst hv
          go_wp2_with (at_len; refine wpList_len_I rfl (.tmp 40) rfl HT H 2 rfl HMM.out rfl ?_)
          go_ret
          exact ⟨rfl, H.done⟩
        · go_upto_region 9 with (at_len; refine wpList_len_I rfl (.tmp 40) rfl HT H 2 rfl HMM.out rfl ?_)
          go_upto_region 10 with (at_range; refine wpList_range_I rfl (.tmp 45) 95 rfl HT H 2 rfl rfl ?_; clear H C; intro H)
          try simp only [List.nil_append, List.cons_append] at H
          generalize hwb : w1.alloc _ = w2 at H ⊢
          clear hwb
          generalize w1.heap.size = r at H ⊢
          go_frame
          go_loopw [] (fun wr => ∃ seen : Array Nat, SeenOk Few es seen ∧ HS NoD w [.blk bS #[.int .i64 a0, .int .i64 a1, .int .i64 a2, .int .i64 a3, .int .i64 a4, .int .i64 a5] 28, .blk bC #[.int .i64 1, .int .i64 dt, .int .i64 ck, .int .i64 fx] 58, .obj bm (.map es clock), .obj r (.mapIter (some bm) clock seen clock)] wr) (fun wr => itLeft es r wr)
          case atStart => exact ⟨#[], SeenOk.nil _ _, H⟩
          case round =>
            clear H w1 w2
            obtain ⟨seen, hsn, H⟩ := hrel
            have HSN := Lib.hid hsn
            clear hsn
            try clear C
            try simp only [World.size_alloc, List.nil_append, List.cons_append, List.append_assoc] at H
            have C := H.cells
            try simp only [cellsOf, apartOf, and_true] at C
            go_upto_region 11 with (at_next; refine wpList_next_I rfl (.tmp 46) rfl H 2 3 HMM.out rfl rfl rfl rfl (by decide) (fun hdone => ?_) (fun x v e wz he hke hve hmM hltn HZ hen => ?_))
            · have hv := hYES.out (okM_1 (by omega) (fun x v hm => (HSN.out).all HMM.out hdone x v hm))
              exact ⟨⟨j + 1, by push_cast; rfl, by omega, hv, H.less (by repeat (first | exact .slnil | refine .cons_cons _ ?_ | refine .cons _ ?_))⟩, by simp [intOf]; omega⟩
            · have hvb := HBY.out _ hmM
              have HO := Lib.hid (fun w => ones_is v w hvb.1 (by have := hvb.2; dsimp only at this; omega))
              have HOLD := Lib.hid (itLeft_of (es := es) (H.at 3 rfl))
              clear H C
              have H := HZ
              clear HZ
              simp only [List.set_cons_succ, List.set_cons_zero] at H
              have C := H.cells
              try simp only [cellsOf, apartOf, and_true] at C
              have HP1 : Hid ((1 : Int) < (Lib.onesCount v.toNat : Int) → V = false) := fun h1 => hNO.out (okM_1_ones hmM h1)
              have HP2 : Hid (¬ (1 : Int) < (Lib.onesCount v.toNat : Int) → SeenOk Few es (seen.push e.born)) := fun h1 => (HSN.out).push HMM.out he hve h1
              clear hke he hvb hve
              generalize Lib.onesCount v.toNat = m at HO HP1 HP2
              by_cases h1 : (1 : Int) < (m : Int)
              · have hv := HP1.out h1
                subst hv
                skip
                go_step
                refine wpList_entry_I rfl (.tmp 46) rfl rfl hen ?_
                go_wp2_with fail
                refine (HO.out _).mono ?_
                rintro _ w3 ⟨rfl, hb⟩
                replace H := H.below hb
                clear hb
                try clear C
                try simp only [World.size_alloc, List.nil_append, List.cons_append, List.append_assoc] at H
                try clear wz
                have C := H.cells
                try simp only [cellsOf, apartOf, and_true] at C
                dsimp only
                go_wp2_with fail
                go_ret
                exact ⟨rfl, H.done⟩
              · skip
                go_step
                refine wpList_entry_I rfl (.tmp 46) rfl rfl hen ?_
                go_wp2_with fail
                refine (HO.out _).mono ?_
                rintro _ w4 ⟨rfl, hb⟩
                replace H := H.below hb
                clear hb
                try clear C
                try simp only [World.size_alloc, List.nil_append, List.cons_append, List.append_assoc] at H
                try clear wz
                have C := H.cells
                try simp only [cellsOf, apartOf, and_true] at C
                dsimp only
                go_wp2_with fail
                exact ⟨⟨seen.push e.born, HP2.out (by omega), H⟩, by rw [itLeft_of (H.at 3 rfl), HOLD.out]; exact hltn⟩
      · by_cases h1 : fx < M.length
        · have hv := hNO.out (okM_2_len h1)
          subst hv
          go_wp2_with (at_len; refine wpList_len_I rfl (.tmp 29) rfl HT H 2 rfl HMM.out rfl ?_)
          go_ret
          exact ⟨rfl, H.done⟩
        · go_upto_region 9 with (at_len; refine wpList_len_I rfl (.tmp 29) rfl HT H 2 rfl HMM.out rfl ?_)
          go_upto_region 10 with (at_range; refine wpList_range_I rfl (.tmp 45) 95 rfl HT H 2 rfl rfl ?_; clear H C; intro H)
          try simp only [List.nil_append, List.cons_append] at H
          generalize hwb : w1.alloc _ = w2 at H ⊢
          clear hwb
          generalize w1.heap.size = r at H ⊢
          go_frame
          go_loopw [] (fun wr => ∃ seen : Array Nat, HS NoD w [.blk bS #[.int .i64 a0, .int .i64 a1, .int .i64 a2, .int .i64 a3, .int .i64 a4, .int .i64 a5] 28, .blk bC #[.int .i64 2, .int .i64 dt, .int .i64 ck, .int .i64 fx] 58, .obj bm (.map es clock), .obj r (.mapIter (some bm) clock seen clock)] wr) (fun wr => itLeft es r wr)
          case atStart => exact ⟨#[], H⟩
          case round =>
            clear H w1 w2
            obtain ⟨seen, H⟩ := hrel
            try clear C
            try simp only [World.size_alloc, List.nil_append, List.cons_append, List.append_assoc] at H
            have C := H.cells
            try simp only [cellsOf, apartOf, and_true] at C
            go_upto_region 11 with (at_next; refine wpList_next_I rfl (.tmp 46) rfl H 2 3 HMM.out rfl rfl rfl rfl (by decide) (fun hdone => ?_) (fun x v e wz he hke hve hmM hltn HZ hen => ?_))
            · have hv := hYES.out (okM_2 (by omega))
              exact ⟨⟨j + 1, by push_cast; rfl, by omega, hv, H.less (by repeat (first | exact .slnil | refine .cons_cons _ ?_ | refine .cons _ ?_))⟩, by simp [intOf]; omega⟩
            · have HOLD := Lib.hid (itLeft_of (es := es) (H.at 3 rfl))
              clear H C hke he hve
              have H := HZ
              clear HZ
              simp only [List.set_cons_succ, List.set_cons_zero] at H
              have C := H.cells
              try simp only [cellsOf, apartOf, and_true] at C
              skip
              go_step
              refine wpList_entry_I rfl (.tmp 46) rfl rfl hen ?_
              go_wp2_with fail
              exact ⟨⟨seen.push e.born, H⟩, by rw [itLeft_of (H.at 3 rfl), HOLD.out]; exact hltn⟩
    · have hje : j = n := by omega
      subst hje
      have hv : V = true := by
        rw [HALL.out, List.all_eq_true]
        exact fun i hi => HAL.out i (List.mem_range.1 hi)
      subst hv
      go_wp2_with fail
      go_ret
      exact ⟨rfl, H.done⟩
end Go.Proofs.YtaeockopliplfaaDoor
