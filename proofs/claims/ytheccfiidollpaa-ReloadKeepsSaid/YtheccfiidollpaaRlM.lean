/- The statement ReloadUnused: its walk. -/
import Derived.Test.YtheccfiidollpaaRlL
namespace Go.Proofs.Ytheccfiidollpaa
set_option linter.unusedSimpArgs false
set_option linter.unusedVariables false
open Go.RowKit
set_option maxRecDepth 100000
attribute [local irreducible] wpX wpF Calls

theorem gives_of34 {n : Nat} {args : Array Value} {v : Value} {w : World} (h : Calls Try.prog n args w fun e w' => e = .returned v ∧ w = w') : Calls Try.prog n args w (Gives v w) :=
  h.mono fun e w' ⟨h1, h2⟩ => ⟨h1, h2 ▸ Below.refl _ _⟩
set_option maxHeartbeats 16000000 in
theorem runused_walk (sa : Option Addr) (len cap : Nat) (hl : len ≤ maxLen) (n : Int) (w : World) (hI : Ints w sa len) :
    Calls Try.prog 3 #[.slice sa len cap, .int .i64 n] w (Gives (.bool true) w) := by
  have HI := Lib.hid hI
  clear hI
  have hli := light_any sa len cap hl
  clear hl
  have HAW := Lib.hid awake34_any
  by_cases h400 : len ≤ 400
  · rw [decide_eq_true h400] at hli
    have HLI := Lib.hid hli
    clear hli
    go_enter Try.func3, Try.ntmps3
    have H := HS.start NoD w
    go_wp2_with fail
    refine (gives_of34 (HLI.out _)).mono ?_
    rintro _ w1 ⟨rfl, hb⟩
    replace H := H.below hb
    clear hb
    try clear C
    try simp only [World.size_alloc, List.nil_append, List.cons_append, List.append_assoc] at H
    have C := H.cells
    try simp only [cellsOf, cellsM, apartOf, apartM, and_true] at C
    dsimp only
    go_wp2_with fail
    refine (roll_at w.heap.size _ _ _ h400 _ H.size (H.ints HI.out)).mono ?_
    rintro _ w2 ⟨bd, rfl, hd, hb, hbb⟩
    replace H := H.getsDice hb hd hbb (Nat.le_refl _)
    clear hb hd hbb
    try clear C
    try simp only [World.size_alloc, List.nil_append, List.cons_append, List.append_assoc] at H
    try clear w1
    have C := H.cells
    try simp only [cellsOf, cellsM, apartOf, apartM, and_true] at C
    dsimp only
    go_wp2_with fail
    refine (mstore_any 1 (by omega) w.heap.size bd _ (H.at 0 rfl) H.size).mono ?_
    rintro _ w2 ⟨l, s, c, qs, F, hg, hql, rfl, K⟩
    replace H := HS.joinDice H 0 rfl K (fun A hA => by simp only [List.mem_cons, List.mem_nil_iff, or_false] at hA; rcases hA with rfl | rfl <;> rfl)
    have HG := Lib.hid hg
    clear K hg
    simp only [List.nil_append, List.cons_append] at H
    skip
    try clear C
    try simp only [World.size_alloc, List.nil_append, List.cons_append, List.append_assoc] at H
    have C := H.cells
    try simp only [cellsOf, cellsM, apartOf, apartM, and_true] at C
    dsimp only
    have HM := Lib.hid (fun w => gives_of34 (mod_any n 66 w))
    have hm := modF_in (n := n) (m := 66) (by decide) (by decide)
    generalize modF n 66 = k0 at HM hm
    obtain ⟨k0, rfl⟩ : ∃ k : Nat, k0 = k := ⟨k0.toNat, by omega⟩
    have hm66 : k0 ≤ 66 := by omega
    clear hm
    go_wp2_with fail
    refine (HM.out _).mono ?_
    rintro _ w3 ⟨rfl, hb⟩
    replace H := H.below hb
    clear hb
    try clear C
    try simp only [World.size_alloc, List.nil_append, List.cons_append, List.append_assoc] at H
    try clear w2
    have C := H.cells
    try simp only [cellsOf, cellsM, apartOf, apartM, and_true] at C
    dsimp only
    clear HM
    go_wp2_with fail
    go_loopw [6, 7] (fun u kk wr => ∃ (k : Nat) (l : List Bm) (s : Option Addr) (c : Nat) (qs : List Bv) (F : Nat → Prop), kk = .int .i64 k ∧ k ≤ 66 ∧ u = .slice s l.length c ∧ qs.length = l.length ∧ Hid (GoodS 1 l) ∧ HS NoD w [.dice w.heap.size bd, rowB s l.length c qs, anyB F qs l] wr) (fun _ kk _ => (intOf kk).toNat)
    case atStart => exact ⟨k0, l, s, c, qs, F, rfl, hm66, rfl, hql, HG, H⟩
    case round =>
      clear H C HG hql hm66
      obtain ⟨k, l, s, c, qs, F, rfl, hk, rfl, hql, HG, H⟩ := hrel
      have HQL := Lib.hid hql
      have hl64 := HG.out.len
      clear hql
      skip
      try clear C
      try simp only [World.size_alloc, List.nil_append, List.cons_append, List.append_assoc] at H
      have C := H.cells
      try simp only [cellsOf, cellsM, apartOf, apartM, and_true] at C
      skip
      by_cases hk0 : 0 < k
      · have hki : (0 : Int) < k := by omega
        have hkw : IntKind.i64.wrap ((k : Int) - 1) = ((k - 1 : Nat) : Int) := by rw [IntWalk.i64_in _ (by omega)]; omega
        have hln : IntKind.i64.wrap ((l.length : Int) + 1) = ((l.length + 1 : Nat) : Int) := by rw [IntWalk.i64_in _ (by omega)]; omega
        have HUN8 := Lib.hid (fun w h => (show Calls Try.prog 11 #[.slice s l.length c] w _ from runused_any ⟨s, l.length, c⟩ l (HG.out.small (by omega)).1 w h))
        have HSB := Lib.hid (fun (wx : World) (h1 : wx.ownsRow 0 32 2 (.slice s l.length c) l.length (qs.flatMap bvC)) h2 => storeAt_of h1 rfl HQL.out h2)
        go_wp2_with fail
        refine (mblob_any 1 (by omega) w.heap.size bd _ (H.at 0 rfl) H.size).mono ?_
        rintro _ w4 ⟨q, bm, G, rfl, hid1, hid6, hgb, K⟩
        replace H := HS.joinDice H 0 rfl K (one_low rfl)
        clear K
        try simp only [List.nil_append, List.cons_append] at H
        obtain ⟨qi, qa, qn, qc⟩ := q
        have HGB := Lib.hid hgb
        clear hid1 hid6 hgb
        skip
        try clear C
        try simp only [World.size_alloc, List.nil_append, List.cons_append, List.append_assoc] at H
        have C := H.cells
        try simp only [cellsOf, cellsM, apartOf, apartM, and_true] at C
        dsimp only [vBv]
        go_wp2_with fail
        refine (HUN8.out _ (HSB.out _ (H.alloc.at 1 rfl) (H.alloc.says 2 rfl))).mono ?_
        rintro _ w4 ⟨u, rfl, hu, hb⟩
        replace H := H.alloc.below hb
        clear hb
        try clear C
        try simp only [World.size_alloc, List.nil_append, List.cons_append, List.append_assoc] at H
        generalize w4.heap.size = bX at H ⊢
        try clear w4
        have C := H.cells
        try simp only [cellsOf, cellsM, apartOf, apartM, and_true] at C
        dsimp only
        go_upto_region 10 with fail
        generalize hwb : World.setCell _ _ _ = w5
        replace H := HS.eqW hwb (H.setTo (o := 0) (v := .int .i64 u) 4 rfl rfl)
        clear hwb HUN8
        simp only [List.set_cons_succ, List.set_cons_zero] at H
        skip
        try clear C
        try simp only [World.size_alloc, List.nil_append, List.cons_append, List.append_assoc] at H
        have C := H.cells
        try simp only [cellsOf, cellsM, apartOf, apartM, and_true] at C
        skip
        by_cases hu0 : u = 0
        · subst hu0
          clear hu
          have HUN9 := Lib.hid (fun w h => (show Calls Try.prog 11 #[.slice s l.length c] w _ from runused_any ⟨s, l.length, c⟩ l (HG.out.small (by omega)).1 w h))
          have HGT9 := Lib.hid (fun id w h => (show Calls Try.prog 13 #[.slice s l.length c, .int .i64 id] w _ from rget_any ⟨s, l.length, c⟩ l (HG.out.small (by omega)) id w h))
          have HSA := Lib.hid (fun (wx : World) (h1 : wx.ownsRow 0 32 2 (.slice s l.length c) l.length (qs.flatMap bvC)) h2 => storeAt_of h1 rfl HQL.out h2)
          go_wp2_with fail
          refine (HUN9.out _ (HSA.out _ (H.at 1 rfl) (H.says 2 rfl))).mono ?_
          rintro _ w5 ⟨u, rfl, hu, hb⟩
          replace H := H.below hb
          clear hb
          try clear C
          try simp only [World.size_alloc, List.nil_append, List.cons_append, List.append_assoc] at H
          try clear w5
          have C := H.cells
          try simp only [cellsOf, cellsM, apartOf, apartM, and_true] at C
          dsimp only
          have HUI := Lib.hid hu
          skip
          by_cases hu0 : u = 0
          · subst hu0
            have hl64 := full_len HG.out hu
            have hl64i : (l.length : Int) = 64 := by omega
            clear hu
            go_wp2_with fail
            refine (HAW.out _).mono ?_
            rintro _ w6 ⟨rfl, hb⟩
            replace H := H.below hb
            clear hb
            try clear C
            try simp only [World.size_alloc, List.nil_append, List.cons_append, List.append_assoc] at H
            try clear w5
            have C := H.cells
            try simp only [cellsOf, cellsM, apartOf, apartM, and_true] at C
            dsimp only
            go_wp2_with fail
            go_ret
            exact ⟨rfl, H.done⟩
          · have hub := (hu.1.resolve_left hu0)
            have hub0 : (u == 0) = false := beq_eq_false_iff_ne.2 hu0
            obtain ⟨u, rfl⟩ : ∃ n : Nat, u = n := ⟨u.toNat, by omega⟩
            have hu1 : 1 ≤ u := by omega
            have hu64 : u ≤ 64 := by omega
            have hu64i : (u : Int) ≤ 64 := by omega
            have HUN := Lib.hid hub.2.2
            have HUA := Lib.hid hu.2
            clear hu hub hu0
            skip
            go_wp2_with fail
            refine (HGT9.out _ _ (HSA.out _ (H.at 1 rfl) (H.says 2 rfl))).mono ?_
            rintro _ w7 hg
            rcases hg with ⟨i, q, G, hi, hid, -, -⟩ | ⟨-, rfl, K⟩
            · exact absurd hid (HUN.out i hi)
            replace H := H.below K.done
            clear K
            dsimp only [vBv]
            skip
            try clear C
            try simp only [World.size_alloc, List.nil_append, List.cons_append, List.append_assoc] at H
            have C := H.cells
            try simp only [cellsOf, cellsM, apartOf, apartM, and_true] at C
            go_wp2_with fail
            go_loopw [14] (fun kk wr => ∃ (k : Nat), kk = .int .i64 k ∧ 1 ≤ k ∧ k ≤ u ∧ HS NoD w [.dice w.heap.size bd, rowB s l.length c qs, anyB F qs l] wr) (fun kk _ => u - (intOf kk).toNat)
            case atStart => exact ⟨1, rfl, by omega, by omega, HS.less H.alloc (by repeat (first | exact .slnil | refine .cons_cons _ ?_ | refine .cons _ ?_))⟩
            case round =>
              clear H C
              obtain ⟨k, rfl, hk1, hk2, H⟩ := hrel
              skip
              try clear C
              try simp only [World.size_alloc, List.nil_append, List.cons_append, List.append_assoc] at H
              have C := H.cells
              try simp only [cellsOf, cellsM, apartOf, apartM, and_true] at C
              skip
              by_cases hlt : k < u
              · have hki : (k : Int) < u := by omega
                go_wp2_with fail
                refine (HGT9.out _ _ (HSA.out _ (H.at 1 rfl) (H.says 2 rfl))).mono ?_
                rintro _ w8 hg
                rcases hg with ⟨i, q, G, hi, hid, rfl, K⟩ | ⟨hno, -, -⟩
                case inr =>
                  obtain ⟨i, hi, e⟩ := HUA.out k (by omega) (by omega) (.inl hki)
                  exact absurd e (hno i hi)
                replace H := H.below K.done
                clear K hid hi
                obtain ⟨qi, qa, qn, qc⟩ := q
                dsimp only [vBv]
                skip
                try clear C
                try simp only [World.size_alloc, List.nil_append, List.cons_append, List.append_assoc] at H
                have C := H.cells
                try simp only [cellsOf, cellsM, apartOf, apartM, and_true] at C
                go_wp2_with fail
                go_roundw
                case rel => exact ⟨k + 1, by go_num, by omega, by omega, HS.less H.alloc (by repeat (first | exact .slnil | refine .cons_cons _ ?_ | refine .cons _ ?_))⟩
                case measure => simp [intOf]; omega
              · obtain rfl : k = u := by omega
                skip
                go_wp2_with fail
                refine (HAW.out _).mono ?_
                rintro _ w7 ⟨rfl, hb⟩
                replace H := H.below hb
                clear hb
                try clear C
                try simp only [World.size_alloc, List.nil_append, List.cons_append, List.append_assoc] at H
                try clear wr
                have C := H.cells
                try simp only [cellsOf, cellsM, apartOf, apartM, and_true] at C
                dsimp only
                go_wp2_with fail
                go_ret
                exact ⟨rfl, H.done⟩
        · have hub := hu.1.resolve_left hu0
          have hub0 : (u == 0) = false := beq_eq_false_iff_ne.2 hu0
          have hgb2 : GoodB 1 ⟨u, bm.ws⟩ := ⟨hub.1, hub.2.1, HGB.out.2.2.1, HGB.out.2.2.2⟩
          have HNO := Lib.hid hub.2.2
          clear hu hub hu0
          have HPT := Lib.hid (fun w h hb => (show Calls Try.prog 12 #[.int .i64 1, .slice s l.length c, .agg #[.int .i64 u, .slice qa qn qc]] w (GivesPut l ⟨u, bm.ws⟩ w) from rput_any 1 (by omega) (by omega) ⟨s, l.length, c⟩ l HG.out ⟨u, ⟨qa, qn, qc⟩⟩ ⟨u, bm.ws⟩ hgb2 w h hb))
          have HGB2 := Lib.hid hgb2
          have HBU := Lib.hid (fun (wx : World) (h : BlobAt wx ⟨qi, ⟨qa, qn, qc⟩⟩ bm) => (show BlobAt wx ⟨u, ⟨qa, qn, qc⟩⟩ ⟨u, bm.ws⟩ from ⟨rfl, h.2⟩))
          clear hgb2
          skip
          go_wp2_with fail
          refine (HPT.out _ (HSB.out _ (H.at 1 rfl) (H.says 2 rfl)) (HBU.out _ (H.says 3 rfl))).mono ?_
          rintro _ w6 ⟨i, r, s6, c6, qs6, F6, hpo, hr, hq6, rfl, K⟩
          replace H := HS.join H K (fun A hA => by simp only [List.mem_cons, List.mem_nil_iff, or_false] at hA; rcases hA with rfl | rfl <;> rfl)
          clear K HPT HBU
          simp only [List.nil_append, List.cons_append] at H
          have H9 := HS.less (L' := [.dice w.heap.size bd, rowB s6 r.length c6 qs6, anyB F6 qs6 r]) H (.cons_cons _ (.cons _ (.cons _ (.cons _ (.cons _ (List.Sublist.refl _))))))
          have H9 := Lib.hid H9
          clear H
          have hrl : r.length = l.length + 1 := by rw [hr]; exact putAt_new hpo.le HNO.out
          have HG6 := Lib.hid (show GoodS 1 r by rw [hr]; exact HG.out.put HGB2.out hpo)
          have HQ6 := Lib.hid hq6
          clear hpo hr hq6 HNO
          have HRL := Lib.hid hrl
          rw [hrl]
          clear hrl
          dsimp only
          skip
          go_wp2_with fail
          go_roundw
          case rel => exact ⟨k - 1, r, s6, c6, qs6, F6, by go_num, by omega, by rw [HRL.out], HQ6.out, HG6, H9.out⟩
          case measure => simp [intOf]; omega
      · obtain rfl : k = 0 := by omega
        skip
        have HUN9 := Lib.hid (fun w h => (show Calls Try.prog 11 #[.slice s l.length c] w _ from runused_any ⟨s, l.length, c⟩ l (HG.out.small (by omega)).1 w h))
        have HGT9 := Lib.hid (fun id w h => (show Calls Try.prog 13 #[.slice s l.length c, .int .i64 id] w _ from rget_any ⟨s, l.length, c⟩ l (HG.out.small (by omega)) id w h))
        have HSA := Lib.hid (fun (wx : World) (h1 : wx.ownsRow 0 32 2 (.slice s l.length c) l.length (qs.flatMap bvC)) h2 => storeAt_of h1 rfl HQL.out h2)
        go_wp2_with fail
        refine (HUN9.out _ (HSA.out _ (H.at 1 rfl) (H.says 2 rfl))).mono ?_
        rintro _ w8 ⟨u, rfl, hu, hb⟩
        replace H := H.below hb
        clear hb
        try clear C
        try simp only [World.size_alloc, List.nil_append, List.cons_append, List.append_assoc] at H
        try clear wr
        have C := H.cells
        try simp only [cellsOf, cellsM, apartOf, apartM, and_true] at C
        dsimp only
        have HUI := Lib.hid hu
        skip
        by_cases hu0 : u = 0
        · subst hu0
          have hl64 := full_len HG.out hu
          have hl64i : (l.length : Int) = 64 := by omega
          clear hu
          go_wp2_with fail
          refine (HAW.out _).mono ?_
          rintro _ w9 ⟨rfl, hb⟩
          replace H := H.below hb
          clear hb
          try clear C
          try simp only [World.size_alloc, List.nil_append, List.cons_append, List.append_assoc] at H
          try clear w8
          have C := H.cells
          try simp only [cellsOf, cellsM, apartOf, apartM, and_true] at C
          dsimp only
          go_wp2_with fail
          go_ret
          exact ⟨rfl, H.done⟩
        · have hub := (hu.1.resolve_left hu0)
          have hub0 : (u == 0) = false := beq_eq_false_iff_ne.2 hu0
          obtain ⟨u, rfl⟩ : ∃ n : Nat, u = n := ⟨u.toNat, by omega⟩
          have hu1 : 1 ≤ u := by omega
          have hu64 : u ≤ 64 := by omega
          have hu64i : (u : Int) ≤ 64 := by omega
          have HUN := Lib.hid hub.2.2
          have HUA := Lib.hid hu.2
          clear hu hub hu0
          skip
          go_wp2_with fail
          refine (HGT9.out _ _ (HSA.out _ (H.at 1 rfl) (H.says 2 rfl))).mono ?_
          rintro _ w7 hg
          rcases hg with ⟨i, q, G, hi, hid, -, -⟩ | ⟨-, rfl, K⟩
          · exact absurd hid (HUN.out i hi)
          replace H := H.below K.done
          clear K
          dsimp only [vBv]
          skip
          try clear C
          try simp only [World.size_alloc, List.nil_append, List.cons_append, List.append_assoc] at H
          have C := H.cells
          try simp only [cellsOf, cellsM, apartOf, apartM, and_true] at C
          go_wp2_with fail
          go_loopw [14] (fun kk wr => ∃ (k : Nat), kk = .int .i64 k ∧ 1 ≤ k ∧ k ≤ u ∧ HS NoD w [.dice w.heap.size bd, rowB s l.length c qs, anyB F qs l] wr) (fun kk _ => u - (intOf kk).toNat)
          case atStart => exact ⟨1, rfl, by omega, by omega, HS.less H.alloc (by repeat (first | exact .slnil | refine .cons_cons _ ?_ | refine .cons _ ?_))⟩
          case round =>
            clear H C
            obtain ⟨k, rfl, hk1, hk2, H⟩ := hrel
            skip
            try clear C
            try simp only [World.size_alloc, List.nil_append, List.cons_append, List.append_assoc] at H
            have C := H.cells
            try simp only [cellsOf, cellsM, apartOf, apartM, and_true] at C
            skip
            by_cases hlt : k < u
            · have hki : (k : Int) < u := by omega
              go_wp2_with fail
              refine (HGT9.out _ _ (HSA.out _ (H.at 1 rfl) (H.says 2 rfl))).mono ?_
              rintro _ w8 hg
              rcases hg with ⟨i, q, G, hi, hid, rfl, K⟩ | ⟨hno, -, -⟩
              case inr =>
                obtain ⟨i, hi, e⟩ := HUA.out k (by omega) (by omega) (.inl hki)
                exact absurd e (hno i hi)
              replace H := H.below K.done
              clear K hid hi
              obtain ⟨qi, qa, qn, qc⟩ := q
              dsimp only [vBv]
              skip
              try clear C
              try simp only [World.size_alloc, List.nil_append, List.cons_append, List.append_assoc] at H
              have C := H.cells
              try simp only [cellsOf, cellsM, apartOf, apartM, and_true] at C
              go_wp2_with fail
              go_roundw
              case rel => exact ⟨k + 1, by go_num, by omega, by omega, HS.less H.alloc (by repeat (first | exact .slnil | refine .cons_cons _ ?_ | refine .cons _ ?_))⟩
              case measure => simp [intOf]; omega
            · obtain rfl : k = u := by omega
              skip
              go_wp2_with fail
              refine (HAW.out _).mono ?_
              rintro _ w10 ⟨rfl, hb⟩
              replace H := H.below hb
              clear hb
              try clear C
              try simp only [World.size_alloc, List.nil_append, List.cons_append, List.append_assoc] at H
              try clear wr
              have C := H.cells
              try simp only [cellsOf, cellsM, apartOf, apartM, and_true] at C
              dsimp only
              go_wp2_with fail
              go_ret
              exact ⟨rfl, H.done⟩
  · rw [decide_eq_false h400] at hli
    have HLI := Lib.hid hli
    clear hli
    go_enter Try.func3, Try.ntmps3
    have H := HS.start NoD w
    go_wp2_with fail
    refine (gives_of34 (HLI.out _)).mono ?_
    rintro _ w1 ⟨rfl, hb⟩
    replace H := H.below hb
    clear hb
    try clear C
    try simp only [World.size_alloc, List.nil_append, List.cons_append, List.append_assoc] at H
    have C := H.cells
    try simp only [cellsOf, cellsM, apartOf, apartM, and_true] at C
    dsimp only
    go_wp2_with fail
    refine (HAW.out _).mono ?_
    rintro _ w2 ⟨rfl, hb⟩
    replace H := H.below hb
    clear hb
    try clear C
    try simp only [World.size_alloc, List.nil_append, List.cons_append, List.append_assoc] at H
    try clear w1
    have C := H.cells
    try simp only [cellsOf, cellsM, apartOf, apartM, and_true] at C
    dsimp only
    go_wp2_with fail
    go_ret
    exact ⟨rfl, H.done⟩
end Go.Proofs.Ytheccfiidollpaa
