/- A charge's parsing: step by step. -/
import Derived.Test.YtggkkkpafealkaaPoS10
import Derived.Test.YtggkkkpafealkaaPoC9
import Derived.Test.YtggkkkpafealkaaProg
open Go Go.Ab Go.Proofs
namespace Po
abbrev Ps.m (p : Ps) (L : List Tok) : M := .box [.d (tokS L), i64 p.i, i64 p.err, i64 p.line, i64 p.col]
abbrev chZ : M := .box [tx [], bo false, i64 0, i64 0, i64 0, i64 0, i64 0, i64 0, i64 0, i64 0, i64 0, .d .nil, i64 0, .d .nil, i64 0, i64 0]
structure ChB where (meter : Bs) (w : Wn) (allow block kind mode : Int)
abbrev ChB.m (c : ChB) (line col : Int) (t a : A) : M := .box [tx c.meter, bo c.w.has, i64 c.w.f.y, i64 c.w.f.m, i64 c.w.f.d, i64 c.w.t.y, i64 c.w.t.m, i64 c.w.t.d, i64 c.allow, i64 c.block, i64 c.kind, t, i64 c.mode, a, i64 line, i64 col]
abbrev chS (L : List Tok) (p : Ps) (b : M) (more : List (Nat × M)) : St := mkSt 118 [(0, pp0), (6, .ptr 6 0), (7, .ptr 7 0)] ([(pk 0, p.m L), (6, chZ), (7, b)] ++ more)
structure AjL where (p : Ps) (n : Nat) (f : Nat → Nat → D) (o : List Aj)
structure TrL where (p : Ps) (n : Nat) (f : Nat → Nat → D) (o : List Tr)
theorem charge_runs (L : List Tok) (p : Ps) (line col : Int) (h : Pok L p) : Runs Try.prog 37 [pp0, i64 line, i64 col] [p.b L] (.agg (chargeV L p line col).cs) [(chargeP L p).b L] := by
  refine r_fnL (fn := Try.f37) rfl rfl (by kernel_rfl) ?_
  refine g_call (by kernel_rfl) (token_runs L p 1 h (by decide)) ?_
  refine g_call (by kernel_rfl) (window_runs L (tokenP L p 1) (h.token (by decide))) ?_
  refine g_call (by kernel_rfl) (want_runs L (windowP L (tokenP L p 1)) bOpen (h.token (by decide)).window) ?_
  have h3 : Pok L (chH L p) := (h.token (by decide)).window.want
  refine g_call (by kernel_rfl) (take_runs L (chH L p) bAllow h3) ?_
  refine g_jn (by kernel_rfl) (chS L (optP L (chH L p) bAllow) (ChB.m ⟨tokenV L p 1, windowV L (tokenP L p 1), optV L (chH L p) bAllow 0, 1, 0, 0⟩ line col (.d .nil) (.d .nil)) []) ?_ ?_
  · refine g_br (b := on L (chH L p) bAllow) (by kernel_rfl) (fun q => ?_) (fun q => ?_)
    · rw [optP, optV, q]
      refine g_call (by kernel_rfl) (number_runs L (takeP L (chH L p) bAllow) 0 1000000 h3.take) ?_
      refine g_call (by kernel_rfl) (want_runs L (numberP L (takeP L (chH L p) bAllow) 0 1000000) bSemi h3.take.number) ?_
      exact g_done (by kernel_rfl) ⟨by kernel_rfl, le_mk (by kernel_rfl)⟩
    · rw [optP, optV, q]
      have e : takeP L (chH L p) bAllow = chH L p := by rw [takeP, q]
      rw [e]
      exact g_done (by kernel_rfl) ⟨by kernel_rfl, le_mk (by kernel_rfl)⟩
  generalize he4 : optP L (chH L p) bAllow = p4
  have h4 : Pok L p4 := by rw [← he4]; exact h3.opt
  refine g_call (by kernel_rfl) (take_runs L p4 bBlock h4) ?_
  refine g_jn (by kernel_rfl) (chS L (optP L p4 bBlock) (ChB.m ⟨tokenV L p 1, windowV L (tokenP L p 1), optV L (chH L p) bAllow 0, optV L p4 bBlock 1, 0, 0⟩ line col (.d .nil) (.d .nil)) []) ?_ ?_
  · refine g_br (b := on L p4 bBlock) (by kernel_rfl) (fun q => ?_) (fun q => ?_)
    · rw [show optP L p4 bBlock = wantP L (numberP L (takeP L p4 bBlock) 0 1000000) bSemi by rw [optP, q], show optV L p4 bBlock 1 = numberV L (takeP L p4 bBlock) 0 1000000 by rw [optV, q]]
      refine g_call (by kernel_rfl) (number_runs L (takeP L p4 bBlock) 0 1000000 h4.take) ?_
      refine g_call (by kernel_rfl) (want_runs L (numberP L (takeP L p4 bBlock) 0 1000000) bSemi h4.take.number) ?_
      exact g_done (by kernel_rfl) ⟨by kernel_rfl, le_mk (by kernel_rfl)⟩
    · rw [show optP L p4 bBlock = p4 by rw [optP, q], show optV L p4 bBlock 1 = 1 by rw [optV, q]]
      have e : takeP L p4 bBlock = p4 := by rw [takeP, q]
      rw [e]
      exact g_done (by kernel_rfl) ⟨by kernel_rfl, le_mk (by kernel_rfl)⟩
  have he5 : optP L p4 bBlock = chK L p := by rw [← he4]; rfl
  rw [he5]
  have h5 : Pok L (chK L p) := h3.opt.opt
  generalize hq5 : chK L p = p5 at h5
  have hv5 : optV L p4 bBlock 1 = optV L (optP L (chH L p) bAllow) bBlock 1 := by rw [he4]
  refine g_call (by kernel_rfl) (one_lits L p5 (wKinds.map fun w => .str (ofL w)) 2 wKinds h5 (by decide) rfl rfl) ?_
  have hk : IntKind.i64.wrap (1 + oneV L p5 0 wKinds) = 1 + oneV L p5 0 wKinds := by
    have := @one_range L p5 wKinds 0 (Int.le_refl 0)
    have e : (wKinds.length : Int) = 2 := rfl
    exact w64 (by omega) (by omega)
  refine g_jn (by kernel_rfl) (chS L (kindP L p5) (ChB.m ⟨tokenV L p 1, windowV L (tokenP L p 1), optV L (chH L p) bAllow 0, optV L p4 bBlock 1, 1 + oneV L p5 0 wKinds, 0⟩ line col (.d .nil) (.d .nil)) []) ?_ ?_
  · refine g_br (b := IntKind.i64.wrap (1 + oneV L p5 0 wKinds) == 0) (by kernel_rfl) (fun q => ?_) (fun q => ?_)
    · refine g_call (by kernel_rfl) (wrong_runs L (oneP L p5 wKinds) 4 h5.one) ?_
      refine g_done (by kernel_rfl) ⟨by kernel_rfl, ?_⟩
      have ek : kindP L p5 = wrongP L (oneP L p5 wKinds) 4 := by rw [kindP, ← hk, q]
      rw [ek, ← hk]
      exact le_mk (by kernel_rfl)
    · refine g_done (by kernel_rfl) ⟨by kernel_rfl, ?_⟩
      have ek : kindP L p5 = oneP L p5 wKinds := by rw [kindP, ← hk, q]
      rw [ek, ← hk]
      exact le_mk (by kernel_rfl)
  refine g_call (by kernel_rfl) (want_runs L (kindP L p5) bOpen h5.kind) ?_
  have he6 : wantP L (kindP L p5) bOpen = chT L p := by rw [chT, hq5]
  rw [he6]
  have h6 : Pok L (chT L p) := by rw [← he6]; exact h5.kind.want
  generalize hq6 : chT L p = p6 at h6
  generalize hB : (⟨tokenV L p 1, windowV L (tokenP L p 1), optV L (chH L p) bAllow 0, optV L p4 bBlock 1, 1 + oneV L p5 0 wKinds, 0⟩ : ChB) = B
  refine g_lp (by kernel_rfl) (fun y : TrL => chS L y.p (B.m line col (.own y.n 2 y.f 61) (.d .nil)) [(61, .chain y.n)])
    (fun y => Pok L y.p ∧ y.n = y.o.length ∧ (y.n : Int) ≤ y.p.i ∧ Rows Tr.d 2 y.f y.o ∧ ∃ m, left L y.p ≤ m ∧ tiersGo L m y.p y.o = tiersGo L L.length p6 []) (fun y => left L y.p) ⟨p6, 0, fun _ _ => .nil, []⟩
    (St.le_trans (b := chS L p6 (B.m line col (.d .nil) (.d .nil)) []) (le_mk (by kernel_rfl))
      (St.le_trans (le_nilB 61 7 2 (fun _ _ => .nil) [tx B.meter, bo B.w.has, i64 B.w.f.y, i64 B.w.f.m, i64 B.w.f.d, i64 B.w.t.y, i64 B.w.t.m, i64 B.w.t.d, i64 B.allow, i64 B.block, i64 B.kind] [i64 B.mode, .d .nil, i64 line, i64 col] (by kernel_rfl) (by kernel_rfl)) (le_mk (by kernel_rfl))))
    ⟨h6, rfl, h6.2.1, Rows.none _ _ _, L.length, by unfold left; omega, rfl⟩ ?_
  · rintro ⟨q, n, f, o⟩ ⟨hq, hn, hnq, hf, m, hm, hg⟩
    simp only [] at hq hn hnq hf hm hg
    have hql := hq.1.1
    have hqi := hq.2
    refine g_call (by kernel_rfl) (take_runs L q bUpto hq) ?_
    refine g_cbr (b := on L q bUpto) (by kernel_rfl) (fun ho => ?_) (fun ho => ?_)
    · refine g_call (by kernel_rfl) (Po.number_runs (L) (takeP L q bUpto) (0) (1000000) (by repeat' (first | assumption | apply Pok.take | apply Pok.want | apply Pok.day | apply Pok.wrong | apply Pok.number | apply Pok.one | apply Pok.window | apply Pok.mode | refine Pok.token ?_ (by decide)))) ?_
      refine g_call (by kernel_rfl) (Po.want_runs (L) (numberP L (takeP L q bUpto) 0 1000000) ([114, 97, 116, 101]) (by repeat' (first | assumption | apply Pok.take | apply Pok.want | apply Pok.day | apply Pok.wrong | apply Pok.number | apply Pok.one | apply Pok.window | apply Pok.mode | refine Pok.token ?_ (by decide)))) ?_
      refine g_call (by kernel_rfl) (Po.number_runs (L) (wantP L (numberP L (takeP L q bUpto) 0 1000000) [114, 97, 116, 101]) (6) (1000000000000) (by repeat' (first | assumption | apply Pok.take | apply Pok.want | apply Pok.day | apply Pok.wrong | apply Pok.number | apply Pok.one | apply Pok.window | apply Pok.mode | refine Pok.token ?_ (by decide)))) ?_
      refine g_need (c := Nat.beq 2 2 && (decide (n = n) && (decide ((n + 1) * 16 ≤ 140737488355328) && decide (n + 1 ≤ 9223372036854775807)))) (by kernel_rfl) (by simp; omega) ?_
      refine g_call (by kernel_rfl) (Po.want_runs (L) (numberP L (wantP L (numberP L (takeP L q bUpto) 0 1000000) [114, 97, 116, 101]) 6 1000000000000) ([59]) (by repeat' (first | assumption | apply Pok.take | apply Pok.want | apply Pok.day | apply Pok.wrong | apply Pok.number | apply Pok.one | apply Pok.window | apply Pok.mode | refine Pok.token ?_ (by decide)))) ?_
      refine g_done (by kernel_rfl) ?_
      exact g_again (by kernel_rfl) ({ p := wantP L (numberP L (wantP L (numberP L (takeP L q bUpto) 0 1000000) [114, 97, 116, 101]) 6 1000000000000) [59], n := n + 1, f := apRow n f (oneRow 1 (rowD [D.int IntKind.i64 (numberV L (takeP L q bUpto) 0 1000000), D.int IntKind.i64 (numberV L (wantP L (numberP L (takeP L q bUpto) 0 1000000) [114, 97, 116, 101]) 6 1000000000000)] 2)), o := (o ++ [tierV L q]) : TrL }) (by obtain ⟨m', rfl⟩ : ∃ m', m = m' + 1 := ⟨m - 1, by have := left_pos hq; omega⟩; have hu := tier_up ho; rw [tiersGo, ho] at hg; exact ⟨hq.tier, by simp [hn], by show ((n + 1 : Nat) : Int) ≤ (tierP L q).i; omega, hf.push hn (fun j hj => by rcases j with _|_|j <;> first | rfl | omega), m', by have := left_lt hq hu; show left L (tierP L q) ≤ m'; omega, hg⟩) (left_lt hq (tier_up ho)) (le_mk (by kernel_rfl))
    refine g_done (by kernel_rfl) ?_
    refine g_leave (by kernel_rfl) ?_
    rw [show takeP L q bUpto = q by rw [takeP, ho]]
    have hT : tiersGo L L.length (chT L p) [] = (o, q) := by
      obtain ⟨m', rfl⟩ : ∃ m', m = m' + 1 := ⟨m - 1, by have := left_pos hq; omega⟩
      rw [hq6, ← hg, tiersGo, ho]
    have hR : wantP L (wantP L q bRest) bRate = chR L p := by rw [chR, hT]
    refine g_call (by kernel_rfl) (want_runs L q bRest hq) ?_
    refine g_call (by kernel_rfl) (want_runs L (wantP L q bRest) bRate hq.want) ?_
    rw [hR]
    have h7 : Pok L (chR L p) := by rw [← hR]; exact hq.want.want
    generalize hq7 : chR L p = p7 at h7
    refine g_call (by kernel_rfl) (number_runs L p7 6 1000000000000 h7) ?_
    refine g_need (c := Nat.beq 2 2 && (decide (n = n) && (decide ((n + 1) * 16 ≤ 140737488355328) && decide (n + 1 ≤ 9223372036854775807)))) (by kernel_rfl) (by simp; omega) ?_
    refine g_call (by kernel_rfl) (want_runs L (numberP L p7 6 1000000000000) bSemi h7.number) ?_
    refine g_call (by kernel_rfl) (want_runs L (wantP L (numberP L p7 6 1000000000000) bSemi) bClose h7.number.want) ?_
    refine g_call (by kernel_rfl) (want_runs L (wantP L (wantP L (numberP L p7 6 1000000000000) bSemi) bClose) bRound h7.number.want.want) ?_
    have hM : wantP L (wantP L (wantP L (numberP L p7 6 1000000000000) bSemi) bClose) bRound = chM L p := by rw [chM, hq7]
    rw [hM]
    have h8 : Pok L (chM L p) := by rw [← hM]; exact h7.number.want.want.want
    generalize hq8 : chM L p = p8 at h8
    refine g_call (by kernel_rfl) (mode_runs L p8 h8) ?_
    refine g_call (by kernel_rfl) (want_runs L (modeP L p8) bSemi h8.mode) ?_
    have hA : wantP L (modeP L p8) bSemi = chA L p := by rw [chA, hq8]
    rw [hA]
    have h9 : Pok L (chA L p) := by rw [← hA]; exact h8.mode.want
    generalize hq9 : chA L p = p9 at h9
    have hF := hf.push (x := (⟨0, numberV L p7 6 1000000000000⟩ : Tr)) (g := rowD [.int .i64 0, .int .i64 (numberV L p7 6 1000000000000)] 2) hn (fun j hj => by rcases j with _|_|j <;> first | rfl | omega)
    let F := apRow n f (oneRow 1 (rowD [.int .i64 0, .int .i64 (numberV L p7 6 1000000000000)] 2))
    refine g_lp (by kernel_rfl) (fun y : AjL => chS L y.p (ChB.m { B with mode := modeV L p8 } line col (.own (n + 1) 2 F 61) (.own y.n 3 y.f 113)) [(61, .chain (n + 1)), (113, .chain y.n)])
      (fun y => Pok L y.p ∧ y.n = y.o.length ∧ (y.n : Int) ≤ y.p.i ∧ Rows Aj.d 3 y.f y.o ∧ ∃ m, left L y.p ≤ m ∧ ajsGo L m y.p y.o = ajsGo L L.length p9 []) (fun y => left L y.p) ⟨p9, 0, fun _ _ => .nil, []⟩
      (St.le_trans (b := chS L p9 (ChB.m { B with mode := modeV L p8 } line col (.own (n + 1) 2 F 61) (.d .nil)) [(61, .chain (n + 1))]) (by rw [← hB]; exact le_mk (by kernel_rfl))
        (St.le_trans (le_nilB 113 7 3 (fun _ _ => .nil) [tx B.meter, bo B.w.has, i64 B.w.f.y, i64 B.w.f.m, i64 B.w.f.d, i64 B.w.t.y, i64 B.w.t.m, i64 B.w.t.d, i64 B.allow, i64 B.block, i64 B.kind, .own (n + 1) 2 F 61, i64 (modeV L p8)] [i64 line, i64 col] (by kernel_rfl) (by kernel_rfl)) (le_mk (by kernel_rfl))))
      ⟨h9, rfl, h9.2.1, Rows.none _ _ _, L.length, by unfold left; omega, rfl⟩ ?_
    rintro ⟨q', n', f', o'⟩ ⟨hq', hn', hnq', hf', m', hm', hg'⟩
    simp only [] at hq' hn' hnq' hf' hm' hg'
    have hqi' := hq'.2
    refine g_call (by kernel_rfl) (one_lits L q' (wAdj.map fun w => .str (ofL w)) 4 wAdj hq' (by decide) rfl rfl) ?_
    have hk' : IntKind.i64.wrap (1 + oneV L q' 0 wAdj) = ajK L q' := by
      have := @one_range L q' wAdj 0 (Int.le_refl 0)
      have e : (wAdj.length : Int) = 4 := rfl
      exact w64 (by omega) (by omega)
    refine g_cbr (b := IntKind.i64.wrap (1 + oneV L q' 0 wAdj) == 0) (by kernel_rfl) (fun ho' => ?_) (fun ho' => ?_)
    · rw [hk'] at ho'
      have hJ : ajsGo L L.length (chA L p) [] = (o', oneP L q' wAdj) := by
        obtain ⟨m'', rfl⟩ : ∃ m'', m' = m'' + 1 := ⟨m' - 1, by have := left_pos hq'; omega⟩
        rw [hq9, ← hg', ajsGo, ho']
      have hV : chargeV L p line col = ⟨B.meter, B.w, B.allow, B.block, B.kind, o ++ [⟨0, numberV L p7 6 1000000000000⟩], modeV L p8, o', line, col⟩ := by
        rw [chargeV, hT, hJ, hq7, hq8, hq5, ← hB, hv5]
      have hP : chargeP L p = wantP L (oneP L q' wAdj) bClose := by rw [chargeP, hJ]
      rw [hV, hP]
      refine g_done (by kernel_rfl) ?_
      refine g_leave (by kernel_rfl) ?_
      refine g_call (by kernel_rfl) (Po.want_runs (L) (oneP L q' wAdj) ([125]) (by repeat' (first | assumption | apply Pok.take | apply Pok.want | apply Pok.day | apply Pok.wrong | apply Pok.number | apply Pok.one | apply Pok.window | apply Pok.mode | refine Pok.token ?_ (by decide)))) ?_
      refine g_done (by kernel_rfl) ?_
      exact finLe (show _ = some (A.agg [D.str (ofL B.meter), D.bool B.w.has, D.int IntKind.i64 B.w.f.y, D.int IntKind.i64 B.w.f.m, D.int IntKind.i64 B.w.f.d, D.int IntKind.i64 B.w.t.y, D.int IntKind.i64 B.w.t.m, D.int IntKind.i64 B.w.t.d, D.int IntKind.i64 B.allow, D.int IntKind.i64 B.block, D.int IntKind.i64 B.kind, D.sl (n + 1) 2 F, D.int IntKind.i64 (modeV L p8), D.sl n' 3 f', D.int IntKind.i64 line, D.int IntKind.i64 col], [[D.sl L.length 4 fun i => (L.getD i default).d, D.int IntKind.i64 (wantP L (oneP L q' wAdj) [125]).i, D.int IntKind.i64 (wantP L (oneP L q' wAdj) [125]).err, D.int IntKind.i64 (wantP L (oneP L q' wAdj) [125]).line, D.int IntKind.i64 (wantP L (oneP L q' wAdj) [125]).col]]) from by kernel_rfl) (resA (.cons (V.le_refl _) (.cons (V.le_refl _) (.cons (V.le_refl _) (.cons (V.le_refl _) (.cons (V.le_refl _) (.cons (V.le_refl _) (.cons (V.le_refl _) (.cons (V.le_refl _) (.cons (V.le_refl _) (.cons (V.le_refl _) (.cons (V.le_refl _) (.cons (rows_le default (by simp [hn]) hF) (.cons (V.le_refl _) (.cons (rows_le default hn' hf') (DsLe.refl _)))))))))))))))) (BsLe.refl _)
    · rw [hk'] at ho'
      refine g_jn (by kernel_rfl) (mkSt 118 [(0, pp0), (6, .ptr 6 0), (7, .ptr 7 0), (10, .ptr 10 0)] [(pk 0, (ajP L q').m L), (6, chZ), (7, ChB.m { B with mode := modeV L p8 } line col (.own (n + 1) 2 F 61) (.own n' 3 f' 113)), (61, .chain (n + 1)), (113, .chain n'), (10, .box [i64 (ajV L q').k, i64 (ajV L q').n, i64 (ajV L q').m])]) ?_ ?_
      · refine g_br (b := IntKind.i64.wrap (1 + oneV L q' 0 wAdj) == 1) (by kernel_rfl) (fun h1 => ?_) (fun h1 => ?_)
        · rw [hk'] at h1
          refine g_call (by kernel_rfl) (number_runs L (oneP L q' wAdj) 3 100000000 hq'.one) ?_
          refine g_call (by kernel_rfl) (mode_runs L (numberP L (oneP L q' wAdj) 3 100000000) hq'.one.number) ?_
          refine g_done (by kernel_rfl) ⟨by kernel_rfl, ?_⟩
          have e1 : ajV L q' = ⟨ajK L q', numberV L (oneP L q' wAdj) 3 100000000, modeV L (numberP L (oneP L q' wAdj) 3 100000000)⟩ := by rw [ajV, h1]
          have e2 : ajP L q' = modeP L (numberP L (oneP L q' wAdj) 3 100000000) := by rw [ajP, h1]
          rw [e1, e2, ← hk']
          exact le_mk (by kernel_rfl)
        · rw [hk'] at h1
          refine g_call (by kernel_rfl) (number_runs L (oneP L q' wAdj) 0 1000000000000 hq'.one) ?_
          refine g_done (by kernel_rfl) ⟨by kernel_rfl, ?_⟩
          have e1 : ajV L q' = ⟨ajK L q', numberV L (oneP L q' wAdj) 0 1000000000000, 0⟩ := by rw [ajV, h1]
          have e2 : ajP L q' = numberP L (oneP L q' wAdj) 0 1000000000000 := by rw [ajP, h1]
          rw [e1, e2, ← hk']
          exact le_mk (by kernel_rfl)
      refine g_call (by kernel_rfl) (want_runs L (ajP L q') bSemi hq'.aj) ?_
      refine g_need (c := Nat.beq 3 3 && (decide (n' = n') && (decide ((n' + 1) * 24 ≤ 140737488355328) && decide (n' + 1 ≤ 9223372036854775807)))) (by kernel_rfl) (by simp; omega) ?_
      refine g_done (by kernel_rfl) ?_
      exact g_again (by kernel_rfl) ({ p := wantP L (ajP L q') bSemi, n := n' + 1, f := apRow n' f' (oneRow 1 (rowD [D.int IntKind.i64 (ajV L q').k, D.int IntKind.i64 (ajV L q').n, D.int IntKind.i64 (ajV L q').m] 3)), o := (o' ++ [ajV L q']) : AjL }) (by obtain ⟨m'', rfl⟩ : ∃ m'', m' = m'' + 1 := ⟨m' - 1, by have := left_pos hq'; omega⟩; have hu := aj_up ho'; rw [ajsGo, ho'] at hg'; exact ⟨hq'.aj.want, by simp [hn'], by simp only []; omega, hf'.push hn' (fun j hj => by rcases j with _|_|_|j <;> first | rfl | omega), m'', by have := left_lt hq' hu; simp only []; omega, hg'⟩) (left_lt hq' (aj_up ho')) (le_mk (by kernel_rfl))
end Po
