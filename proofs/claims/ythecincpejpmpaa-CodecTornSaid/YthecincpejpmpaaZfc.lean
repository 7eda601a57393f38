/- A part that several proofs lean on: texts one behind the other. No condition but those that each theorem states. -/
import Derived.Test.YthecincpejpmpaaZfb
import Derived.Stop.BytesEq
set_option linter.unusedVariables false
set_option linter.unusedSimpArgs false
/- What the walks need of the records' types. -/
namespace Go.Proofs.Ythecincpejpmpaa
open Go.RowKit Go.Lb Go.Rc
theorem list_len {a b : Option Addr} {n m c d : Nat} (h : Value.slice a n c = .slice b m d) : n = m := by cases h; rfl
theorem info3 : ∃ i, Try.prog.info? 3 = some i ∧ i.zero = some (.int .i64 0) ∧ i.size = 1 ∧ i.bytes = 8 := by
  obtain ⟨i, h1, h2, h3, h4⟩ := info_parts (show (Try.prog.info? 3).map (fun i => (i.zero, i.size, i.bytes)) = some (some (.int .i64 0), 1, 8) by kernel_rfl)
  exact ⟨i, h1, h2, h3, h4⟩
theorem Try.elem41 : Try.prog.elem 41 = 3 := by kernel_rfl
theorem zcRes : sRes.zc.length = 2 := rfl
theorem Try.size37 : (Try.prog.info? 37).map (·.size) = some 2 := by kernel_rfl
theorem zero37 (w : World) : (zeroValue 37).run Try.prog w = .ok (.agg sRes.zc.toArray) w := by kernel_rfl
theorem zcGroup : sGroup.zc.length = 3 := rfl
theorem Try.size178 : (Try.prog.info? 178).map (·.size) = some 3 := by kernel_rfl
theorem zero178 (w : World) : (zeroValue 178).run Try.prog w = .ok (.agg sGroup.zc.toArray) w := by kernel_rfl
theorem info178 : ∃ i, Try.prog.info? 178 = some i ∧ i.zero = some (.agg sGroup.zc.toArray) ∧ i.size = 3 ∧ i.bytes = 24 := by
  obtain ⟨i, h1, h2, h3, h4⟩ := info_parts (show (Try.prog.info? 178).map (fun i => (i.zero, i.size, i.bytes)) = some (some (.agg sGroup.zc.toArray), 3, 24) by kernel_rfl)
  exact ⟨i, h1, h2, h3, h4⟩
theorem Try.elem33 : Try.prog.elem 33 = 178 := by kernel_rfl
theorem zcJob : sJob.zc.length = 7 := rfl
theorem Try.size35 : (Try.prog.info? 35).map (·.size) = some 7 := by kernel_rfl
theorem zero35 (w : World) : (zeroValue 35).run Try.prog w = .ok (.agg sJob.zc.toArray) w := by kernel_rfl
theorem info35 : ∃ i, Try.prog.info? 35 = some i ∧ i.zero = some (.agg sJob.zc.toArray) ∧ i.size = 7 ∧ i.bytes = 72 := by
  obtain ⟨i, h1, h2, h3, h4⟩ := info_parts (show (Try.prog.info? 35).map (fun i => (i.zero, i.size, i.bytes)) = some (some (.agg sJob.zc.toArray), 7, 72) by kernel_rfl)
  exact ⟨i, h1, h2, h3, h4⟩
theorem Try.elem69 : Try.prog.elem 69 = 35 := by kernel_rfl
theorem zcNode : sNode.zc.length = 8 := rfl
theorem Try.size39 : (Try.prog.info? 39).map (·.size) = some 8 := by kernel_rfl
theorem zero39 (w : World) : (zeroValue 39).run Try.prog w = .ok (.agg sNode.zc.toArray) w := by kernel_rfl
theorem info39 : ∃ i, Try.prog.info? 39 = some i ∧ i.zero = some (.agg sNode.zc.toArray) ∧ i.size = 8 ∧ i.bytes = 56 := by
  obtain ⟨i, h1, h2, h3, h4⟩ := info_parts (show (Try.prog.info? 39).map (fun i => (i.zero, i.size, i.bytes)) = some (some (.agg sNode.zc.toArray), 8, 56) by kernel_rfl)
  exact ⟨i, h1, h2, h3, h4⟩
theorem Try.elem70 : Try.prog.elem 70 = 39 := by kernel_rfl
theorem zcAlloc : sAlloc.zc.length = 11 := rfl
theorem Try.size156 : (Try.prog.info? 156).map (·.size) = some 11 := by kernel_rfl
theorem zero156 (w : World) : (zeroValue 156).run Try.prog w = .ok (.agg sAlloc.zc.toArray) w := by kernel_rfl
theorem info156 : ∃ i, Try.prog.info? 156 = some i ∧ i.zero = some (.agg sAlloc.zc.toArray) ∧ i.size = 11 ∧ i.bytes = 88 := by
  obtain ⟨i, h1, h2, h3, h4⟩ := info_parts (show (Try.prog.info? 156).map (fun i => (i.zero, i.size, i.bytes)) = some (some (.agg sAlloc.zc.toArray), 11, 88) by kernel_rfl)
  exact ⟨i, h1, h2, h3, h4⟩
theorem Try.elem42 : Try.prog.elem 42 = 156 := by kernel_rfl
theorem zcResult : sResult.zc.length = 3 := rfl
theorem Try.size56 : (Try.prog.info? 56).map (·.size) = some 3 := by kernel_rfl
theorem zero56 (w : World) : (zeroValue 56).run Try.prog w = .ok (.agg sResult.zc.toArray) w := by kernel_rfl
theorem zcConf : sConf.zc.length = 2 := rfl
theorem Try.size46 : (Try.prog.info? 46).map (·.size) = some 2 := by kernel_rfl
theorem zero46 (w : World) : (zeroValue 46).run Try.prog w = .ok (.agg sConf.zc.toArray) w := by kernel_rfl
theorem zcPlan : sPlan.zc.length = 6 := rfl
theorem Try.size44 : (Try.prog.info? 44).map (·.size) = some 6 := by kernel_rfl
theorem zero44 (w : World) : (zeroValue 44).run Try.prog w = .ok (.agg sPlan.zc.toArray) w := by kernel_rfl
theorem zcReport : sReport.zc.length = 2 := rfl
theorem Try.size123 : (Try.prog.info? 123).map (·.size) = some 2 := by kernel_rfl
theorem zero123 (w : World) : (zeroValue 123).run Try.prog w = .ok (.agg sReport.zc.toArray) w := by kernel_rfl
theorem info123 : ∃ i, Try.prog.info? 123 = some i ∧ i.zero = some (.agg sReport.zc.toArray) ∧ i.size = 2 ∧ i.bytes = 16 := by
  obtain ⟨i, h1, h2, h3, h4⟩ := info_parts (show (Try.prog.info? 123).map (fun i => (i.zero, i.size, i.bytes)) = some (some (.agg sReport.zc.toArray), 2, 16) by kernel_rfl)
  exact ⟨i, h1, h2, h3, h4⟩
theorem Try.elem40 : Try.prog.elem 40 = 123 := by kernel_rfl
theorem zcCmd : sCmd.zc.length = 27 := rfl
theorem Try.size48 : (Try.prog.info? 48).map (·.size) = some 27 := by kernel_rfl
theorem zero48 (w : World) : (zeroValue 48).run Try.prog w = .ok (.agg sCmd.zc.toArray) w := by kernel_rfl
theorem zcEntry : sEntry.zc.length = 29 := rfl
theorem Try.size142 : (Try.prog.info? 142).map (·.size) = some 29 := by kernel_rfl
theorem zero142 (w : World) : (zeroValue 142).run Try.prog w = .ok (.agg sEntry.zc.toArray) w := by kernel_rfl
theorem info142 : ∃ i, Try.prog.info? 142 = some i ∧ i.zero = some (.agg sEntry.zc.toArray) ∧ i.size = 29 ∧ i.bytes = 320 := by
  obtain ⟨i, h1, h2, h3, h4⟩ := info_parts (show (Try.prog.info? 142).map (fun i => (i.zero, i.size, i.bytes)) = some (some (.agg sEntry.zc.toArray), 29, 320) by kernel_rfl)
  exact ⟨i, h1, h2, h3, h4⟩
theorem Try.elem54 : Try.prog.elem 54 = 142 := by kernel_rfl
theorem zcMsg : sMsg.zc.length = 46 := rfl
theorem Try.size58 : (Try.prog.info? 58).map (·.size) = some 46 := by kernel_rfl
theorem zero58 (w : World) : (zeroValue 58).run Try.prog w = .ok (.agg sMsg.zc.toArray) w := by kernel_rfl
theorem zcEval : sEval.zc.length = 4 := rfl
theorem Try.size161 : (Try.prog.info? 161).map (·.size) = some 4 := by kernel_rfl
theorem zero161 (w : World) : (zeroValue 161).run Try.prog w = .ok (.agg sEval.zc.toArray) w := by kernel_rfl
theorem info161 : ∃ i, Try.prog.info? 161 = some i ∧ i.zero = some (.agg sEval.zc.toArray) ∧ i.size = 4 ∧ i.bytes = 32 := by
  obtain ⟨i, h1, h2, h3, h4⟩ := info_parts (show (Try.prog.info? 161).map (fun i => (i.zero, i.size, i.bytes)) = some (some (.agg sEval.zc.toArray), 4, 32) by kernel_rfl)
  exact ⟨i, h1, h2, h3, h4⟩
theorem Try.elem71 : Try.prog.elem 71 = 161 := by kernel_rfl
theorem zcDeploy : sDeploy.zc.length = 4 := rfl
theorem Try.size166 : (Try.prog.info? 166).map (·.size) = some 4 := by kernel_rfl
theorem zero166 (w : World) : (zeroValue 166).run Try.prog w = .ok (.agg sDeploy.zc.toArray) w := by kernel_rfl
theorem info166 : ∃ i, Try.prog.info? 166 = some i ∧ i.zero = some (.agg sDeploy.zc.toArray) ∧ i.size = 4 ∧ i.bytes = 32 := by
  obtain ⟨i, h1, h2, h3, h4⟩ := info_parts (show (Try.prog.info? 166).map (fun i => (i.zero, i.size, i.bytes)) = some (some (.agg sDeploy.zc.toArray), 4, 32) by kernel_rfl)
  exact ⟨i, h1, h2, h3, h4⟩
theorem Try.elem72 : Try.prog.elem 72 = 166 := by kernel_rfl
theorem zcSeen : sSeen.zc.length = 5 := rfl
theorem Try.size171 : (Try.prog.info? 171).map (·.size) = some 5 := by kernel_rfl
theorem zero171 (w : World) : (zeroValue 171).run Try.prog w = .ok (.agg sSeen.zc.toArray) w := by kernel_rfl
theorem info171 : ∃ i, Try.prog.info? 171 = some i ∧ i.zero = some (.agg sSeen.zc.toArray) ∧ i.size = 5 ∧ i.bytes = 56 := by
  obtain ⟨i, h1, h2, h3, h4⟩ := info_parts (show (Try.prog.info? 171).map (fun i => (i.zero, i.size, i.bytes)) = some (some (.agg sSeen.zc.toArray), 5, 56) by kernel_rfl)
  exact ⟨i, h1, h2, h3, h4⟩
theorem Try.elem73 : Try.prog.elem 73 = 171 := by kernel_rfl
theorem zcStore : sStore.zc.length = 9 := rfl
theorem Try.size75 : (Try.prog.info? 75).map (·.size) = some 9 := by kernel_rfl
theorem zero75 (w : World) : (zeroValue 75).run Try.prog w = .ok (.agg sStore.zc.toArray) w := by kernel_rfl
end Go.Proofs.Ythecincpejpmpaa
/- codec's form.raw, writing and reading: bytes behind a row of one's own. -/
namespace Go.Rc
open Go Go.RowKit Go.Lb
section
variable {P : Program} {w : World} {base n c : Nat} {t ty U : TypeId} {i : TypeInfo} {z v : Value} {xs : List Value} {ok : Nat → Prop} {a : Option Addr} {l : List Nat}
theorem append_bytes (ht : P.underlying t = some (.slice U)) (hi : P.info? U = some i) (hz : i.zero = some z) (hs : i.size = 1) (hby : i.bytes = 1) (hzs : z.cells.size = 1)
    (hown : w.ownsRow base U 1 v n xs) (hb : Bytes w ok a l) (h63 : n + l.length ≤ 225000000000000) (hbase : base ≤ w.heap.size) :
    ∃ v' w', (Builtin.append_ #[t, t] ty #[v, .slice a l.length c]).run P w = .ok v' w' ∧ w'.ownsRow base U 1 v' (n + l.length) (xs ++ l.map bv) ∧ w.grownBy w' v.ownBlock ∧ (v'.ownBlock = v.ownBlock ∨ v'.ownBlock = some w.heap.size) := by
  cases l with
  | nil =>
    refine ⟨v, w, ?_, by simpa using hown, ⟨rfl, rfl, rfl, Nat.le_refl _, fun _ _ _ => rfl⟩, .inl rfl⟩
    rcases hown.2 with ⟨rfl, rfl⟩ | ⟨g, cap, cur, rfl, _, hg, hnc, _⟩
    · cases a with
      | none => simp [Builtin.append_, run_underlying ht, sizeOf, typeInfo, hi, Builtin.lenOf, Builtin.firstCells]
      | some ad =>
        have hfc := run_firstCells_some (P := P) w i.size 0 ad 0 c [] (by simp) (by simp)
        simp [Builtin.append_, run_underlying ht, sizeOf, typeInfo, hi, Builtin.lenOf, hfc]
    · cases a with
      | none => simp [Builtin.append_, run_underlying ht, sizeOf, typeInfo, hi, Builtin.lenOf, Builtin.firstCells, hnc, storeCells]
      | some ad =>
        have hfc := run_firstCells_some (P := P) w i.size 0 ad 0 c [] (by simp) (by simp)
        simp [Builtin.append_, run_underlying ht, sizeOf, typeInfo, hi, Builtin.lenOf, hfc, hnc, storeCells]
  | cons x l =>
    obtain ⟨_, b, o, rfl, _⟩ := hb 0 x rfl
    refine run_append_wide (P := P) w base t ty U i z 1 1 ht hi hz hs hby hzs (by decide) v n xs hown ⟨b, o, none⟩ (x :: l).length c ((x :: l).map bv) (by simp) ?_ ?_ (by unfold maxLen; omega) (by omega) hbase
    · intro j u hu
      rw [List.getElem?_map] at hu
      obtain ⟨y, hy, rfl⟩ := Option.map_eq_some_iff.1 hu
      obtain ⟨_, b', o', e, _, _, h5⟩ := hb j y hy
      cases e
      rw [Addr.add_lit]; exact h5
    · intro u hu
      obtain ⟨y, _, rfl⟩ := List.mem_map.1 hu
      rfl
theorem exec_append {o : Oper} {a : Act} {s x : Operand} {t : TypeId} {v u r : Value} {w' : World} (ho : o.op = .call { callee := .builtin .append, args := #[s, x], argTypes := #[t, t] }) (hs : a.eval s = v) (hx : a.eval x = u)
    (h : (Builtin.append_ #[t, t] o.type #[v, u]).run P w = .ok r w') : (execOp a.eval o).run P w = .ok (.value r) w' := by
  unfold execOp
  simp only [ho, resolve, invoke, builtin, Sem.run_bind, Sem.run_pure, Result.andThen_ok, List.map_toArray, List.map_cons, List.map_nil, hs, hx, h]
end
end Go.Rc
namespace Go.Proofs.Ythecincpejpmpaa
open Go.RowKit Go.Lb Go.Rc
theorem raw_get (l : List Nat) : Sch.raw.get l = match mget 65536 l with
    | none => none
    | some (k, r) => if k ≤ r.length then some (.raw (r.take k), r.drop k) else none := by
  unfold mget
  simp only [Sch.get]
  cases nget l with
  | none => rfl
  | some p =>
    obtain ⟨n, r⟩ := p
    dsimp only
    by_cases h : 0 ≤ n ∧ n ≤ 65536
    · rw [if_pos (show 0 ≤ n ∧ n ≤ (65536 : Nat) by omega)]
      dsimp only
      by_cases h2 : n.toNat ≤ r.length
      · rw [if_pos h2, if_pos (by omega)]
      · rw [if_neg h2, if_neg (by omega)]
    · rw [if_neg (show ¬ (0 ≤ n ∧ n ≤ (65536 : Nat)) by omega), if_neg (by omega)]

set_option maxRecDepth 20000 in
set_option maxHeartbeats 1000000 in
theorem raw_writes : Writes 68 .raw := by
  intro B X f p q tp pre cs post v o b w h hX hq hp hr hl
  obtain ⟨i5, hi5, hz0, hz1, hz2⟩ := infoU8
  obtain ⟨a, c, l, rfl, rfl, hby⟩ := hr
  subst hq
  have H := Lib.hid h
  have HP := Lib.hid hp
  have HX := Lib.hid hX
  have HBY := Lib.hid hby
  have hl2 : o.length + (6 + l.length) ≤ 225000000000000 := hl
  have c0 := hp.cell (o := pre.length) mid_at
  have hB := h.base
  clear h hX hp hby hl
  go_enter Try.func68, Try.ntmps68
  go_wp2_with fail
  refine (many_w B X f l.length 65536 o b _ H.out (by omega) (by decide)).mono ?_
  rintro e w1 ⟨r, o1, b1, rfl, h1, h2, h3⟩
  obtain ⟨m2, m3, m4, m5⟩ := fw_mark h1
  have hbp := h2.blk HP.out (.inr HX.out)
  have hbyt : Bytes w1 (· < B) a l := HBY.out.keep (fun k hk hl => ⟨hk, h2.block k hl (.inl hk)⟩) h2.size
  have H2 := Lib.hid h2
  have H3 := Lib.hid h3
  have ho1 := h3.len
  obtain ⟨hX1, vb, hO, hs⟩ := h1
  obtain ⟨ga, gc, rfl⟩ := own_shape hO.row
  have HR : Hid (∀ w', Upd (Value.slice ga o1.length gc).ownBlock.toList w1 w' → w'.cell? ⟨f, 0, none⟩ = some (.slice ga o1.length gc) ∧ w'.cell? ⟨p, pre.length, none⟩ = some (.slice a l.length c)) := Lib.hid fun w' u => by
    refine ⟨(u.blk hO.blk (fun hm => ?_)).cell rfl, (u.blk hbp (fun hm => ?_)).cell mid_at⟩
    · exact hO.ne (by simpa using hm)
    · exact (hs p (List.mem_cons_of_mem _ hm)).2.1 HX.out
  have HO := Lib.hid hO
  have HS := Lib.hid hs
  have HX1 := Lib.hid hX1
  have HBYT := Lib.hid hbyt
  clear h2 h3 hO hs hbp hX1 hbyt
  go_wp2_with fail
  refine wp_region_lex (fun w' => Upd (Value.slice ga o1.length gc).ownBlock.toList w1 w') 11 [(0, true), (1, true), (2, true), (3, true), (4, true), (5, true), (6, true), (7, true), (8, false), (9, false), (10, false), (11, false)] (by kernel_rfl) (by kernel_rfl) (by kernel_rfl) (by kernel_rfl) (fun _ _ d _ _ h => by cases d <;> exact h) ?_
  simp only [lexOps, List.map_cons, List.map_nil, List.getD_cons_zero, List.getD_cons_succ]
  have hS0 : Upd (Value.slice ga o1.length gc).ownBlock.toList w1 w1.drew := (Upd.refl _ _).drew
  iterate 8 (refine lex_read rfl (by exact hS0) (v := ?_) (fun w' hw => ?_) ?_; rotate_left; (focus (obtain ⟨k1, k2⟩ := HR.out w' hw; go_simp; try with_reducible rfl)); simp only [Act.put, List.setIfInBounds_toArray, List.set_cons_zero, List.set_cons_succ])
  obtain ⟨v', w3, hrun, hown, hg, hv⟩ := append_bytes (P := Try.prog) (ty := 22) (c := c) Try.underlying22 hi5 hz0 hz1 hz2 rfl ((Upd.refl [] w1).drew.row HO.out.row (by simp)) (HBYT.out.upd (Upd.refl [] w1).drew (by simp)) (by omega) (Nat.zero_le _)
  have HF := Lib.hid (out_step (mk := cW) (B := B) (X := X) (news := l) (fun _ _ _ => rfl) (fun _ _ => rfl) HO.out HS.out HX1.out (Upd.refl [] w1).drew (fun x hx => by
    obtain ⟨i, hi⟩ := List.mem_iff_getElem?.1 hx
    exact (HBYT.out i x hi).1) hown hg hv)
  have hS3 : Upd (Value.slice ga o1.length gc).ownBlock.toList w1 w3 := hS0.grown hg (fun k hk => .inl (by simp [hk]))
  obtain ⟨va', vc', rfl⟩ := own_shape hown
  have e0 := HF.out.2.1
  have e1 := HF.out.2.2.1
  have e2 := HF.out.2.2.2
  have HG : Hid (WrPost .raw B X f (.raw l) o b w (.returned (.tuple #[])) (w3.setCell ⟨f, 0, none⟩ (.slice va' (o1.length + l.length) vc'))) := Lib.hid ⟨rfl, o1 ++ l, b1, HF.out.1.1, H2.out.trans HF.out.1.2, by
    refine ⟨?_, ?_, ?_⟩
    · rw [H3.out.bad]
      constructor
      · rintro ⟨h1, h2⟩
        exact ⟨h1, h2, fun x hx => by
          obtain ⟨i, hi⟩ := List.mem_iff_getElem?.1 hx
          exact (HBYT.out i x hi).1⟩
      · rintro ⟨h1, h2, _⟩
        exact ⟨h1, h2⟩
    · intro e
      rw [H3.out.out e, List.append_assoc]; rfl
    · simp only [List.length_append, Sch.cmax]
      omega⟩
  refine lex_run rfl (exec_append (by rfl) (by rfl) (by rfl) hrun) (fun _ => hS3) ?_
  clear hrun hown hg hv
  try simp only [Act.put, List.setIfInBounds_toArray, List.set_cons_zero, List.set_cons_succ]
  iterate 2 (refine lex_do rfl (fun K hK => ?_); go_simp; refine hK _ _ (fun _ => hS3) ?_; clear hK K; try simp only [Act.put, List.setIfInBounds_toArray, List.set_cons_zero, List.set_cons_succ])
  refine lex_do rfl (fun K hK => ?_)
  go_simp
  refine hK _ _ (fun h => absurd rfl h) ?_
  clear hK K
  try simp only [Act.put, List.setIfInBounds_toArray, List.set_cons_zero, List.set_cons_succ]
  refine lex_nil ?_
  go_wp2_with fail
  go_end0
  exact HG.out

theorem bytes_own {w : World} {ok : Nat → Prop} {n : Nat} {v : Value} {l : List Nat} {base : Nat} (h : w.ownsRow base 5 1 v l.length (l.map bv)) (hl : ∀ x ∈ l, x < 256) (hok : ∀ b, base ≤ b → Soft w b → ok b) : ∃ a c, v = .slice a l.length c ∧ Bytes w ok a l := by
  rcases own_is h with ⟨rfl, h0⟩ | ⟨g, c, rfl, hg, hgl, _⟩
  · rw [h0]
    exact ⟨none, 0, rfl, by rw [List.eq_nil_of_length_eq_zero h0]; exact Bytes.nil _ _ _⟩
  · refine ⟨_, c, rfl, fun i x hx => ?_⟩
    have hi := (List.getElem?_eq_some_iff.1 hx).1
    refine ⟨hl x (List.mem_of_getElem? hx), g, 0, rfl, hok g hg (own_soft h rfl), hgl, ?_⟩
    rw [Nat.zero_add, h.cellAt i (by omega), List.getElem?_map, hx]; rfl

set_option maxRecDepth 20000 in
set_option maxHeartbeats 1000000 in
theorem raw_reads : Reads 68 .raw := by
  intro B f p q tp pre post l b w h hB hpf hq hp
  obtain ⟨i5, hi5, hz0, hz1, hz2⟩ := infoU8
  subst hq
  have c0 := hp.cell (o := pre.length) mid_at
  obtain ⟨_, _, _, hf, hBf⟩ := fr_mark h
  have hplt := hp.lt
  have H := Lib.hid h
  have HP := Lib.hid hp
  clear h hp
  go_enter Try.func68, Try.ntmps68
  go_wp2_with fail
  refine (many_r B f 65536 _ l b _ H.out).mono ?_
  rintro e w1 ⟨k, l1, b1, rfl, hk, h1, h2, h3⟩
  obtain ⟨m2, m3, m4, m5, _⟩ := fr_mark h1
  have hbp := h2.blk HP.out (by simpa using hpf)
  have p0 := hbp.cell (o := pre.length) mid_at
  have pz := hbp.frozen pre.length
  have plt := hbp.lt
  have hsz1 := h2.size
  have HM := Lib.hid (fr_set h1 true)
  have HBP := Lib.hid hbp
  obtain ⟨a, c, hI⟩ := h1
  have f0 := hI.blk.cell (o := 0) rfl
  have fz := hI.blk.frozen 0
  have HI := Lib.hid hI
  have hcap := hI.cap
  have hm := hcap.2
  unfold maxLen at hm
  have H2 := Lib.hid h2
  have H3 := Lib.hid h3
  clear h2 h3 hbp hI
  by_cases hkl : l1.length < k
  · have t1 : decide (l1.length < k) = true := by simpa using hkl
    have HF : Hid (RdPost .raw B f p tp pre post l b w (.returned (.tuple #[])) (w1.setCell ⟨f, 2, none⟩ (.bool true))) := Lib.hid ⟨rfl, .raw [], [.slice none 0 0], l1, true, HM.out.1, (H2.out.mono (by simp)).trans HM.out.2 (by simp), HM.out.2.blk HBP.out (by simpa using hpf), ⟨none, 0, [], rfl, rfl, Bytes.nil _ _ _⟩, ⟨fun e => (by cases e), fun _ => by
      cases b1 with
      | true => exact (H3.out.bad rfl).imp id fun h => by rw [raw_get, h]
      | false =>
        right
        rw [raw_get, (H3.out.good rfl).2]
        dsimp only
        rw [if_neg (by omega)]⟩⟩
    go_wp2_with fail
    go_end0
    exact HF.out
  · have t1 : decide (l1.length < k) = false := by simpa using hkl
    have hkl' : k ≤ l1.length := by omega
    have HRD : Hid (Sch.raw.Rd l b (.raw (l1.take k)) (l1.drop k) b1) := Lib.hid ⟨fun e => ⟨(H3.out.good e).1, by rw [raw_get, (H3.out.good e).2]; dsimp only; rw [if_pos hkl']⟩, fun e => (H3.out.bad e).imp id fun h => by rw [raw_get, h]⟩
    have HIN : Hid (∀ w' a' c', Upd [p] w1 w' → Bytes w' (· < B) a' (l1.drop k) → l1.length - k ≤ c' ∧ c' ≤ c → Blk w' f 113 (cR (.slice a l1.length c) b1) ∧ Fr B (w'.setCell ⟨f, 0, none⟩ (.slice a' (l1.length - k) c')) f (l1.drop k) b1) := Lib.hid fun w' a' c' u hB' hcc => by
      have hb := u.blk HI.out.blk (by simp; omega)
      have uS : Upd [f] w' (w'.setCell ⟨f, 0, none⟩ (.slice a' (l1.length - k) c')) := (Upd.refl _ _).setCell (by simp) _
      have hlow := HI.out.low
      refine ⟨hb, a', c', ⟨?_, hB'.upd uS (fun k hk => by simp; omega), ?_, hlow⟩⟩
      · rw [List.length_drop]; exact hb.set 0 _
      · rw [List.length_drop]; omega
    by_cases hk0 : k = 0
    · subst hk0
      obtain ⟨a', c', hsl, hB', hcc⟩ := bytes_from (P := Try.prog) (t := 22) (by rw [Try.elem22]; exact Try.underlying22) Try.elem22 hi5 hz1 HI.out.byte 0 hkl' hcap.1
      have HF : Hid (RdPost .raw B f p tp pre post l b w (.returned (.tuple #[])) (w1.setCell ⟨f, 0, none⟩ (.slice a' (l1.length - 0) c'))) := Lib.hid (by
        have uS : Upd [f] w1 (w1.setCell ⟨f, 0, none⟩ (.slice a' (l1.length - 0) c')) := (Upd.refl _ _).setCell (by simp) _
        refine ⟨rfl, .raw [], [.slice none 0 0], _, b1, (HIN.out w1 a' c' (Upd.refl _ _) hB' hcc).2, (H2.out.mono (by simp)).trans uS (by simp), uS.blk HBP.out (by simpa using hpf), ⟨none, 0, [], rfl, rfl, Bytes.nil _ _ _⟩, ?_⟩
        simpa using HRD.out)
      have HSL := Lib.hid hsl
      clear hsl hB'
      go_wp2_with (refine wpList_run (o := ⟨some 54, .slice 22 (.tmp 52) (some (.tmp 53)) none none, _, _, _, _⟩) rfl (exec_sliceAt (by rfl) (by rfl) (by rfl) (by rfl) HSL.out) ?_)
      go_end0
      exact HF.out
    · have t2 : decide (0 < k) = true := by simp; omega
      obtain ⟨at', hst, hBt⟩ := bytes_to (P := Try.prog) (t := 22) (by rw [Try.elem22]; exact Try.underlying22) Try.elem22 hi5 hz1 HI.out.byte k hkl' hcap.1
      have htl : (l1.take k).length = k := by simp; omega
      obtain ⟨v', w3, hrun, hown, hg, hv⟩ := append_bytes (P := Try.prog) (w := w1) (base := w1.heap.size) (ty := 22) (c := c) (v := .slice none 0 0) (n := 0) (xs := []) Try.underlying22 hi5 hz0 hz1 hz2 rfl ⟨rfl, .inl ⟨rfl, rfl⟩⟩ hBt (by omega) (Nat.le_refl _)
      rw [htl] at hrun
      have hbyte : ∀ x ∈ l1.take k, x < 256 := fun x hx => by
        obtain ⟨i, hi⟩ := List.mem_iff_getElem?.1 hx
        exact (hBt i x hi).1
      have u3 : Upd [] w1 w3 := (Upd.refl _ _).grown hg (fun k hk => by simp [Value.ownBlock] at hk)
      obtain ⟨ra, rc, rfl, hRb⟩ := bytes_own (n := 0) (ok := Nw w.heap.size w3) (by simpa using hown) hbyte (fun b hb hs => ⟨Nat.le_trans hsz1 hb, hs⟩)
      have hbp3 := u3.blk HBP.out (by simp)
      have q1 := hbp3.cell (o := pre.length) mid_at
      have q2 := hbp3.frozen pre.length
      have q3 := hbp3.lt
      have uS : Upd [p] w3 (w3.setCell ⟨p, pre.length, none⟩ (.slice ra (l1.take k).length rc)) := (Upd.refl _ _).setCell (by simp) _
      have u4 : Upd [p] w1 (w3.setCell ⟨p, pre.length, none⟩ (.slice ra (l1.take k).length rc)) := (u3.mono (by simp)).trans uS (by simp)
      have hlow := HI.out.low
      obtain ⟨a', c', hsl, hB', hcc⟩ := bytes_from (P := Try.prog) (t := 22) (by rw [Try.elem22]; exact Try.underlying22) Try.elem22 hi5 hz1 (HI.out.byte.upd u4 (fun k hk => by simp; omega)) k hkl' hcap.1
      obtain ⟨j1, j2⟩ := HIN.out _ a' c' u4 hB' hcc
      have g0 := j1.cell (o := 0) rfl
      have gz := j1.frozen 0
      have gl := j1.lt
      have f3 := ((u3.blk HI.out.blk (by simp)).cell (o := 0) rfl)
      have f3z := ((u3.blk HI.out.blk (by simp)).frozen 0)
      have f3l := (u3.blk HI.out.blk (by simp)).lt
      have hbp4 : Blk (w3.setCell ⟨p, pre.length, none⟩ (.slice ra (l1.take k).length rc)) p tp (pre ++ [.slice ra (l1.take k).length rc] ++ post) := by
        have := hbp3.set pre.length (.slice ra (l1.take k).length rc)
        rwa [show Sch.raw.zc = [Value.slice none 0 0] from rfl, mid_set] at this
      have HF : Hid (RdPost .raw B f p tp pre post l b w (.returned (.tuple #[])) ((w3.setCell ⟨p, pre.length, none⟩ (.slice ra (l1.take k).length rc)).setCell ⟨f, 0, none⟩ (.slice a' (l1.length - k) c'))) := Lib.hid (by
        have uS2 : Upd [f] (w3.setCell ⟨p, pre.length, none⟩ (.slice ra (l1.take k).length rc)) ((w3.setCell ⟨p, pre.length, none⟩ (.slice ra (l1.take k).length rc)).setCell ⟨f, 0, none⟩ (.slice a' (l1.length - k) c')) := (Upd.refl _ _).setCell (by simp) _
        refine ⟨rfl, .raw (l1.take k), [.slice ra (l1.take k).length rc], _, b1, j2, ((H2.out.mono (by simp)).trans u4 (by simp)).trans uS2 (by simp), uS2.blk hbp4 (by simpa using hpf), ⟨ra, rc, l1.take k, rfl, rfl, ?_⟩, HRD.out⟩
        exact (hRb.updN uS (fun k hk => by simp; omega)).updN uS2 (fun k hk => by simp; omega))
      have HSL := Lib.hid hsl
      have HST := Lib.hid hst
      have HRUN := Lib.hid hrun
      rw [htl] at HF g0 gz gl hbp4 j1 HRUN HSL
      clear hB' hsl hst hrun hown hg hv hBt u3 hRb hbp3 uS u4 j1 j2 hbp4 hbyte
      go_wp2_with (first | (refine wpList_run (o := ⟨some 45, .slice 22 (.tmp 43) none (some (.tmp 44)) none, _, _, _, _⟩) rfl (exec_sliceAt (by rfl) (by rfl) (by rfl) (by rfl) HST.out) ?_) | (at_builtin; refine wpList_run rfl (exec_append (by rfl) (by rfl) (by rfl) HRUN.out) ?_) | (refine wpList_run (o := ⟨some 54, .slice 22 (.tmp 52) (some (.tmp 53)) none none, _, _, _, _⟩) rfl (exec_sliceAt (by rfl) (by rfl) (by rfl) (by rfl) HSL.out) ?_))
      go_end0
      exact HF.out
end Go.Proofs.Ythecincpejpmpaa
/- The sum of a frame (CRC32C), in plain numbers: a change in up to 32 bits side by side is seen. -/
namespace Go.Crc
def poly : Nat := 0x82F63B78
theorem xlc (a b c : Nat) : a ^^^ (b ^^^ c) = b ^^^ (a ^^^ c) := by rw [← Nat.xor_assoc, Nat.xor_comm a b, Nat.xor_assoc]
theorem xz {a b : Nat} (h : a ^^^ b = 0) : a = b := by
  have h1 : a ^^^ (b ^^^ b) = b := by rw [← Nat.xor_assoc, h, Nat.zero_xor]
  rwa [Nat.xor_self, Nat.xor_zero] at h1
def step (s : Nat) : Nat := (s / 2) ^^^ ((s % 2) * poly)
def steps : Nat → Nat → Nat
  | 0, s => s
  | n + 1, s => steps n (step s)
theorem step_zero : step 0 = 0 := by decide
theorem mul_bit (a b : Nat) : ((a ^^^ b) % 2) * poly = ((a % 2) * poly) ^^^ ((b % 2) * poly) := by
  have h : (a ^^^ b) % 2 = (a % 2) ^^^ (b % 2) := by
    have := Nat.xor_mod_two_pow (a := a) (b := b) (n := 1); simpa using this
  rw [h]
  rcases Nat.mod_two_eq_zero_or_one a with ha | ha <;> rcases Nat.mod_two_eq_zero_or_one b with hb | hb <;> rw [ha, hb] <;> simp
theorem step_xor (a b : Nat) : step (a ^^^ b) = step a ^^^ step b := by
  unfold step
  rw [mul_bit]
  have h : (a ^^^ b) / 2 = (a / 2) ^^^ (b / 2) := by
    have := Nat.xor_div_two_pow (a := a) (b := b) (n := 1); simpa using this
  rw [h]
  simp only [Nat.xor_assoc, xlc]
theorem steps_xor : ∀ (n a b : Nat), steps n (a ^^^ b) = steps n a ^^^ steps n b
  | 0, _, _ => rfl
  | n + 1, a, b => by simp only [steps, step_xor, steps_xor n]
theorem steps_zero : ∀ n, steps n 0 = 0
  | 0 => rfl
  | n + 1 => by rw [steps, step_zero, steps_zero n]
theorem steps_add : ∀ (n m s : Nat), steps (n + m) s = steps m (steps n s)
  | 0, m, s => by rw [Nat.zero_add]; rfl
  | n + 1, m, s => by rw [show n + 1 + m = (n + m) + 1 by omega, steps, steps_add n m]; rfl
theorem step_lt {s : Nat} (h : s < 2 ^ 32) : step s < 2 ^ 32 := by
  unfold step
  refine Nat.xor_lt_two_pow (by omega) ?_
  rcases Nat.mod_two_eq_zero_or_one s with ha | ha <;> rw [ha] <;> decide
theorem step_ne {s : Nat} (h : s < 2 ^ 32) (h0 : s ≠ 0) : step s ≠ 0 := by
  unfold step
  rcases Nat.mod_two_eq_zero_or_one s with ha | ha <;> rw [ha]
  · rw [Nat.zero_mul, Nat.xor_zero]; omega
  · rw [Nat.one_mul]
    intro e
    have := xz e
    unfold poly at this
    omega
theorem steps_lt : ∀ (n : Nat) {s : Nat}, s < 2 ^ 32 → steps n s < 2 ^ 32
  | 0, _, h => h
  | n + 1, _, h => steps_lt n (step_lt h)
theorem steps_ne : ∀ (n : Nat) {s : Nat}, s < 2 ^ 32 → s ≠ 0 → steps n s ≠ 0
  | 0, _, _, h0 => h0
  | n + 1, _, h, h0 => steps_ne n (step_lt h) (step_ne h h0)
theorem steps_inj {n a b : Nat} (ha : a < 2 ^ 32) (hb : b < 2 ^ 32) (h : steps n a = steps n b) : a = b := by
  have h1 : steps n (a ^^^ b) = 0 := by rw [steps_xor, h, Nat.xor_self]
  rcases Nat.eq_zero_or_pos (a ^^^ b) with h2 | h2
  · exact xz h2
  · exact absurd h1 (steps_ne n (Nat.xor_lt_two_pow ha hb) (by omega))
theorem steps_shift : ∀ (n s : Nat), steps n (s * 2 ^ n) = s
  | 0, s => by simp [steps]
  | n + 1, s => by
    rw [steps, show step (s * 2 ^ (n + 1)) = s * 2 ^ n by
      unfold step
      rw [Nat.pow_succ, ← Nat.mul_assoc, Nat.mul_mod_left, Nat.zero_mul, Nat.xor_zero, Nat.mul_div_cancel _ (by decide)]]
    exact steps_shift n s

/-- Bytes go in. -/
def feed (s : Nat) (l : List Nat) : Nat := l.foldl (fun s b => steps 8 (s ^^^ b)) s
/-- Bytes as one number, the first the lowest. -/
def num : List Nat → Nat
  | [] => 0
  | b :: l => b ^^^ (num l * 2 ^ 8)
theorem feed_num : ∀ (l : List Nat) (s : Nat), feed s l = steps (8 * l.length) (s ^^^ num l)
  | [], s => by simp [feed, num, steps]
  | b :: l, s => by
    have h := feed_num l (steps 8 (s ^^^ b))
    unfold feed at h ⊢
    rw [List.foldl_cons, h, num, List.length_cons, show 8 * (l.length + 1) = 8 + 8 * l.length by omega, steps_add]
    congr 1
    rw [← Nat.xor_assoc, steps_xor 8 (s ^^^ b), steps_shift]
theorem feed_append (s : Nat) (l m : List Nat) : feed s (l ++ m) = feed (feed s l) m := by simp [feed]
theorem feed_lt : ∀ (l : List Nat) {s : Nat}, s < 2 ^ 32 → (∀ b ∈ l, b < 256) → feed s l < 2 ^ 32
  | [], _, h, _ => h
  | b :: l, s, h, hl => by
    unfold feed
    rw [List.foldl_cons]
    have hb : b < 2 ^ 32 := Nat.lt_trans (hl b (by simp)) (by decide)
    exact feed_lt l (steps_lt 8 (Nat.xor_lt_two_pow h hb)) (fun x hx => hl x (by simp [hx]))

/-- What differs, byte for byte. -/
def diff (l m : List Nat) : List Nat := List.zipWith (· ^^^ ·) l m
theorem num_diff : ∀ (l m : List Nat), l.length = m.length → num (diff l m) = num l ^^^ num m
  | [], [], _ => rfl
  | a :: l, b :: m, h => by
    have ih := num_diff l m (by simpa using h)
    unfold diff at ih ⊢
    rw [List.zipWith_cons_cons, num, num, num, ih]
    have : (num l ^^^ num m) * 2 ^ 8 = (num l * 2 ^ 8) ^^^ (num m * 2 ^ 8) := by
      simp only [← Nat.shiftLeft_eq, Nat.shiftLeft_xor_distrib]
    rw [this]
    simp only [Nat.xor_assoc, xlc]
/-- Rows of one length that differ in up to 32 bits side by side leave different states. -/
theorem feed_burst {l m : List Nat} {s c k : Nat} (h : l.length = m.length) (hc : c < 2 ^ 32) (h0 : c ≠ 0) (hk : k ≤ 8 * l.length) (hd : num (diff l m) = c * 2 ^ k) : feed s l ≠ feed s m := by
  intro e
  rw [feed_num, feed_num, ← h] at e
  have h1 : steps (8 * l.length) ((s ^^^ num l) ^^^ (s ^^^ num m)) = 0 := by rw [steps_xor, e, Nat.xor_self]
  have h2 : (s ^^^ num l) ^^^ (s ^^^ num m) = c * 2 ^ k := by
    rw [← hd, num_diff l m h, Nat.xor_comm s, Nat.xor_assoc, ← Nat.xor_assoc s s, Nat.xor_self, Nat.zero_xor]
  rw [h2, show 8 * l.length = k + (8 * l.length - k) by omega, steps_add, steps_shift] at h1
  exact steps_ne _ hc h0 h1
/-- Bytes that are a number, the highest first. -/
def be : Nat → Nat → List Nat
  | 0, _ => []
  | k + 1, n => n / 256 ^ k % 256 :: be k n
def unb (l : List Nat) : Nat := l.foldl (fun n b => 256 * n + b) 0
theorem be_len : ∀ k n, (be k n).length = k
  | 0, _ => rfl
  | k + 1, n => by simp [be, be_len k]
theorem be_byte : ∀ k n, ∀ b ∈ be k n, b < 256
  | 0, _, b, h => by simp [be] at h
  | k + 1, n, b, h => by
    rcases List.mem_cons.1 h with rfl | h
    · exact Nat.mod_lt _ (by decide)
    · exact be_byte k n b h
theorem be_at : ∀ k n i, i < k → (be k n)[i]? = some (n / 256 ^ (k - 1 - i) % 256)
  | 0, _, _, h => by omega
  | k + 1, n, 0, _ => by simp [be]
  | k + 1, n, i + 1, h => by
    rw [be, List.getElem?_cons_succ, be_at k n i (by omega)]
    congr 3; congr 1; omega
theorem unb_snoc (l : List Nat) (b : Nat) : unb (l ++ [b]) = 256 * unb l + b := by simp [unb]
theorem unb_from : ∀ (l : List Nat) (s : Nat), l.foldl (fun n b => 256 * n + b) s = s * 256 ^ l.length + unb l
  | [], s => by simp [unb]
  | b :: l, s => by
    have h1 := unb_from l (256 * s + b)
    have h2 := unb_from l (256 * 0 + b)
    simp only [unb, List.foldl_cons, List.length_cons] at h1 h2 ⊢
    rw [h1, h2, Nat.pow_succ, Nat.add_mul, Nat.mul_comm 256 s, Nat.mul_assoc, Nat.mul_comm 256 (256 ^ l.length)]
    simp [Nat.add_assoc, unb]
theorem unb_cons (b : Nat) (l : List Nat) : unb (b :: l) = b * 256 ^ l.length + unb l := by
  have := unb_from l (256 * 0 + b)
  simpa [unb] using this
theorem unb_lt : ∀ (l : List Nat), (∀ b ∈ l, b < 256) → unb l < 256 ^ l.length
  | [], _ => by simp [unb]
  | b :: l, h => by
    have h1 := unb_lt l (fun x hx => h x (by simp [hx]))
    have h2 := h b (by simp)
    rw [unb_cons, List.length_cons, Nat.pow_succ, Nat.mul_comm _ 256]
    have : b * 256 ^ l.length ≤ 255 * 256 ^ l.length := Nat.mul_le_mul_right _ (by omega)
    omega
theorem be_mod : ∀ k n, be k n = be k (n % 256 ^ k)
  | 0, _ => rfl
  | k + 1, n => by
    have h1 : n % 256 ^ (k + 1) / 256 ^ k = n / 256 ^ k % 256 := by
      rw [Nat.pow_succ, Nat.mod_mul_right_div_self]
    have h2 : n % 256 ^ (k + 1) % 256 ^ k = n % 256 ^ k := Nat.mod_mod_of_dvd _ (Nat.pow_dvd_pow 256 (by omega))
    rw [be, be, h1, Nat.mod_mod, be_mod k n, be_mod k (n % 256 ^ (k + 1)), h2]
theorem unb_be : ∀ k n, n < 256 ^ k → unb (be k n) = n
  | 0, n, h => by simp at h; simp [be, unb, h]
  | k + 1, n, h => by
    rw [be, unb_cons, be_len, be_mod, unb_be k _ (Nat.mod_lt _ (Nat.pow_pos (by decide)))]
    have h1 : n / 256 ^ k < 256 := Nat.div_lt_of_lt_mul (by rwa [← Nat.pow_succ])
    rw [Nat.mod_eq_of_lt h1, Nat.mul_comm]
    exact Nat.div_add_mod n (256 ^ k)
theorem be_unb : ∀ l : List Nat, (∀ b ∈ l, b < 256) → be l.length (unb l) = l
  | [], _ => rfl
  | b :: l, h => by
    have h1 := unb_lt l (fun x hx => h x (by simp [hx]))
    have h2 := h b (by simp)
    have hp : 0 < 256 ^ l.length := Nat.pow_pos (by decide)
    rw [List.length_cons, be, unb_cons, be_mod, show (b * 256 ^ l.length + unb l) / 256 ^ l.length = b by
      rw [Nat.mul_comm, Nat.mul_add_div hp, Nat.div_eq_of_lt h1]; omega, Nat.mod_eq_of_lt h2, show (b * 256 ^ l.length + unb l) % 256 ^ l.length = unb l by
      rw [Nat.mul_comm, Nat.mul_add_mod, Nat.mod_eq_of_lt h1], be_unb l (fun x hx => h x (by simp [hx]))]

/-- The sum, and its bytes, the lowest first. -/
def F32 : Nat := 4294967295
def crc (l : List Nat) : Nat := F32 ^^^ feed F32 l
def le4 (s : Nat) : List Nat := [s % 256, s / 256 % 256, s / 65536 % 256, s / 16777216 % 256]
theorem le4_byte (s : Nat) : ∀ b ∈ le4 s, b < 256 := by
  intro b hb
  simp [le4] at hb
  omega
theorem le4_inj {a b : Nat} (ha : a < 4294967296) (hb : b < 4294967296) (h : le4 a = le4 b) : a = b := by
  simp [le4] at h
  omega
theorem xor_shl {a b : Nat} (h : a < 256) : a ^^^ (b * 2 ^ 8) = a + b * 256 := by
  have h1 := Nat.shiftLeft_add_eq_or_of_lt (b := a) (i := 8) (by simpa using h) b
  rw [Nat.shiftLeft_eq] at h1
  have h2 : a ^^^ b * 2 ^ 8 = b * 2 ^ 8 ||| a := by
    apply Nat.eq_of_testBit_eq
    intro i
    rw [Nat.testBit_xor, Nat.testBit_or, Nat.testBit_mul_two_pow]
    by_cases hi : 8 ≤ i
    · have : a.testBit i = false := Nat.testBit_lt_two_pow (Nat.lt_of_lt_of_le (by simpa using h) (Nat.pow_le_pow_right (by decide) hi))
      rw [this]; simp
    · simp [hi]
  rw [h2, ← h1]; omega
theorem num_le4 {s : Nat} (h : s < 4294967296) : num (le4 s) = s := by
  have e : num (le4 s) = s % 256 ^^^ ((s / 256 % 256 ^^^ ((s / 65536 % 256 ^^^ ((s / 16777216 % 256 ^^^ (0 * 2 ^ 8)) * 2 ^ 8)) * 2 ^ 8)) * 2 ^ 8) := rfl
  rw [e, xor_shl (by omega), xor_shl (by omega), xor_shl (by omega), xor_shl (by omega)]
  omega
theorem le4_num {a b c d : Nat} (ha : a < 256) (hb : b < 256) (hc : c < 256) (hd : d < 256) : le4 (num [a, b, c, d]) = [a, b, c, d] := by
  have e : num [a, b, c, d] = a ^^^ ((b ^^^ ((c ^^^ ((d ^^^ (0 * 2 ^ 8)) * 2 ^ 8)) * 2 ^ 8)) * 2 ^ 8) := rfl
  rw [e, xor_shl hd, xor_shl hc, xor_shl hb, xor_shl ha]
  simp only [le4, List.cons.injEq, and_true]
  omega
theorem crc_lt {l : List Nat} (h : ∀ b ∈ l, b < 256) : crc l < 4294967296 := by
  have := feed_lt l (s := F32) (by decide) h
  exact Nat.xor_lt_two_pow (n := 32) (by decide) (by simpa using this)
/-- Behind the right sum the state is always the same. -/
theorem feed_crc {l : List Nat} (h : ∀ b ∈ l, b < 256) : feed F32 (l ++ le4 (crc l)) = steps 32 F32 := by
  rw [feed_append, feed_num, num_le4 (crc_lt h)]
  congr 1
  unfold crc
  rw [Nat.xor_comm F32, ← Nat.xor_assoc, Nat.xor_self, Nat.zero_xor]

/-- A frame, but for its sum. -/
def frm (kind place : Nat) (body : List Nat) : List Nat := be 4 body.length ++ kind :: be 6 place ++ body
def frame (kind place : Nat) (body : List Nat) : List Nat := frm kind place body ++ le4 (crc (frm kind place body))
structure Fits (kind place : Nat) (body : List Nat) : Prop where
  kind : kind ≤ 255
  place : place ≤ 1099511627776
  len : body.length ≤ 1048576
  byte : ∀ b ∈ body, b < 256
theorem frm_len (kind place : Nat) (body : List Nat) : (frm kind place body).length = 11 + body.length := by simp [frm, be_len]; omega
theorem frame_len (kind place : Nat) (body : List Nat) : (frame kind place body).length = 15 + body.length := by simp [frame, frm_len, le4]; omega
theorem frm_byte {kind place : Nat} {body : List Nat} (h : Fits kind place body) : ∀ b ∈ frm kind place body, b < 256 := by
  intro b hb
  simp only [frm, List.mem_append, List.mem_cons] at hb
  rcases hb with (hb | rfl | hb) | hb
  · exact be_byte _ _ b hb
  · have := h.kind; omega
  · exact be_byte _ _ b hb
  · exact h.byte b hb
theorem frame_byte {kind place : Nat} {body : List Nat} (h : Fits kind place body) : ∀ b ∈ frame kind place body, b < 256 := by
  intro b hb
  rcases List.mem_append.1 hb with hb | hb
  · exact frm_byte h b hb
  · exact le4_byte _ b hb
/-- What is found in front: nothing yet, what is none, or a frame. -/
inductive Found
  | torn
  | wrong
  | whole (kind place : Nat) (body : List Nat)
def nOf (l : List Nat) : Nat := unb (l.take 4)
def pOf (l : List Nat) : Nat := unb ((l.drop 5).take 6)
def kOf (l : List Nat) : Nat := l.getD 4 0
def find (l : List Nat) : Found :=
  if l.length < 11 then .torn else
  if 1048576 < nOf l ∨ 1099511627776 < pOf l then .wrong else
  if l.length < 15 + nOf l then .torn else
  if (l.drop (11 + nOf l)).take 4 = le4 (crc (l.take (11 + nOf l))) then .whole (kOf l) (pOf l) ((l.drop 11).take (nOf l)) else .wrong
theorem head_of {l : List Nat} (h : 11 ≤ l.length) (hb : ∀ b ∈ l, b < 256) (hn : 11 + nOf l ≤ l.length) : frm (kOf l) (pOf l) ((l.drop 11).take (nOf l)) = l.take (11 + nOf l) := by
  have h4 : (l.take 4).length = 4 := by simp; omega
  have h6 : ((l.drop 5).take 6).length = 6 := by simp; omega
  have hl : ((l.drop 11).take (nOf l)).length = nOf l := by simp; omega
  have e1 : be 4 (nOf l) = l.take 4 := by
    have := be_unb (l.take 4) (fun b h => hb b (List.mem_of_mem_take h))
    rwa [h4] at this
  have e2 : be 6 (pOf l) = (l.drop 5).take 6 := by
    have := be_unb ((l.drop 5).take 6) (fun b h => hb b (List.mem_of_mem_drop (List.mem_of_mem_take h)))
    rwa [h6] at this
  have e3 : [kOf l] = (l.drop 4).take 1 := by
    rw [List.drop_eq_getElem_cons (show 4 < l.length by omega)]
    simp only [kOf, List.getD, List.getElem?_eq_getElem (show 4 < l.length by omega), Option.getD_some, List.take_succ_cons, List.take_zero]
  unfold frm
  rw [hl, e1, e2, ← List.singleton_append, e3]
  have t : ∀ a b : Nat, l.take (a + b) = l.take a ++ (l.drop a).take b := fun a b => List.take_add
  rw [show 11 + nOf l = 4 + (1 + (6 + nOf l)) by omega, List.take_add, List.take_add, List.take_add]
  simp only [List.drop_drop, List.append_assoc]
theorem find_whole {l : List Nat} {k p : Nat} {body : List Nat} (hb : ∀ b ∈ l, b < 256) (h : find l = .whole k p body) : Fits k p body ∧ ∃ r, l = frame k p body ++ r := by
  unfold find at h
  split at h
  · cases h
  split at h
  · cases h
  split at h
  · cases h
  split at h
  · rename_i h1 h2 h3 h4
    simp only [Found.whole.injEq] at h
    obtain ⟨rfl, rfl, rfl⟩ := h
    have hh := head_of (by omega) hb (by omega)
    have hl : ((l.drop 11).take (nOf l)).length = nOf l := by simp; omega
    refine ⟨⟨?_, by omega, by omega, fun b h => hb b (List.mem_of_mem_drop (List.mem_of_mem_take h))⟩, l.drop (15 + nOf l), ?_⟩
    · have : kOf l < 256 := by
        unfold kOf
        rw [List.getD_eq_getElem?_getD, List.getElem?_eq_getElem (show 4 < l.length by omega), Option.getD_some]
        exact hb _ (List.getElem_mem _)
      omega
    · unfold frame
      rw [hh, ← h4, ← List.take_add, show 11 + nOf l + 4 = 15 + nOf l by omega, List.take_append_drop]
  · cases h
theorem nOf_frame {k p : Nat} {body : List Nat} (hf : Fits k p body) (r : List Nat) : nOf (frm k p body ++ r) = body.length := by
  have := hf.len
  unfold nOf frm
  rw [show be 4 body.length ++ k :: be 6 p ++ body ++ r = be 4 body.length ++ (k :: be 6 p ++ body ++ r) by simp, List.take_append_of_le_length (by simp [be_len]), List.take_of_length_le (by simp [be_len]), unb_be _ _ (by omega)]
theorem pOf_frame {k p : Nat} {body : List Nat} (hf : Fits k p body) (r : List Nat) : pOf (frm k p body ++ r) = p := by
  have := hf.place
  unfold pOf frm
  rw [show be 4 body.length ++ k :: be 6 p ++ body ++ r = (be 4 body.length ++ [k]) ++ (be 6 p ++ (body ++ r)) by simp, List.drop_append, List.drop_of_length_le (by simp [be_len]), List.nil_append]
  simp only [List.length_append, be_len, List.length_singleton, Nat.sub_self, List.drop_zero]
  rw [List.take_append_of_le_length (by simp [be_len]), List.take_of_length_le (by simp [be_len]), unb_be _ _ (by omega)]
theorem kOf_frame (k p : Nat) (body r : List Nat) : kOf (frm k p body ++ r) = k := by
  unfold kOf frm
  rw [List.getD_eq_getElem?_getD, show be 4 body.length ++ k :: be 6 p ++ body ++ r = be 4 body.length ++ (k :: be 6 p ++ body ++ r) by simp, List.getElem?_append_right (by simp [be_len]), be_len]
  rfl
theorem drop11 (k p : Nat) (body r : List Nat) : (frm k p body ++ r).drop 11 = body ++ r := by
  unfold frm
  rw [show be 4 body.length ++ k :: be 6 p ++ body ++ r = (be 4 body.length ++ k :: be 6 p) ++ (body ++ r) by simp, List.drop_append, List.drop_of_length_le (by simp [be_len]), List.nil_append]
  simp [be_len]
theorem find_frame {k p : Nat} {body : List Nat} (hf : Fits k p body) (r : List Nat) : find (frame k p body ++ r) = .whole k p body := by
  have e : frame k p body ++ r = frm k p body ++ (le4 (crc (frm k p body)) ++ r) := by simp [frame]
  have hl := frm_len k p body
  have h1 := hf.len
  have h2 := hf.place
  unfold find
  rw [e, nOf_frame hf, pOf_frame hf, kOf_frame, drop11]
  have hll : (frm k p body ++ (le4 (crc (frm k p body)) ++ r)).length = 15 + body.length + r.length := by simp [hl, le4]; omega
  rw [if_neg (by omega), if_neg (by omega), if_neg (by omega)]
  rw [show (frm k p body ++ (le4 (crc (frm k p body)) ++ r)).take (11 + body.length) = frm k p body by rw [List.take_append_of_le_length (by omega), List.take_of_length_le (by omega)]]
  rw [show (frm k p body ++ (le4 (crc (frm k p body)) ++ r)).drop (11 + body.length) = le4 (crc (frm k p body)) ++ r by rw [List.drop_append, List.drop_of_length_le (by omega), hl]; simp]
  rw [if_pos (by simp [le4])]
  simp
/-- A frame that is cut. -/
theorem find_cut {k p : Nat} {body : List Nat} (hf : Fits k p body) {c : Nat} (hc : c < 15 + body.length) : find ((frame k p body).take c) = .torn := by
  have hl := frm_len k p body
  have hlc : ((frame k p body).take c).length = c := by simp [frame_len]; omega
  unfold find
  by_cases h11 : c < 11
  · rw [if_pos (by omega)]
  · have e : ∀ (a b : Nat), a + b ≤ 11 → (((frame k p body).take c).drop a).take b = ((frame k p body).drop a).take b := fun a b h => by
      rw [List.drop_take, List.take_take, Nat.min_eq_left (by omega)]
    have hn : nOf ((frame k p body).take c) = body.length := by
      have := e 0 4 (by omega)
      simp only [List.drop_zero] at this
      unfold nOf
      rw [this]; exact nOf_frame hf _
    have hp : pOf ((frame k p body).take c) = p := by
      unfold pOf
      rw [e 5 6 (by omega)]; exact pOf_frame hf _
    have h1 := hf.len
    have h2 := hf.place
    rw [if_neg (by omega), hn, hp, if_neg (by omega), if_pos (by omega)]
/-- A frame of which up to 32 bits side by side were changed, behind its length. -/
theorem find_burst {k p : Nat} {body l : List Nat} (hf : Fits k p body) (hb : ∀ b ∈ l, b < 256) (hlen : l.length = 15 + body.length) (h4 : l.take 4 = (frame k p body).take 4)
    {c n : Nat} (hc : c < 2 ^ 32) (h0 : c ≠ 0) (hk : n ≤ 8 * (15 + body.length)) (hd : num (diff (frame k p body) l) = c * 2 ^ n) : find l = .wrong := by
  have hn : nOf l = body.length := by
    unfold nOf
    rw [h4]; exact nOf_frame hf _
  have h1 := hf.len
  have hne : feed F32 (frame k p body) ≠ feed F32 l := feed_burst (by rw [frame_len, hlen]) hc h0 (by rw [frame_len]; exact hk) hd
  unfold find
  rw [if_neg (by omega), hn]
  split
  · rfl
  · rw [if_neg (by omega), if_neg]
    intro e
    apply hne
    have e2 : l = l.take (11 + body.length) ++ le4 (crc (l.take (11 + body.length))) := by
      rw [← e, ← List.take_add, List.take_of_length_le (by omega)]
    rw [frame, feed_crc (frm_byte hf), e2, feed_crc (fun b h => hb b (List.mem_of_mem_take h))]
/-- One bit is turned. -/
theorem num_flip : ∀ (l : List Nat) (i j x : Nat), l[i]? = some x → num (l.set i (x ^^^ 2 ^ j)) = num l ^^^ 2 ^ (8 * i + j)
  | [], i, j, x, h => by simp at h
  | b :: l, 0, j, x, h => by
    obtain rfl : b = x := by simpa using h
    simp only [List.set_cons_zero, num, Nat.mul_zero, Nat.zero_add, Nat.xor_assoc]
    congr 1
    exact Nat.xor_comm _ _
  | b :: l, i + 1, j, x, h => by
    have ih := num_flip l i j x (by simpa using h)
    simp only [List.set_cons_succ, num, ih, Nat.xor_assoc]
    congr 1
    rw [← Nat.shiftLeft_eq, Nat.shiftLeft_xor_distrib, Nat.shiftLeft_eq, Nat.shiftLeft_eq, ← Nat.pow_add]
    congr 2; omega
end Go.Crc
/- The sum of some bytes: codec's sum and the reference's Sum. -/
namespace Go.Crc
open Go
theorem wrap32 (n : Int) : IntKind.u32.wrap n = n % 4294967296 := by simp [IntKind.wrap, IntKind.bits, IntKind.signed]
theorem step_bits {s : Nat} (h : s < 4294967296) : bits .xor .u32 ((s : Int) / 2) (bits .and .u32 (s : Int) 1 * 2197175160 % 4294967296) = ((step s : Nat) : Int) := by
  have e1 : (1 : Int) = ((1 : Nat) : Int) := rfl
  have e2 : bits .and .u32 (s : Int) 1 = ((s % 2 : Nat) : Int) := by
    rw [e1, u32_and_nat _ _ h (by decide)]
    congr 1
    exact Nat.and_two_pow_sub_one_eq_mod s 1
  have e3 : bits .and .u32 (s : Int) 1 * 2197175160 % 4294967296 = ((s % 2 * poly : Nat) : Int) := by
    rw [e2]; unfold poly; omega
  have e4 : (s : Int) / 2 = ((s / 2 : Nat) : Int) := by omega
  rw [e3, e4, u32_xor_nat _ _ (by omega) (by unfold poly; omega)]
  rfl
theorem xor_bits {s x : Nat} (h : s < 4294967296) (hx : x < 256) : bits .xor .u32 (s : Int) (x : Int) = ((s ^^^ x : Nat) : Int) := u32_xor_nat _ _ h (by omega)
theorem not_bits {s : Nat} (h : s < 4294967296) : bits .xor .u32 IntKind.u32.max (s : Int) = ((F32 ^^^ s : Nat) : Int) := by
  have e1 : IntKind.u32.max = ((4294967295 : Nat) : Int) := by decide
  rw [e1, u32_xor_nat _ _ (by decide) h]
  rfl
theorem feed_snoc (s : Nat) (l : List Nat) (x : Nat) : feed s (l ++ [x]) = steps 8 (feed s l ^^^ x) := by simp [feed]
theorem steps_succ' : ∀ (n s : Nat), steps (n + 1) s = step (steps n s)
  | 0, s => rfl
  | n + 1, s => by rw [steps, steps_succ' n (step s), steps]
theorem xor_lt32 {a b : Nat} (ha : a < 4294967296) (hb : b < 4294967296) : a ^^^ b < 4294967296 := Nat.xor_lt_two_pow (n := 32) (by simpa using ha) (by simpa using hb)
end Go.Crc
namespace Go.Proofs.Ythecincpejpmpaa
open Go.RowKit Go.Lb Go.Rc Go.Crc

theorem le4_vals (n : Nat) : Value.agg ((le4 n).map bv).toArray = .agg #[.int .u8 ((n : Int) % 256), .int .u8 ((n : Int) / 256 % 256), .int .u8 ((n : Int) / 65536 % 256), .int .u8 ((n : Int) / 16777216 % 256)] := by simp [le4, bv]
theorem le4_one (n : Nat) : ∀ u ∈ (le4 n).map bv, u.oneCell' = true := by
  intro u hu
  obtain ⟨y, _, rfl⟩ := List.mem_map.1 hu
  rfl
theorem sum4 : (Try.prog.info? 82).map (·.size) = some 4 := by kernel_rfl
theorem zero4 (w : World) : (zeroValue 82).run Try.prog w = .ok (.agg [bv 0, bv 0, bv 0, bv 0].toArray) w := by kernel_rfl
set_option maxRecDepth 20000 in
set_option maxHeartbeats 2000000 in
theorem sum_any (ok : Nat → Prop) (a : Option Addr) (c : Nat) (l : List Nat) (w : World) (hb : Bytes w ok a l) (hl : l.length ≤ 1099511627776) :
    Calls Try.prog 29 #[.slice a l.length c] w fun e w' => e = .returned (.agg ((le4 (crc l)).map bv).toArray) ∧ Upd [] w w' := by
  have HB := Lib.hid hb
  have HL : Hid (∀ x ∈ l, x < 256) := Lib.hid (fun x hx => by
    obtain ⟨i, hi⟩ := List.mem_iff_getElem?.1 hx
    exact (hb i x hi).1)
  clear hb
  go_enter Try.func29, Try.ntmps29
  go_wp2_with (refine wpList_alloc_blk rfl 82 rfl [bv 0, bv 0, bv 0, bv 0] (zero4 _) ?_; intro wA hA uA)
  have HUA := Lib.hid uA
  have HA := Lib.hid hA
  have hAl := hA.lt
  have hAs := uA.size
  clear uA hA
  go_loopg [3, 5, 8, 16] l.length (fun g s u t v wr => ∃ (i : Nat), t = .int .i64 i ∧ l.length - i = g ∧ i ≤ l.length ∧ s = .int .u32 (feed F32 (l.take i) : Nat) ∧ Upd [] wA wr)
  case atStart => exact ⟨0, rfl, rfl, by omega, rfl, Upd.refl _ _⟩
  case round =>
    obtain ⟨i, rfl, hg, hi, rfl, hU⟩ := hrel
    have HG := Lib.hid hg
    have HU := Lib.hid hU
    clear hg hU
    have hs : feed F32 (l.take i) < 4294967296 := feed_lt _ (by decide) (fun b hb => HL.out b (List.mem_of_mem_take hb))
    by_cases hlt : i < l.length
    · have t1 : decide (i < l.length) = true := by simpa using hlt
      obtain ⟨x, hx⟩ : ∃ x, l[i]? = some x := ⟨_, List.getElem?_eq_getElem hlt⟩
      obtain ⟨hx2, d, o, rfl, hdB, hdl, hcell⟩ := HB.out i x hx
      have HX := Lib.hid hx
      have hc : wr.cell? ⟨d, o + i, none⟩ = some (.int .u8 x) := (HU.out.cell (a := ⟨d, o + i, none⟩) (Nat.lt_of_lt_of_le hdl hAs) (by simp)).trans ((HUA.out.cell (a := ⟨d, o + i, none⟩) hdl (by simp)).trans hcell)
      clear hx hcell
      have hxb := xor_bits hs hx2
      obtain ⟨s0, hs0⟩ : ∃ s0, s0 = feed F32 (l.take i) ^^^ x := ⟨_, rfl⟩
      have hs0l : s0 < 4294967296 := by rw [hs0]; exact xor_lt32 hs (by omega)
      rw [← hs0] at hxb
      have HS0 := Lib.hid hs0
      clear hs0
      go_wp2_with fail
      go_loopg [3, 16] 8 (fun g s v wr => ∃ (j : Nat), v = .int .i64 j ∧ 8 - j = g ∧ j ≤ 8 ∧ s = .int .u32 (steps j s0 : Nat) ∧ Upd [] wA wr)
      case atStart => exact ⟨0, rfl, rfl, by omega, rfl, HU.out⟩
      case round =>
        obtain ⟨j, rfl, hgj, hj, rfl, hU2⟩ := hrel
        have HGJ := Lib.hid hgj
        have HU2 := Lib.hid hU2
        clear hgj hU2
        have hsj : steps j s0 < 4294967296 := steps_lt j (by simpa using hs0l)
        have hst := step_bits hsj
        by_cases hj8 : j < 8
        · have t2 : decide ((j : Int) < 8) = true := by simp; omega
          go_wp2_with fail
          go_roundg (8 - (j + 1))
          case measure => have := HGJ.out; omega
          case rel => exact ⟨j + 1, by go_num, rfl, by omega, by rw [steps_succ'], HU2.out⟩
        · obtain rfl : j = 8 := by omega
          go_wp2_with fail
          go_roundg (l.length - (i + 1))
          case measure => have := HG.out; omega
          case rel => exact ⟨i + 1, by go_num, rfl, by omega, by rw [take_snoc HX.out, feed_snoc, ← HS0.out], HU2.out⟩
    · obtain rfl : i = l.length := by omega
      rw [List.take_length] at hs
      rw [List.take_length]
      obtain ⟨n, hn⟩ : ∃ n, n = crc l := ⟨_, rfl⟩
      have hnb : bits .xor .u32 IntKind.u32.max ((feed F32 l : Nat) : Int) = (n : Int) := by rw [hn]; exact not_bits hs
      have HN := Lib.hid hn
      clear hn
      have HT := Lib.hid (HU.out.blk HA.out (by simp))
      go_wp2_with (refine wpList_store_blk (t := 82) (vs := [bv 0, bv 0, bv 0, bv 0]) (o := ⟨none, .store 82 (.tmp 2) (.tmp 39), _, _, _, _⟩) ?_ 82 (.tmp 2) (.tmp 39) ?_ w.heap.size ((le4 n).map bv) ?_ ?_ ?_ ?_ ?_ ?_ ?_)
      all_goals first | rfl | exact HT.out | exact le4_one n | skip
      intro w3 hb3 hu3
      go_wp2_with fail
      have hl := run_loadVar_blk (P := Try.prog) hb3 82 _ Try.underlying82 rfl sum4
      refine bodyPost_ret (v := .agg ((le4 n).map bv).toArray) ?_ rfl ⟨by rw [HN.out], (HUA.out.trans HU.out (by simp)).trans hu3 (by simp)⟩
      first | (rw [results_cell1 Try.results29]; simp [asAddr, hl]) | (rw [results_cell_one Try.results29]; simp [asAddr, hl]) | simp [results, Try.results29, asAddr, hl]
end Go.Proofs.Ythecincpejpmpaa
/- Numbers in bytes, the highest first: codec's number, the reference's number and put; Same. -/
namespace Go.Crc
open Go
theorem or_i64_nat (a b : Nat) (ha : a < 2 ^ 62) (hb : b < 2 ^ 62) : bits .or .i64 (a : Int) (b : Int) = ((a ||| b : Nat) : Int) := by
  have h1 : ∀ c : Nat, c < 2 ^ 62 → (BitVec.ofInt 64 (c : Int)).toNat = c := fun c hc => by
    rw [BitVec.ofInt_natCast, BitVec.toNat_ofNat]; exact Nat.mod_eq_of_lt (by omega)
  show IntKind.i64.wrap ((BitVec.ofInt 64 (a : Int) ||| BitVec.ofInt 64 (b : Int)).toNat : Int) = _
  have h3 := Nat.or_lt_two_pow ha hb
  rw [BitVec.toNat_or, h1 a ha, h1 b hb, IntKind.wrap_i64]
  omega
theorem or256 {n x : Nat} (hx : x < 256) (hn : n < 1099511627776) : bits .or .i64 (((n : Int) * 256)) (x : Int) = ((256 * n + x : Nat) : Int) := by
  have e1 : (n : Int) * 256 = ((n * 256 : Nat) : Int) := by omega
  rw [e1, or_i64_nat _ _ (by omega) (by omega)]
  congr 1
  have := Nat.shiftLeft_add_eq_or_of_lt (b := x) (i := 8) (by simpa using hx) n
  rw [Nat.shiftLeft_eq] at this
  rw [show n * 256 = n * 2 ^ 8 by rfl, ← this]
  omega
end Go.Crc
namespace Go.Proofs.Ythecincpejpmpaa
open Go.RowKit Go.Lb Go.Rc Go.Crc

set_option maxRecDepth 20000 in
set_option maxHeartbeats 2000000 in
theorem number_any (ok : Nat → Prop) (a : Option Addr) (c : Nat) (l : List Nat) (w : World) (hb : Bytes w ok a l) (hl : l.length ≤ 6) :
    Calls Try.prog 32 #[.slice a l.length c] w fun e w' => e = .returned (.int .i64 (unb l : Nat)) ∧ w' = w := by
  have HB := Lib.hid hb
  have HL : Hid (∀ x ∈ l, x < 256) := Lib.hid (fun x hx => by
    obtain ⟨i, hi⟩ := List.mem_iff_getElem?.1 hx
    exact (hb i x hi).1)
  clear hb
  go_enter Try.func32, Try.ntmps32
  go_wp2_with fail
  go_loopg [3, 5, 8] l.length (fun g s u t wr => ∃ (i : Nat), t = .int .i64 i ∧ l.length - i = g ∧ i ≤ l.length ∧ s = .int .i64 (unb (l.take i) : Nat) ∧ wr = w)
  case atStart => exact ⟨0, rfl, rfl, by omega, rfl, rfl⟩
  case round =>
    obtain ⟨i, rfl, hg, hi, rfl, rfl⟩ := hrel
    have HG := Lib.hid hg
    clear hg
    by_cases hlt : i < l.length
    · have t1 : decide (i < l.length) = true := by simpa using hlt
      obtain ⟨x, hx⟩ : ∃ x, l[i]? = some x := ⟨_, List.getElem?_eq_getElem hlt⟩
      obtain ⟨hx2, d, o, rfl, hdB, hdl, hcell⟩ := HB.out i x hx
      have HX := Lib.hid hx
      have hc : wr.cell? ⟨d, o + i, none⟩ = some (.int .u8 x) := hcell
      have hs : unb (l.take i) < 1099511627776 := by
        have h1 := unb_lt (l.take i) (fun b hb => HL.out b (List.mem_of_mem_take hb))
        have h2 : 256 ^ (l.take i).length ≤ 256 ^ 5 := Nat.pow_le_pow_right (by decide) (by simp; omega)
        have h3 : 256 ^ 5 = 1099511627776 := by decide
        omega
      clear hx hcell
      obtain ⟨s1, hs1⟩ : ∃ s1, s1 = unb (l.take i) := ⟨_, rfl⟩
      rw [← hs1] at hs ⊢
      have HS1 := Lib.hid hs1
      have hor := or256 hx2 hs
      clear hs1
      go_wp2_with fail
      go_roundg (l.length - (i + 1))
      case measure => have := HG.out; omega
      case rel => exact ⟨i + 1, by go_num, rfl, by omega, by rw [take_snoc HX.out, unb_snoc, ← HS1.out]; go_num, rfl⟩
    · obtain rfl : i = l.length := by omega
      rw [List.take_length]
      go_wp2_with fail
      go_ret
      exact ⟨rfl, rfl⟩

set_option maxRecDepth 20000 in
set_option maxHeartbeats 2000000 in
theorem rnumber_any (ok : Nat → Prop) (a : Option Addr) (c p k : Nat) (l : List Nat) (w : World) (hb : Bytes w ok a l) (hk : k ≤ 6) (hp : p + k ≤ l.length) (hl : l.length ≤ 225000000000000) :
    Calls Try.prog 34 #[.slice a l.length c, .int .i64 p, .int .i64 k] w fun e w' => e = .returned (.int .i64 (unb ((l.drop p).take k) : Nat)) ∧ w' = w := by
  have HB := Lib.hid hb
  have HL : Hid (∀ x ∈ l, x < 256) := Lib.hid (fun x hx => by
    obtain ⟨i, hi⟩ := List.mem_iff_getElem?.1 hx
    exact (hb i x hi).1)
  clear hb
  go_enter Try.func34, Try.ntmps34
  go_wp2_with fail
  go_loopg [7, 8] k (fun g s t wr => ∃ (i : Nat), t = .int .i64 ((p + i : Nat) : Int) ∧ k - i = g ∧ i ≤ k ∧ s = .int .i64 (unb ((l.drop p).take i) : Nat) ∧ wr = w)
  case atStart => exact ⟨0, rfl, rfl, by omega, rfl, rfl⟩
  case round =>
    obtain ⟨i, rfl, hg, hi, rfl, rfl⟩ := hrel
    have HG := Lib.hid hg
    clear hg
    by_cases hlt : i < k
    · have t1 : decide (((p + i : Nat) : Int) < (p : Int) + k) = true := by simp; omega
      obtain ⟨x, hx⟩ : ∃ x, l[p + i]? = some x := ⟨_, List.getElem?_eq_getElem (by omega)⟩
      obtain ⟨hx2, d, o, rfl, hdB, hdl, hcell⟩ := HB.out (p + i) x hx
      have HX : Hid ((l.drop p)[i]? = some x) := Lib.hid (by rw [List.getElem?_drop]; exact hx)
      have hc : wr.cell? ⟨d, o + (p + i), none⟩ = some (.int .u8 x) := hcell
      have hs : unb ((l.drop p).take i) < 1099511627776 := by
        have h1 := unb_lt ((l.drop p).take i) (fun b hb => HL.out b (List.mem_of_mem_drop (List.mem_of_mem_take hb)))
        have h2 : 256 ^ ((l.drop p).take i).length ≤ 256 ^ 5 := Nat.pow_le_pow_right (by decide) (by simp; omega)
        have h3 : 256 ^ 5 = 1099511627776 := by decide
        omega
      clear hx hcell
      obtain ⟨s1, hs1⟩ : ∃ s1, s1 = unb ((l.drop p).take i) := ⟨_, rfl⟩
      rw [← hs1] at hs ⊢
      have HS1 := Lib.hid hs1
      have hlp : p + i < l.length := by omega
      obtain ⟨q, hq⟩ : ∃ q, q = p + i := ⟨_, rfl⟩
      rw [← hq] at t1 hc hlp ⊢
      have HQ := Lib.hid hq
      clear hs1 hq
      go_wp2_with fail
      go_roundg (k - (i + 1))
      case measure => have := HG.out; omega
      case rel => exact ⟨i + 1, by have := HQ.out; go_num, rfl, by omega, by rw [take_snoc HX.out, unb_snoc, ← HS1.out]; first | rfl | go_num, rfl⟩
    · obtain rfl : i = k := by omega
      have t1 : decide (((p + i : Nat) : Int) < (p : Int) + i) = false := by simp
      go_wp2_with fail
      go_ret
      exact ⟨rfl, rfl⟩

/-- The reference's Same. -/
theorem beq_neg {l m : List Nat} {i : Nat} {x y : Nat} (hx : l[i]? = some x) (hy : m[i]? = some y) (h : x ≠ y) : (l == m) = false := by
  rw [beq_eq_false_iff_ne]
  rintro rfl
  rw [hx] at hy
  exact h (Option.some.inj hy)
set_option maxRecDepth 20000 in
set_option maxHeartbeats 2000000 in
theorem same_any (ok ok2 : Nat → Prop) (a b : Option Addr) (c d : Nat) (l m : List Nat) (w : World) (hb : Bytes w ok a l) (hm : Bytes w ok2 b m) (hl : l.length ≤ 225000000000000) :
    Calls Try.prog 13 #[.slice a l.length c, .slice b m.length d] w fun e w' => e = .returned (.bool (l == m)) ∧ Upd [] w w' := by
  have HB := Lib.hid hb
  have HM := Lib.hid hm
  clear hb hm
  go_enter Try.func13, Try.ntmps13
  by_cases hlm : l.length = m.length
  · have t0 : ((l.length : Int) == (m.length : Int)) = true := by rw [beq_iff_eq]; omega
    go_wp2_with fail
    go_loopg [5] l.length (fun g t wr => ∃ (i : Nat), t = .int .i64 i ∧ l.length - i = g ∧ i ≤ l.length ∧ l.take i = m.take i ∧ Upd [] w wr)
    case atStart => exact ⟨0, rfl, rfl, by omega, by simp, Upd.refl _ _⟩
    case round =>
      obtain ⟨i, rfl, hg, hi, he, hU⟩ := hrel
      have HG := Lib.hid hg
      have HE := Lib.hid he
      have HU := Lib.hid hU
      have HLM := Lib.hid hlm
      clear hg he hU t0 hlm
      by_cases hlt : i < l.length
      · have t1 : decide (i < l.length) = true := by simpa using hlt
        have hlt2 : i < m.length := by have := HLM.out; omega
        obtain ⟨x, hx⟩ : ∃ x, l[i]? = some x := ⟨_, List.getElem?_eq_getElem hlt⟩
        obtain ⟨y, hy⟩ : ∃ y, m[i]? = some y := ⟨_, List.getElem?_eq_getElem hlt2⟩
        obtain ⟨hx2, d1, o1, rfl, _, hdl1, hcell1⟩ := HB.out i x hx
        obtain ⟨hy2, d2, o2, rfl, _, hdl2, hcell2⟩ := HM.out i y hy
        have HX := Lib.hid hx
        have HY := Lib.hid hy
        have k1 : wr.cell? ⟨d1, o1 + i, none⟩ = some (.int .u8 x) := (HU.out.cell (a := ⟨d1, o1 + i, none⟩) hdl1 (by simp)).trans hcell1
        have k2 : wr.cell? ⟨d2, o2 + i, none⟩ = some (.int .u8 y) := (HU.out.cell (a := ⟨d2, o2 + i, none⟩) hdl2 (by simp)).trans hcell2
        have hmm : l.length = m.length := HLM.out
        have hmi : (i : Int) < (m.length : Int) := by omega
        clear hx hy hcell1 hcell2
        by_cases hxy : x = y
        · subst hxy
          clear hmm
          go_wp2_with fail
          go_quiet (fail)
          go_wp2_with fail
          go_roundg (l.length - (i + 1))
          case measure => have := HG.out; omega
          case rel => exact ⟨i + 1, by go_num, rfl, by omega, by rw [take_snoc HX.out, take_snoc HY.out, HE.out], HU.out.drewN _⟩
        · have tx : ((x : Int) == (y : Int)) = false := by rw [beq_eq_false_iff_ne]; omega
          have HF := Lib.hid (beq_neg HX.out HY.out hxy)
          clear hmm hxy
          go_wp2_with fail
          go_quiet (fail)
          go_wp2_with fail
          go_ret
          exact ⟨by rw [HF.out]; rfl, HU.out.drewN _⟩
      · obtain rfl : i = l.length := by omega
        have HF : Hid ((l == m) = true) := Lib.hid (by
          rw [beq_iff_eq]
          have := HE.out
          rwa [List.take_length, HLM.out, List.take_length] at this)
        go_wp2_with fail
        go_ret
        exact ⟨by rw [HF.out]; rfl, HU.out⟩
  · have t0 : ((l.length : Int) == (m.length : Int)) = false := by rw [beq_eq_false_iff_ne]; omega
    have HF : Hid ((l == m) = false) := Lib.hid (by
      rw [beq_eq_false_iff_ne]
      rintro rfl
      exact hlm rfl)
    clear hlm
    go_wp2_with fail
    go_ret
    exact ⟨by rw [HF.out]; rfl, Upd.refl _ _⟩
end Go.Proofs.Ythecincpejpmpaa
/- The reference's put: a number's bytes behind a row. bytes.Clone. -/
namespace Go.Proofs.Ythecincpejpmpaa
open Go.RowKit Go.Lb Go.Rc Go.Crc
/-- Bytes in a row of one's own that lies at B or behind. -/
abbrev Row (B : Nat) (w : World) (v : Value) (o : List Nat) : Prop := w.ownsRow B 5 1 v o.length (o.map bv)
theorem Row.nil (B : Nat) (w : World) : Row B w (.slice none 0 0) [] := ⟨rfl, .inl ⟨rfl, rfl⟩⟩
theorem Row.grow {B : Nat} {w w' : World} {v : Value} {o : List Nat} (h : Row B w v o) (g : w.grownBy w' v.ownBlock) : Kp B [] w w' :=
  ⟨g.os, g.tape, g.output, g.size, fun k hk hx => g.block k hk (fun e => by
    have := own_lo h e.symm
    simp at hx; omega)⟩
theorem Row.mk {B : Nat} {w : World} {v : Value} {o news : List Nat} (h : w.ownsRow B 5 1 v (o.length + news.length) (o.map bv ++ news.map bv)) : Row B w v (o ++ news) := by
  rw [Row, List.length_append, List.map_append]; exact h
theorem Row.bytes {B : Nat} {w : World} {a : Option Addr} {c n : Nat} {o : List Nat} (h : Row B w (.slice a n c) o) (ho : ∀ x ∈ o, x < 256) (hn : n = o.length) : Bytes w (B ≤ ·) a o := by
  subst hn
  obtain ⟨a', c', e, hb⟩ := bytes_own (n := 0) (ok := fun k => B ≤ k) h ho (fun b hb _ => hb)
  cases e
  exact hb
theorem Row.bytesN {B : Nat} {w : World} {a : Option Addr} {c n : Nat} {o : List Nat} (h : Row B w (.slice a n c) o) (ho : ∀ x ∈ o, x < 256) (hn : n = o.length) : Bytes w (Nw B w) a o := by
  subst hn
  obtain ⟨a', c', e, hb⟩ := bytes_own (n := 0) (ok := Nw B w) h ho (fun b hb hs => ⟨hb, hs⟩)
  cases e
  exact hb
theorem Row.shape {B : Nat} {w : World} {v : Value} {o : List Nat} (h : Row B w v o) : ∃ a c, v = .slice a o.length c := own_shape h
theorem Row.cap {B : Nat} {w : World} {a : Option Addr} {n c : Nat} {o : List Nat} (h : Row B w (.slice a n c) o) : n ≤ c ∧ c ≤ maxLen := by
  rcases own_is h with ⟨e, h0⟩ | ⟨g, c', e, _, _, h1, h2⟩
  · cases e; exact ⟨by omega, by decide⟩
  · cases e; exact ⟨by omega, h2⟩

set_option maxRecDepth 20000 in
set_option maxHeartbeats 2000000 in
theorem rput_any (B : Nat) (v : Value) (o : List Nat) (n k : Nat) (w : World) (h : Row B w v o) (hB : B ≤ w.heap.size) (hk : k ≤ 6) (ho : o.length ≤ 1099511627776) (hn : n ≤ 1099511627776) :
    Calls Try.prog 30 #[v, .int .i64 n, .int .i64 k] w fun e w' => ∃ v', e = .returned v' ∧ Row B w' v' (o ++ be k n) ∧ Kp B [] w w' := by
  obtain ⟨i5, hi5, hz0, hz1, hz2⟩ := infoU8
  have H := Lib.hid h
  clear h
  go_enter Try.func30, Try.ntmps30
  go_wp2_with fail
  go_loopg [0, 7] k (fun g s t wr => ∃ (i : Nat) (o' : List Nat), t = .int .i64 ((i : Int) - 1) ∧ i = g ∧ i ≤ k ∧ o' ++ be i n = o ++ be k n ∧ Row B wr s o' ∧ Kp B [] w wr)
  case atStart => exact ⟨k, o, rfl, rfl, by omega, rfl, H.out, Kp.refl _ _ _⟩
  case round =>
    obtain ⟨i, o', rfl, hg, hi, he, hR, hK⟩ := hrel
    have HG := Lib.hid hg
    have HE := Lib.hid he
    have HR := Lib.hid hR
    have HK := Lib.hid hK
    have hlen : o'.length ≤ 1099511627776 + 6 := by
      have := congrArg List.length he
      simp only [List.length_append, be_len] at this
      omega
    obtain ⟨a, c, rfl⟩ := hR.shape
    clear hg he hR hK
    cases i with
    | zero =>
      rw [show ((0 : Nat) : Int) - 1 = -1 by rfl]
      go_wp2_with fail
      go_ret
      exact ⟨_, rfl, by have := HE.out; simp only [be, List.append_nil] at this; rw [← this]; exact HR.out, HK.out⟩
    | succ m =>
      rw [show ((m + 1 : Nat) : Int) - 1 = (m : Int) by omega]
      obtain ⟨x, hx⟩ : ∃ x, x = n / 256 ^ m % 256 := ⟨_, rfl⟩
      have hx2 : x < 256 := by omega
      have hsh : (n : Int) / 2 ^ (8 * m) % 256 = (x : Int) := by
        rw [hx, show (2 : Int) ^ (8 * m) = ((256 ^ m : Nat) : Int) by rw [show (256 : Nat) = 2 ^ 8 by rfl, ← Nat.pow_mul]; simp]
        omega
      have HX := Lib.hid hx
      have hsz := HK.out.size
      clear hx
      go_wp2_with (at_builtin; refine wpList_append_mine rfl (.tmp 14) (.tmp 20) 22 rfl B 5 i5 (.int .u8 0) 1 1 Try.underlying22 hi5 hz0 hz1 hz2 rfl (by decide) (.slice a o'.length c) o'.length (o'.map bv) rfl (World.ownsRow.alloc HR.out _) ⟨wr.heap.size, 0, none⟩ 1 1 [bv x] rfl rfl (Blk.news (Blk.new _ 5 [bv x])) (by simp [bv, Value.oneCell']) (by unfold maxLen; omega) (by omega) (by simp; omega) ?_; intro v' w11 ho hg hgb; have HR1 : Hid (Row B w11 v' (o' ++ [x])) := Lib.hid (Row.mk (news := [x]) ho); have HK1 : Hid (Kp B [] w w11) := Lib.hid ((HK.out.trans (Kp.of_nil ((Upd.refl _ _).alloc _))).trans (Row.grow (World.ownsRow.alloc HR.out _) hg)); clear ho hg hgb)
      go_roundg m
      case measure => have := HG.out; omega
      case rel => exact ⟨m, o' ++ [x], by go_num, rfl, by omega, by have := HE.out; rw [← this, HX.out, be]; simp, HR1.out, HK1.out⟩

theorem eql_nil {P : Program} (w : World) {t e : TypeId} (a : Option Addr) (n c : Nat) (ht : P.underlying t = some (.slice e)) :
    (binOp .eql t (.slice a n c) (.slice none 0 0)).run P w = .ok (.bool a.isNone) w := by
  cases a with
  | none =>
    have h : ∀ d : Nat, (Op.equalIn (d + 1) t (.slice none n c) (.slice none 0 0)).run P w = .ok true w := fun d => by
      simp [Op.equalIn, run_underlying ht]
    simp only [binOp]
    simp [Op.equal, Op.maxDepth, h 9999]
  | some a =>
    have h : ∀ d : Nat, (Op.equalIn (d + 1) t (.slice (some a) n c) (.slice none 0 0)).run P w = .ok false w := fun d => by
      simp [Op.equalIn, run_underlying ht]
    simp only [binOp]
    simp [Op.equal, Op.maxDepth, h 9999]
set_option maxRecDepth 20000 in
set_option maxHeartbeats 2000000 in
theorem clone_any (ok : Nat → Prop) (a : Option Addr) (c : Nat) (l : List Nat) (w : World) (hb : Bytes w ok a l) (hl : l.length ≤ 1099511627776) :
    Calls Try.prog 33 #[.slice a l.length c] w fun e w' => ∃ v', e = .returned v' ∧ Row w.heap.size w' v' l ∧ Upd [] w w' := by
  obtain ⟨i5, hi5, hz0, hz1, hz2⟩ := infoU8
  have HB := Lib.hid hb
  clear hb
  go_enter Try.func33, Try.ntmps33
  cases a with
  | none =>
    have hl0 : l = [] := by
      cases l with
      | nil => rfl
      | cons x l => obtain ⟨_, b, o, e, _⟩ := HB.out 0 x rfl; cases e
    subst hl0
    have e0 := eql_nil (P := Try.prog) w none 0 c Try.underlying22
    simp only [Option.isNone_none] at e0
    go_wp2_with fail
    go_ret
    exact ⟨_, rfl, Row.nil _ _, Upd.refl _ _⟩
  | some ad =>
    have hrow : Row w.heap.size (w.alloc (.cells #[] 5)) (.slice (some ⟨w.heap.size, 0, none⟩) 0 0) [] := ⟨rfl, .inr ⟨w.heap.size, 0, #[], rfl, Nat.le_refl _, heap_alloc_new _ _, by decide, by decide, rfl, rfl⟩⟩
    have u0 : Upd [] w (w.alloc (.cells #[] 5)) := (Upd.refl _ _).alloc _
    obtain ⟨v', w3, hrun, hown, hg, hv⟩ := append_bytes (P := Try.prog) (ty := 22) (c := c) (n := 0) (xs := []) Try.underlying22 hi5 hz0 hz1 hz2 rfl hrow (HB.out.upd u0 (by simp)) (by show 0 + l.length ≤ 225000000000000; omega) u0.size
    have HR : Hid (Row w.heap.size w3 v' l) := Lib.hid (by simpa using Row.mk (o := []) (news := l) hown)
    have HU : Hid (Upd [] w w3) := Lib.hid (u0.grown hg (fun k hk => by simp [Value.ownBlock] at hk; right; omega))
    have HRUN := Lib.hid hrun
    clear hrow u0 hrun hown hg hv
    have e0 := eql_nil (P := Try.prog) w (some ad) l.length c Try.underlying22
    simp only [Option.isNone_some] at e0
    go_wp2_with (first | (refine wpList_run (o := ⟨some 5, .buildSlice 22 0 #[], _, _, _, _⟩) rfl (exec_buildSlice (by rfl) (by rfl) (show _ = Result.ok (.slice (some ⟨w.heap.size, 0, none⟩) 0 0) (w.alloc (.cells #[] 5)) by kernel_rfl)) ?_) | (at_builtin; refine wpList_run rfl (exec_append (by rfl) (by rfl) (by rfl) HRUN.out) ?_))
    go_ret
    exact ⟨_, rfl, HR.out, HU.out⟩
end Go.Proofs.Ythecincpejpmpaa
/- The reference's Sum. -/
namespace Go.Crc
open Go
theorem step_odd {s : Nat} (h : s < 4294967296) (h1 : (s : Int) % 2 = 1) : bits .xor .u32 ((s : Int) / 2) 2197175160 = ((step s : Nat) : Int) := by
  have e1 : (2197175160 : Int) = ((2197175160 : Nat) : Int) := rfl
  have e4 : (s : Int) / 2 = ((s / 2 : Nat) : Int) := by omega
  have e5 : s % 2 = 1 := by omega
  rw [e1, e4, u32_xor_nat _ _ (by omega) (by decide)]
  unfold step poly
  rw [e5, Nat.one_mul]
theorem step_even {s : Nat} (h1 : (s : Int) % 2 = 0) : (s : Int) / 2 = ((step s : Nat) : Int) := by
  have e5 : s % 2 = 0 := by omega
  unfold step
  rw [e5, Nat.zero_mul, Nat.xor_zero]
  omega
end Go.Crc
namespace Go.Proofs.Ythecincpejpmpaa
open Go.RowKit Go.Lb Go.Rc Go.Crc

set_option maxRecDepth 20000 in
set_option maxHeartbeats 2000000 in
theorem rsum_any (ok : Nat → Prop) (a : Option Addr) (c : Nat) (l : List Nat) (w : World) (hb : Bytes w ok a l) (hl : l.length ≤ 1099511627776) :
    Calls Try.prog 31 #[.slice a l.length c] w fun e w' => e = .returned (.int .u32 (crc l : Nat)) ∧ w' = w := by
  have HB := Lib.hid hb
  have HL : Hid (∀ x ∈ l, x < 256) := Lib.hid (fun x hx => by
    obtain ⟨i, hi⟩ := List.mem_iff_getElem?.1 hx
    exact (hb i x hi).1)
  clear hb
  go_enter Try.func31, Try.ntmps31
  go_wp2_with fail
  go_loopg [3, 4, 5, 6] l.length (fun g s t u v wr => ∃ (i : Nat), t = .int .i64 i ∧ l.length - i = g ∧ i ≤ l.length ∧ s = .int .u32 (feed F32 (l.take i) : Nat) ∧ wr = w)
  case atStart => exact ⟨0, rfl, rfl, by omega, rfl, rfl⟩
  case round =>
    obtain ⟨i, rfl, hg, hi, rfl, rfl⟩ := hrel
    have HG := Lib.hid hg
    clear hg
    have hs : feed F32 (l.take i) < 4294967296 := feed_lt _ (by decide) (fun b hb => HL.out b (List.mem_of_mem_take hb))
    by_cases hlt : i < l.length
    · have t1 : decide (i < l.length) = true := by simpa using hlt
      obtain ⟨x, hx⟩ : ∃ x, l[i]? = some x := ⟨_, List.getElem?_eq_getElem hlt⟩
      obtain ⟨hx2, d, o, rfl, hdB, hdl, hcell⟩ := HB.out i x hx
      have HX := Lib.hid hx
      have hc : wr.cell? ⟨d, o + i, none⟩ = some (.int .u8 x) := hcell
      clear hx hcell
      have hxb := xor_bits hs hx2
      obtain ⟨s0, hs0⟩ : ∃ s0, s0 = feed F32 (l.take i) ^^^ x := ⟨_, rfl⟩
      have hs0l : s0 < 4294967296 := by rw [hs0]; exact xor_lt32 hs (by omega)
      rw [← hs0] at hxb
      have HS0 := Lib.hid hs0
      clear hs0
      obtain ⟨w0, hw0⟩ : ∃ w0, w0 = wr := ⟨_, rfl⟩
      have HW0 := Lib.hid hw0
      clear hw0
      go_wp2_with fail
      go_loopg [3, 5, 6] 8 (fun g s v u wr => ∃ (j : Nat), v = .int .i64 j ∧ 8 - j = g ∧ j ≤ 8 ∧ s = .int .u32 (steps j s0 : Nat) ∧ wr = w0)
      case atStart => exact ⟨0, rfl, rfl, by omega, rfl, HW0.out.symm⟩
      case round =>
        obtain ⟨j, rfl, hgj, hj, rfl, hwr⟩ := hrel
        have HGJ := Lib.hid hgj
        have HWR := Lib.hid hwr
        clear hgj hwr
        have hsj : steps j s0 < 4294967296 := steps_lt j (by simpa using hs0l)
        obtain ⟨s1, hs1⟩ : ∃ s1, s1 = steps j s0 := ⟨_, rfl⟩
        rw [← hs1] at hsj ⊢
        have HS1 := Lib.hid hs1
        clear hs1
        by_cases hj8 : j < 8
        · have t2 : decide ((j : Int) < 8) = true := by simp; omega
          rcases (show (s1 : Int) % 2 = 0 ∨ (s1 : Int) % 2 = 1 by omega) with h2 | h2
          · have hst := step_even h2
            go_wp2_with fail
            go_roundg (8 - (j + 1))
            case measure => have := HGJ.out; omega
            case rel => exact ⟨j + 1, by go_num, rfl, by omega, by rw [steps_succ', ← HS1.out], HWR.out⟩
          · have hst := step_odd hsj h2
            go_wp2_with fail
            go_roundg (8 - (j + 1))
            case measure => have := HGJ.out; omega
            case rel => exact ⟨j + 1, by go_num, rfl, by omega, by rw [steps_succ', ← HS1.out], HWR.out⟩
        · obtain rfl : j = 8 := by omega
          have t2 : decide ((8 : Int) < 8) = false := by decide
          go_wp2_with fail
          go_roundg (l.length - (i + 1))
          case measure => have := HG.out; omega
          case rel => exact ⟨i + 1, by go_num, rfl, by omega, by rw [take_snoc HX.out, feed_snoc, ← HS0.out, HS1.out], by rw [HWR.out, HW0.out]⟩
    · obtain rfl : i = l.length := by omega
      rw [List.take_length] at hs
      rw [List.take_length]
      obtain ⟨n, hn⟩ : ∃ n, n = crc l := ⟨_, rfl⟩
      have hnb : bits .xor .u32 IntKind.u32.max ((feed F32 l : Nat) : Int) = (n : Int) := by rw [hn]; exact not_bits hs
      have HN := Lib.hid hn
      clear hn
      go_wp2_with fail
      go_ret
      exact ⟨by rw [HN.out]; rfl, rfl⟩
end Go.Proofs.Ythecincpejpmpaa
/- A frame is made: codec's Frame and the reference's. -/
namespace Go.Proofs.Ythecincpejpmpaa
open Go.RowKit Go.Lb Go.Rc Go.Crc
/-- May it be framed? -/
def MayFrame (kind place : Int) (body : List Nat) : Prop := 0 ≤ kind ∧ kind ≤ 255 ∧ 0 ≤ place ∧ place ≤ 1099511627776 ∧ body.length ≤ 1048576
instance (kind place : Int) (body : List Nat) : Decidable (MayFrame kind place body) := by unfold MayFrame; exact inferInstance
def FrameIs (kind place : Int) (body : List Nat) (w : World) (e : Ending) (w' : World) : Prop := Upd [] w w' ∧
  ((MayFrame kind place body ∧ ∃ v, e = .returned (.tuple #[v, .int .i64 0]) ∧ Row w.heap.size w' v (frame kind.toNat place.toNat body)) ∨
   (¬ MayFrame kind place body ∧ e = .returned (.tuple #[.slice none 0 0, .int .i64 1])))
theorem may_not {kind place : Int} {body : List Nat} (h : ¬ MayFrame kind place body) : kind < 0 ∨ (¬ kind < 0 ∧ 255 < kind) ∨ (¬ kind < 0 ∧ ¬ 255 < kind ∧ place < 0) ∨ (¬ kind < 0 ∧ ¬ 255 < kind ∧ ¬ place < 0 ∧ 1099511627776 < place) ∨ (¬ kind < 0 ∧ ¬ 255 < kind ∧ ¬ place < 0 ∧ ¬ 1099511627776 < place ∧ (1048576 : Int) < (body.length : Int)) := by
  unfold MayFrame at h
  omega

set_option maxRecDepth 20000 in
set_option maxHeartbeats 2000000 in
theorem frame_no (kind place : Int) (a : Option Addr) (c : Nat) (body : List Nat) (w : World) (h : ¬ MayFrame kind place body) :
    Calls Try.prog 11 #[.int .i64 kind, .int .i64 place, .slice a body.length c] w (FrameIs kind place body w) := by
  have HF : Hid (FrameIs kind place body w (.returned (.tuple #[.slice none 0 0, .int .i64 1])) w) := Lib.hid ⟨Upd.refl _ _, .inr ⟨h, rfl⟩⟩
  rcases may_not h with h1 | ⟨h1, h2⟩ | ⟨h1, h2, h3⟩ | ⟨h1, h2, h3, h4⟩ | ⟨h1, h2, h3, h4, h5⟩
  all_goals
    clear h
    try rw [← decide_eq_true_eq (p := kind < 0)] at h1
    try rw [← decide_eq_true_eq (p := 255 < kind)] at h2
    try rw [← decide_eq_true_eq (p := place < 0)] at h3
    try rw [← decide_eq_true_eq (p := 1099511627776 < place)] at h4
    try rw [← decide_eq_true_eq (p := (1048576 : Int) < (body.length : Int))] at h5
    try rw [Bool.not_eq_true] at h1
    try rw [Bool.not_eq_true] at h2
    try rw [Bool.not_eq_true] at h3
    try rw [Bool.not_eq_true] at h4
    go_enter Try.func11, Try.ntmps11
    go_wp2_with fail
    go_ret2
    exact HF.out

set_option maxRecDepth 20000 in
set_option maxHeartbeats 2000000 in
theorem rframe_no (kind place : Int) (a : Option Addr) (c : Nat) (body : List Nat) (w : World) (h : ¬ MayFrame kind place body) :
    Calls Try.prog 12 #[.int .i64 kind, .int .i64 place, .slice a body.length c] w (FrameIs kind place body w) := by
  have HF : Hid (FrameIs kind place body w (.returned (.tuple #[.slice none 0 0, .int .i64 1])) w) := Lib.hid ⟨Upd.refl _ _, .inr ⟨h, rfl⟩⟩
  rcases may_not h with h1 | ⟨h1, h2⟩ | ⟨h1, h2, h3⟩ | ⟨h1, h2, h3, h4⟩ | ⟨h1, h2, h3, h4, h5⟩
  all_goals
    clear h
    try rw [← decide_eq_true_eq (p := kind < 0)] at h1
    try rw [← decide_eq_true_eq (p := 255 < kind)] at h2
    try rw [← decide_eq_true_eq (p := place < 0)] at h3
    try rw [← decide_eq_true_eq (p := 1099511627776 < place)] at h4
    try rw [← decide_eq_true_eq (p := (1048576 : Int) < (body.length : Int))] at h5
    try rw [Bool.not_eq_true] at h1
    try rw [Bool.not_eq_true] at h2
    try rw [Bool.not_eq_true] at h3
    try rw [Bool.not_eq_true] at h4
    go_enter Try.func12, Try.ntmps12
    go_wp2_with fail
    go_ret2
    exact HF.out

set_option maxRecDepth 20000 in
set_option maxHeartbeats 4000000 in
theorem rframe_yes (ok : Nat → Prop) (kind place : Nat) (a : Option Addr) (c : Nat) (body : List Nat) (w : World) (hb : Bytes w ok a body) (h : MayFrame kind place body) :
    Calls Try.prog 12 #[.int .i64 kind, .int .i64 place, .slice a body.length c] w (FrameIs kind place body w) := by
  obtain ⟨i5, hi5, hz0, hz1, hz2⟩ := infoU8
  have HM := Lib.hid h
  have HB := Lib.hid hb
  obtain ⟨g1, g2, g3, g4, g5⟩ := h
  clear hb
  have HBY : Hid (∀ x ∈ body, x < 256) := Lib.hid (fun x hx => by
    obtain ⟨i, hi⟩ := List.mem_iff_getElem?.1 hx
    exact (HB.out i x hi).1)
  have d1 : decide ((kind : Int) < 0) = false := by rw [decide_eq_false_iff_not]; omega
  have d2 : decide ((255 : Int) < (kind : Int)) = false := by rw [decide_eq_false_iff_not]; omega
  have d3 : decide ((place : Int) < 0) = false := by rw [decide_eq_false_iff_not]; omega
  have d4 : decide ((1099511627776 : Int) < (place : Int)) = false := by rw [decide_eq_false_iff_not]; omega
  have d5 : decide ((1048576 : Int) < (body.length : Int)) = false := by rw [decide_eq_false_iff_not]; omega
  go_enter Try.func12, Try.ntmps12
  go_wp2_with fail
  refine (rput_any w.heap.size (.slice none 0 0) [] body.length 4 _ (Row.nil _ _) (Nat.le_refl _) (by decide) (by simp) (by omega)).mono ?_
  rintro e w1 ⟨v1, rfl, r1, k1⟩
  have R1 := Lib.hid r1
  have K1 := Lib.hid k1
  have s1 := k1.size
  obtain ⟨a1, c1, rfl⟩ := r1.shape
  clear r1 k1
  go_wp2_with fail
  refine (rput_any w.heap.size _ _ kind 1 _ R1.out s1 (by decide) (by simp [be_len]) (by omega)).mono ?_
  rintro e w2 ⟨v2, rfl, r2, k2⟩
  have R2 := Lib.hid r2
  have K2 := Lib.hid (K1.out.trans k2)
  have s2 := (K1.out.trans k2).size
  obtain ⟨a2, c2, rfl⟩ := r2.shape
  clear r2 k2
  go_wp2_with fail
  refine (rput_any w.heap.size _ _ place 6 _ R2.out s2 (by decide) (by simp [be_len]) (by omega)).mono ?_
  rintro e w3 ⟨v3, rfl, r3, k3⟩
  have R3 := Lib.hid r3
  have K3 := Lib.hid (K2.out.trans k3)
  have s3 := (K2.out.trans k3).size
  have U3 := Lib.hid (Kp.upd (K2.out.trans k3))
  obtain ⟨hd, hhd⟩ : ∃ hd, hd = [] ++ be 4 body.length ++ be 1 kind ++ be 6 place := ⟨_, rfl⟩
  rw [← hhd] at R3
  have HHD := Lib.hid hhd
  obtain ⟨a3, c3, rfl⟩ := R3.out.shape
  have HL3 : Hid (hd.length = 11) := Lib.hid (by rw [hhd]; simp [be_len])
  clear r3 k3 hhd
  obtain ⟨v4, w4, hrun, hown, hg, hv⟩ := append_bytes (P := Try.prog) (ty := 22) (c := c) Try.underlying22 hi5 hz0 hz1 hz2 rfl R3.out (HB.out.upd U3.out (by simp)) (by have := HL3.out; omega) s3
  have R4 : Hid (Row w.heap.size w4 v4 (hd ++ body)) := Lib.hid (Row.mk hown)
  have K4 : Hid (Kp w.heap.size [] w w4) := Lib.hid (K3.out.trans (Row.grow R3.out hg))
  have HRUN := Lib.hid hrun
  obtain ⟨a4, c4, rfl⟩ := R4.out.shape
  clear hrun hown hg hv
  have hfrm : hd ++ body = frm kind place body := by
    rw [HHD.out]
    simp [frm, be, Nat.mod_eq_of_lt (show kind < 256 by omega)]
  have HFRM := Lib.hid hfrm
  clear hfrm
  rw [HFRM.out] at R4 HRUN
  obtain ⟨fr, hfr⟩ : ∃ fr, fr = frm kind place body := ⟨_, rfl⟩
  rw [← hfr] at R4 HRUN
  have HFR := Lib.hid hfr
  have HFL : Hid (fr.length = 11 + body.length) := Lib.hid (by rw [hfr]; exact frm_len _ _ _)
  clear hfr
  have HFB : Hid (∀ x ∈ fr, x < 256) := Lib.hid (by rw [HFR.out]; exact frm_byte ⟨by omega, by omega, by omega, HBY.out⟩)
  go_wp2_with (at_builtin; refine wpList_run rfl (exec_append (by rfl) (by rfl) (by rfl) HRUN.out) ?_)
  refine (rsum_any _ a4 c4 fr _ (R4.out.bytes HFB.out rfl) (by have := HFL.out; omega)).mono ?_
  rintro e w5 ⟨rfl, rfl⟩
  obtain ⟨n, hn⟩ : ∃ n, n = crc fr := ⟨_, rfl⟩
  have hn2 : n < 4294967296 := by rw [hn]; exact crc_lt HFB.out
  rw [← hn]
  have HN := Lib.hid hn
  clear hn
  go_wp2_with fail
  go_loopg [8, 10] 4 (fun g s t wr => ∃ (i : Nat), t = .int .i64 i ∧ 4 - i = g ∧ i ≤ 4 ∧ Row w.heap.size wr s (fr ++ (le4 n).take i) ∧ Kp w.heap.size [] w wr)
  case atStart => exact ⟨0, rfl, rfl, by omega, by simpa using R4.out, K4.out⟩
  case round =>
    obtain ⟨i, rfl, hg, hi, hR, hK⟩ := hrel
    have HG := Lib.hid hg
    have HK := Lib.hid hK
    have HR := Lib.hid hR
    have hsz := hK.size
    obtain ⟨a6, c6, rfl⟩ := hR.shape
    clear hg hR hK
    have hll : (fr ++ (le4 n).take i).length = 11 + body.length + i := by simp [le4, HFL.out]; omega
    obtain ⟨o', ho'⟩ : ∃ o', o' = fr ++ (le4 n).take i := ⟨_, rfl⟩
    rw [← ho'] at HR hll ⊢
    have HO := Lib.hid ho'
    clear ho'
    by_cases hlt : i < 4
    · have t1 : decide ((i : Int) < 4) = true := by simp; omega
      obtain ⟨x, hx⟩ : ∃ x, x = n / 256 ^ i % 256 := ⟨_, rfl⟩
      have hx2 : x < 256 := by omega
      have hsh : (n : Int) / 2 ^ (8 * i) % 256 = (x : Int) := by
        rw [hx, show (2 : Int) ^ (8 * i) = ((256 ^ i : Nat) : Int) by rw [show (256 : Nat) = 2 ^ 8 by rfl, ← Nat.pow_mul]; simp]
        omega
      have HX : Hid ((le4 n)[i]? = some x) := Lib.hid (by
        rw [hx]
        rcases (show i = 0 ∨ i = 1 ∨ i = 2 ∨ i = 3 by omega) with rfl | rfl | rfl | rfl <;> simp [le4])
      clear hx
      go_wp2_with (at_builtin; refine wpList_append_mine rfl (.tmp 46) (.tmp 52) 22 rfl w.heap.size 5 i5 (.int .u8 0) 1 1 Try.underlying22 hi5 hz0 hz1 hz2 rfl (by decide) (.slice a6 o'.length c6) o'.length (o'.map bv) rfl (World.ownsRow.alloc HR.out _) ⟨wr.heap.size, 0, none⟩ 1 1 [bv x] rfl rfl (Blk.news (Blk.new _ 5 [bv x])) (by simp [bv, Value.oneCell']) (by unfold maxLen; omega) (by omega) (by simp; omega) ?_; intro v' w11 ho hg hgb; have HR1 : Hid (Row w.heap.size w11 v' (o' ++ [x])) := Lib.hid (Row.mk (news := [x]) ho); have HK1 : Hid (Kp w.heap.size [] w w11) := Lib.hid ((HK.out.trans (Kp.of_nil ((Upd.refl _ _).alloc _))).trans (Row.grow (World.ownsRow.alloc HR.out _) hg)); clear ho hg hgb)
      go_roundg (4 - (i + 1))
      case measure => have := HG.out; omega
      case rel => exact ⟨i + 1, by go_num, rfl, by omega, by rw [take_snoc HX.out, ← List.append_assoc, ← HO.out]; exact HR1.out, HK1.out⟩
    · obtain rfl : i = 4 := by omega
      have HF : Hid (FrameIs kind place body w (.returned (.tuple #[.slice a6 o'.length c6, .int .i64 0])) wr) := Lib.hid ⟨HK.out.upd, .inl ⟨HM.out, _, rfl, by
        have e1 : frame ((kind : Int)).toNat ((place : Int)).toNat body = o' := by
          rw [HO.out, HN.out, HFR.out]
          simp [frame, le4]
        rw [e1]; exact HR.out⟩⟩
      go_wp2_with fail
      go_ret2
      exact HF.out

set_option maxRecDepth 20000 in
set_option maxHeartbeats 4000000 in
theorem frame_yes (ok : Nat → Prop) (kind place : Nat) (a0 : Option Addr) (c0 : Nat) (body : List Nat) (w : World) (hb : Bytes w ok a0 body) (h : MayFrame kind place body) :
    Calls Try.prog 11 #[.int .i64 kind, .int .i64 place, .slice a0 body.length c0] w (FrameIs kind place body w) := by
  obtain ⟨i5, hi5, hz0, hz1, hz2⟩ := infoU8
  have HM := Lib.hid h
  have HB := Lib.hid hb
  obtain ⟨g1, g2, g3, g4, g5⟩ := h
  clear hb
  have HBY : Hid (∀ x ∈ body, x < 256) := Lib.hid (fun x hx => by
    obtain ⟨i, hi⟩ := List.mem_iff_getElem?.1 hx
    exact (HB.out i x hi).1)
  have d1 : decide ((kind : Int) < 0) = false := by rw [decide_eq_false_iff_not]; omega
  have d2 : decide ((255 : Int) < (kind : Int)) = false := by rw [decide_eq_false_iff_not]; omega
  have d3 : decide ((place : Int) < 0) = false := by rw [decide_eq_false_iff_not]; omega
  have d4 : decide ((1099511627776 : Int) < (place : Int)) = false := by rw [decide_eq_false_iff_not]; omega
  have d5 : decide ((1048576 : Int) < (body.length : Int)) = false := by rw [decide_eq_false_iff_not]; omega
  obtain ⟨w1, hmk, hrow, hgr⟩ := run_make_own (P := Try.prog) w w.heap.size 22 5 i5 (.int .u8 0) 1 Try.underlying22 hi5 hz0 hz1 .i64 .i64 (11 + body.length + 4) (by rw [hz2]; omega) (by unfold maxLen; omega) (Nat.le_refl _)
  have e1 : (Instr.makeSlice 22 (.int .i64 0) (.int .i64 (11 + (body.length : Int) + 4))).run Try.prog w = .ok (.slice (some ⟨w.heap.size, 0, none⟩) 0 (11 + body.length + 4)) w1 := hmk
  have R1 : Hid (Row w.heap.size w1 (.slice (some ⟨w.heap.size, 0, none⟩) 0 (11 + body.length + 4)) []) := Lib.hid hrow
  have K1 : Hid (Kp w.heap.size [] w w1) := Lib.hid (Kp.of_nil ((Upd.refl _ _).grown hgr (by simp)))
  have s1 := K1.out.size
  clear hmk hrow hgr
  obtain ⟨y3, hy3⟩ : ∃ y, y = body.length / 256 ^ 3 % 256 := ⟨_, rfl⟩
  obtain ⟨y2, hy2⟩ : ∃ y, y = body.length / 256 ^ 2 % 256 := ⟨_, rfl⟩
  obtain ⟨y1, hy1⟩ : ∃ y, y = body.length / 256 ^ 1 % 256 := ⟨_, rfl⟩
  obtain ⟨y0, hy0⟩ : ∃ y, y = body.length / 256 ^ 0 % 256 := ⟨_, rfl⟩
  have q3 : (body.length : Int) / 16777216 = (y3 : Int) := by omega
  have q2 : (body.length : Int) / 65536 = (y2 : Int) := by omega
  have q1 : (body.length : Int) / 256 % 256 = (y1 : Int) := by omega
  have q0 : (body.length : Int) % 256 = (y0 : Int) := by omega
  have qk : (kind : Int) % 256 = (kind : Int) := by omega
  have HBE : Hid ([y3, y2, y1, y0] = be 4 body.length) := Lib.hid (by rw [hy3, hy2, hy1, hy0]; rfl)
  clear hy3 hy2 hy1 hy0
  go_enter Try.func11, Try.ntmps11
  go_wp2_with (at_builtin; refine wpList_append_mine rfl (.tmp 37) (.tmp 51) 22 rfl w.heap.size 5 i5 (.int .u8 0) 1 1 Try.underlying22 hi5 hz0 hz1 hz2 rfl (by decide) (.slice (some ⟨w.heap.size, 0, none⟩) 0 (11 + body.length + 4)) 0 [] rfl (World.ownsRow.alloc R1.out _) ⟨w1.heap.size, 0, none⟩ 5 5 ([y3, y2, y1, y0, kind].map bv) rfl rfl (Blk.news (Blk.new _ 5 ([y3, y2, y1, y0, kind].map bv))) (by simp [bv, Value.oneCell']) (by unfold maxLen; omega) (by omega) (by simp; omega) ?_; intro v2 w2 ho hg hgb; have R2 : Hid (Row w.heap.size w2 v2 [y3, y2, y1, y0, kind]) := Lib.hid (by simpa using Row.mk (o := []) (news := [y3, y2, y1, y0, kind]) ho); have K2 : Hid (Kp w.heap.size [] w w2) := Lib.hid ((K1.out.trans (Kp.of_nil ((Upd.refl _ _).alloc _))).trans (Row.grow (World.ownsRow.alloc R1.out _) hg)); clear ho hg hgb)
  clear q3 q2 q1 q0 qk e1
  go_loopg [9, 10] 6 (fun g s t wr => ∃ (i : Nat) (o' : List Nat), t = .int .i64 (8 * (i : Int) - 8) ∧ i = g ∧ i ≤ 6 ∧ o' ++ be i place = [y3, y2, y1, y0, kind] ++ be 6 place ∧ Row w.heap.size wr s o' ∧ Kp w.heap.size [] w wr)
  case atStart => exact ⟨6, _, rfl, rfl, by omega, rfl, R2.out, K2.out⟩
  case round =>
    obtain ⟨i, o', rfl, hg, hi, he, hR, hK⟩ := hrel
    have HG := Lib.hid hg
    have HE := Lib.hid he
    have HR := Lib.hid hR
    have HK := Lib.hid hK
    have hlen : o'.length ≤ 100 := by
      have := congrArg List.length he
      simp only [List.length_append, be_len] at this
      simp at this
      omega
    obtain ⟨a, c, rfl⟩ := hR.shape
    clear hg he hR hK
    have hsz := HK.out.size
    cases i with
    | succ m =>
      rw [show 8 * ((m + 1 : Nat) : Int) - 8 = 8 * (m : Int) by omega]
      obtain ⟨x, hx⟩ : ∃ x, x = place / 256 ^ m % 256 := ⟨_, rfl⟩
      have hx2 : x < 256 := by omega
      have hsh : (place : Int) / 2 ^ (8 * m) % 256 = (x : Int) := by
        rw [hx, show (2 : Int) ^ (8 * m) = ((256 ^ m : Nat) : Int) by rw [show (256 : Nat) = 2 ^ 8 by rfl, ← Nat.pow_mul]; simp]
        omega
      have HX := Lib.hid hx
      clear hx
      go_wp2_with (at_builtin; refine wpList_append_mine rfl (.tmp 57) (.tmp 62) 22 rfl w.heap.size 5 i5 (.int .u8 0) 1 1 Try.underlying22 hi5 hz0 hz1 hz2 rfl (by decide) (.slice a o'.length c) o'.length (o'.map bv) rfl (World.ownsRow.alloc HR.out _) ⟨wr.heap.size, 0, none⟩ 1 1 [bv x] rfl rfl (Blk.news (Blk.new _ 5 [bv x])) (by simp [bv, Value.oneCell']) (by unfold maxLen; omega) (by omega) (by simp; omega) ?_; intro v' w11 ho hg hgb; have HR1 : Hid (Row w.heap.size w11 v' (o' ++ [x])) := Lib.hid (Row.mk (news := [x]) ho); have HK1 : Hid (Kp w.heap.size [] w w11) := Lib.hid ((HK.out.trans (Kp.of_nil ((Upd.refl _ _).alloc _))).trans (Row.grow (World.ownsRow.alloc HR.out _) hg)); clear ho hg hgb)
      go_roundg m
      case measure => have := HG.out; omega
      case rel => exact ⟨m, o' ++ [x], by go_num, rfl, by omega, by have := HE.out; rw [← this, HX.out, be]; simp, HR1.out, HK1.out⟩
    | zero =>
      rw [show 8 * ((0 : Nat) : Int) - 8 = -8 by rfl]
      have ho' : o' = [y3, y2, y1, y0, kind] ++ be 6 place := by have := HE.out; simpa [be] using this
      have HO := Lib.hid ho'
      clear ho'
      obtain ⟨v4, w4, hrun, hown, hg, hv⟩ := append_bytes (P := Try.prog) (ty := 22) (c := c0) Try.underlying22 hi5 hz0 hz1 hz2 rfl HR.out (HB.out.upd (Kp.upd HK.out) (by simp)) (by omega) hsz
      have R4 : Hid (Row w.heap.size w4 v4 (o' ++ body)) := Lib.hid (Row.mk hown)
      have K4 : Hid (Kp w.heap.size [] w w4) := Lib.hid (HK.out.trans (Row.grow HR.out hg))
      have HRUN := Lib.hid hrun
      obtain ⟨a4, c4, rfl⟩ := R4.out.shape
      clear hrun hown hg hv
      have HFRM : Hid (o' ++ body = frm kind place body) := Lib.hid (by
        rw [HO.out]
        unfold frm
        rw [← HBE.out]
        simp)
      rw [HFRM.out] at R4 HRUN
      obtain ⟨fr, hfr⟩ : ∃ fr, fr = frm kind place body := ⟨_, rfl⟩
      rw [← hfr] at R4 HRUN
      have HFR := Lib.hid hfr
      have HFL : Hid (fr.length = 11 + body.length) := Lib.hid (by rw [hfr]; exact frm_len _ _ _)
      clear hfr
      have HFB : Hid (∀ x ∈ fr, x < 256) := Lib.hid (by rw [HFR.out]; exact frm_byte ⟨by omega, by omega, by omega, HBY.out⟩)
      have s4 := K4.out.size
      go_wp2_with (at_builtin; refine wpList_run rfl (exec_append (by rfl) (by rfl) (by rfl) HRUN.out) ?_)
      refine (sum_any _ a4 c4 fr _ (R4.out.bytes HFB.out rfl) (by have := HFL.out; omega)).mono ?_
      rintro e w5 ⟨rfl, u5⟩
      obtain ⟨n, hn⟩ : ∃ n, n = crc fr := ⟨_, rfl⟩
      have hn2 : n < 4294967296 := by rw [hn]; exact crc_lt HFB.out
      rw [← hn]
      have HN := Lib.hid hn
      have U5 := Lib.hid u5
      have s5 := u5.size
      clear hn u5
      have R5 : Hid (Row w.heap.size w5 (.slice a4 fr.length c4) fr) := Lib.hid (U5.out.row R4.out (by simp))
      have K5 : Hid (Kp w.heap.size [] w w5) := Lib.hid (K4.out.trans (Kp.of_nil U5.out))
      go_wp2_with (first | (refine wpList_alloc_blk rfl 82 rfl [bv 0, bv 0, bv 0, bv 0] (zero4 _) ?_; intro w6 h6 u6) | (refine wpList_store_blk (o := ⟨none, .store 82 (.tmp 11) (.tmp 68), _, _, _, _⟩) rfl 82 (.tmp 11) (.tmp 68) rfl w5.heap.size ((le4 n).map bv) rfl rfl h6 sum4 rfl (le4_one n) ?_; intro w7 h7 u7; have R7 : Hid (Row w.heap.size w7 (.slice a4 fr.length c4) fr) := Lib.hid (u7.row (u6.row R5.out (by simp)) (fun k hk => by have := own_lo R5.out hk; rw [List.mem_singleton]; omega)); have K7 : Hid (Kp w.heap.size [] w w7) := Lib.hid ((K5.out.trans (Kp.of_nil u6)).trans (Kp.of_upd u7 (by simp; omega))); have s7 := K7.out.size; have h7' := Lib.hid h7; clear h6 u6 h7 u7) | (at_builtin; refine wpList_append_mine rfl (.tmp 69) (.tmp 70) 22 rfl w.heap.size 5 i5 (.int .u8 0) 1 1 Try.underlying22 hi5 hz0 hz1 hz2 rfl (by decide) (.slice a4 fr.length c4) fr.length (fr.map bv) rfl R7.out ⟨w5.heap.size, 0, none⟩ 4 4 ((le4 n).map bv) rfl rfl h7'.out.news (le4_one n) (by have := HFL.out; unfold maxLen; omega) (by have := HFL.out; omega) s7 ?_; intro v8 w8 ho hg hgb; have R8 : Hid (Row w.heap.size w8 v8 (fr ++ le4 n)) := Lib.hid (Row.mk (news := le4 n) ho); have K8 : Hid (Kp w.heap.size [] w w8) := Lib.hid (K7.out.trans (Row.grow R7.out hg)); clear ho hg hgb))
      have HF : Hid (FrameIs kind place body w (.returned (.tuple #[v8, .int .i64 0])) w8) := Lib.hid ⟨K8.out.upd, .inl ⟨HM.out, _, rfl, by
        have e1 : frame ((kind : Int)).toNat ((place : Int)).toNat body = fr ++ le4 n := by
          rw [HN.out, HFR.out]; rfl
        rw [e1]; exact R8.out⟩⟩
      go_ret2
      exact HF.out

theorem frame_any (ok : Nat → Prop) (kind place : Int) (a : Option Addr) (c : Nat) (body : List Nat) (w : World) (hb : Bytes w ok a body) :
    Calls Try.prog 11 #[.int .i64 kind, .int .i64 place, .slice a body.length c] w (FrameIs kind place body w) := by
  by_cases h : MayFrame kind place body
  · obtain ⟨k, rfl⟩ := Int.eq_ofNat_of_zero_le h.1
    obtain ⟨p, rfl⟩ := Int.eq_ofNat_of_zero_le h.2.2.1
    exact frame_yes ok k p a c body w hb h
  · exact frame_no kind place a c body w h
theorem rframe_any (ok : Nat → Prop) (kind place : Int) (a : Option Addr) (c : Nat) (body : List Nat) (w : World) (hb : Bytes w ok a body) :
    Calls Try.prog 12 #[.int .i64 kind, .int .i64 place, .slice a body.length c] w (FrameIs kind place body w) := by
  by_cases h : MayFrame kind place body
  · obtain ⟨k, rfl⟩ := Int.eq_ofNat_of_zero_le h.1
    obtain ⟨p, rfl⟩ := Int.eq_ofNat_of_zero_le h.2.2.1
    exact rframe_yes ok k p a c body w hb h
  · exact rframe_no kind place a c body w h
end Go.Proofs.Ythecincpejpmpaa
/- Parts of bytes; bytes compared as arrays; what Unframe tells. -/
namespace Go.Rc
open Go Go.RowKit Go.Lb
def suba (a : Option Addr) (lo c : Nat) : Option Addr := if c = lo then a else a.map (·.add (lo * 1))
section
variable {P : Program} {w : World} {t e : TypeId} {i : TypeInfo} (ht : P.underlying t = some (.slice (P.elem t))) (he : P.elem t = e) (hi : P.info? e = some i) (h1 : i.size = 1)
include ht he hi h1
theorem sub_lh {a : Option Addr} {n c lo k : Nat} {x y : Int} (hx : x = (lo : Int)) (hy : y = (lo : Int) + (k : Int)) (hh : lo + k ≤ c) :
    (Instr.sliceAt t (.slice a n c) (some (.int .i64 x)) (some (.int .i64 y)) none).run P w = .ok (.slice (suba a lo c) k (c - lo)) w := by
  subst hx
  obtain rfl : y = ((lo + k : Nat) : Int) := by omega
  rw [run_sliceAt_slice _ _ _ _ _ _ ht, run_slice_lh w t a n c ht .i64 .i64 (lo : Int) ((lo + k : Nat) : Int) (by omega) (by omega) (by omega), he, sizeOf_run hi, h1]
  simp only [Result.andThen, sliced, suba, Int.toNat_natCast]
  rw [Nat.add_sub_cancel_left]
theorem sub_l {a : Option Addr} {n c lo : Nat} {x : Int} (hx : x = (lo : Int)) (hl : lo ≤ n) :
    (Instr.sliceAt t (.slice a n c) (some (.int .i64 x)) none none).run P w = .ok (.slice (suba a lo c) (n - lo) (c - lo)) w := by
  subst hx
  rw [run_sliceAt_slice _ _ _ _ _ _ ht, run_slice_l w t a n c ht .i64 (lo : Int) (by omega) (by omega), he, sizeOf_run hi, h1]
  simp [Result.andThen, sliced, suba]
theorem sub_h {a : Option Addr} {n c up : Nat} {y : Int} (hy : y = (up : Int)) (hh : up ≤ c) :
    (Instr.sliceAt t (.slice a n c) none (some (.int .i64 y)) none).run P w = .ok (.slice (suba a 0 c) up c) w := by
  subst hy
  rw [run_sliceAt_slice _ _ _ _ _ _ ht, run_slice_h w t a n c ht .i64 (up : Int) (by omega) (by omega), he, sizeOf_run hi, h1]
  simp [Result.andThen, sliced, suba]
end
section
variable {P : Program} {w : World} {o : Oper} {a : Act}
theorem exec_bin {b : BinOp} {t s : TypeId} {x y : Operand} {u v r : Value} (ho : o.op = .binOp b t x y s) (hx : a.eval x = u) (hy : a.eval y = v) (hg : (eqGuard b t x y u v).run P w = .ok () w) (hr : (binOp b t u v).run P w = .ok r w) : (execOp a.eval o).run P w = .ok (.value r) w := by
  subst hx hy
  unfold execOp
  simp only [ho, Sem.run_bind, hg, hr, Result.andThen_ok, Sem.run_pure]
theorem exec_toArray {t : TypeId} {x : Operand} {u r : Value} (ho : o.op = .sliceToArrayPointer t x) (hx : a.eval x = u) (hr : (Instr.arrayAt t u).run P w = .ok r w) : (execOp a.eval o).run P w = .ok (.value r) w := by
  subst hx
  unfold execOp
  simp only [ho, Sem.run_bind, hr, Result.andThen_ok, Sem.run_pure]
theorem results_tmp5 {fn : Func} {t u v x y : Tmp} (h : fn.results = #[.tmp t, .tmp u, .tmp v, .tmp x, .tmp y]) (tmps : Array Value) (P : Program) (w : World) :
    (results fn tmps).run P w = .ok (.tuple #[tmps.getD t undef, tmps.getD u undef, tmps.getD v undef, tmps.getD x undef, tmps.getD y undef]) w := by
  simp [results, h]
end
theorem suba_bytes {w : World} {ok : Nat → Prop} {a : Option Addr} {c : Nat} {l : List Nat} (h : Bytes w ok a l) (lo k : Nat) (hc : l.length ≤ c) : Bytes w ok (suba a lo c) ((l.drop lo).take k) := by
  intro j x hx
  rw [List.getElem?_take] at hx
  split at hx
  · rw [List.getElem?_drop] at hx
    have hj := (List.getElem?_eq_some_iff.1 hx).1
    obtain ⟨h1, b, o, h2, h3, h4, h5⟩ := h _ x hx
    refine ⟨h1, b, o + lo, ?_, h3, h4, ?_⟩
    · rw [suba, if_neg (by omega), h2]; simp [Addr.add]
    · rw [← h5]; congr 2; omega
  · cases hx
theorem suba_from {w : World} {ok : Nat → Prop} {a : Option Addr} {c : Nat} {l : List Nat} (h : Bytes w ok a l) (lo : Nat) (hc : l.length ≤ c) : Bytes w ok (suba a lo c) (l.drop lo) := by
  have := suba_bytes h lo l.length hc
  rwa [List.take_of_length_le (by simp)] at this
theorem suba_to {w : World} {ok : Nat → Prop} {a : Option Addr} {c : Nat} {l : List Nat} (h : Bytes w ok a l) (k : Nat) (hc : l.length ≤ c) : Bytes w ok (suba a 0 c) (l.take k) := by
  have := suba_bytes h 0 k hc
  simpa using this
theorem bytes_range {w : World} {ok : Nat → Prop} {a : Option Addr} {l : List Nat} (h : Bytes w ok a l) (hn : l ≠ []) : ∃ b o, a = some ⟨b, o, none⟩ ∧ ok b ∧ b < w.heap.size ∧ w.rangeAt b o (l.map bv) := by
  obtain ⟨x, r, rfl⟩ := List.exists_cons_of_ne_nil hn
  obtain ⟨h1, b, o, rfl, h3, h4, h5⟩ := h 0 x rfl
  refine ⟨b, o, rfl, h3, h4, fun j v hj => ?_⟩
  rw [List.getElem?_map] at hj
  obtain ⟨y, hy, rfl⟩ := Option.map_eq_some_iff.1 hj
  obtain ⟨_, b', o', e, _, _, k5⟩ := h j y hy
  cases e
  exact k5
theorem bv_cell : ∀ {l : List Nat}, (∀ x ∈ l, x < 256) → l.map bv = (l.map UInt8.ofNat).map Extern.Stop.cell
  | [], _ => rfl
  | x :: l, h => by
    have hx := h x (by simp)
    have ih := bv_cell (l := l) (fun y hy => h y (by simp [hy]))
    rw [List.map_cons, List.map_cons, List.map_cons, ih]
    congr 1
    simp [bv, Extern.Stop.cell, Nat.mod_eq_of_lt hx]
theorem u8_beq : ∀ {l m : List Nat}, (∀ x ∈ l, x < 256) → (∀ x ∈ m, x < 256) → ((l.map UInt8.ofNat) == (m.map UInt8.ofNat)) = (l == m)
  | [], [], _, _ => rfl
  | [], _ :: _, _, _ => rfl
  | _ :: _, [], _, _ => rfl
  | x :: l, y :: m, h, k => by
    have hx := h x (by simp)
    have hy := k y (by simp)
    have ih := u8_beq (l := l) (m := m) (fun z hz => h z (by simp [hz])) (fun z hz => k z (by simp [hz]))
    rw [List.map_cons, List.map_cons, List.cons_beq_cons, List.cons_beq_cons, ih]
    congr 1
    rw [Bool.eq_iff_iff]
    simp only [beq_iff_eq]
    rw [← UInt8.toNat_inj]
    simp [Nat.mod_eq_of_lt hx, Nat.mod_eq_of_lt hy]
theorem neq_bytes {P : Program} (w : World) {t e : TypeId} {n : Nat} (ht : P.underlying t = some (.array n e)) (he : P.underlying e = some (.int .u8)) (hsz : ∀ w, (sizeOf e).run P w = .ok 1 w) {l m : List Nat} (hl : ∀ x ∈ l, x < 256) (hm : ∀ x ∈ m, x < 256) (h1 : l.length = n) (h2 : m.length = n) :
    (binOp .neq t (.agg (l.map bv).toArray) (.agg (m.map bv).toArray)).run P w = .ok (.bool (!(l == m))) w := by
  have := run_equalIn_bytes w 9998 t e n ht he hsz (l.map UInt8.ofNat) (m.map UInt8.ofNat) (by simpa using h1) (by simpa using h2)
  rw [← bv_cell hl, ← bv_cell hm, u8_beq hl hm] at this
  simp only [binOp]
  simp [Op.equal, Op.maxDepth, this]
end Go.Rc
namespace Go.Proofs.Ythecincpejpmpaa
open Go.RowKit Go.Lb Go.Rc Go.Crc
def UnIs (l : List Nat) (w : World) (e : Ending) (w' : World) : Prop := Upd [] w w' ∧ match find l with
  | .torn => e = .returned (.tuple #[.int .i64 0, .int .i64 0, .slice none 0 0, .int .i64 0, .int .i64 0])
  | .wrong => e = .returned (.tuple #[.int .i64 0, .int .i64 0, .slice none 0 0, .int .i64 0, .int .i64 10])
  | .whole k p body => ∃ v, e = .returned (.tuple #[.int .i64 (k : Int), .int .i64 (p : Int), v, .int .i64 (15 + (body.length : Int)), .int .i64 0]) ∧ Row w.heap.size w' v body
theorem UnIs.torn {l : List Nat} {w w' : World} (h : find l = .torn) (u : Upd [] w w') : UnIs l w (.returned (.tuple #[.int .i64 0, .int .i64 0, .slice none 0 0, .int .i64 0, .int .i64 0])) w' := ⟨u, by rw [h]⟩
theorem UnIs.wrong {l : List Nat} {w w' : World} (h : find l = .wrong) (u : Upd [] w w') : UnIs l w (.returned (.tuple #[.int .i64 0, .int .i64 0, .slice none 0 0, .int .i64 0, .int .i64 10])) w' := ⟨u, by rw [h]⟩
theorem UnIs.whole {l : List Nat} {w w' : World} {k p : Nat} {body : List Nat} {v : Value} (h : find l = .whole k p body) (u : Upd [] w w') (hr : Row w.heap.size w' v body) : UnIs l w (.returned (.tuple #[.int .i64 (k : Int), .int .i64 (p : Int), v, .int .i64 (15 + (body.length : Int)), .int .i64 0])) w' := ⟨u, by rw [h]; exact ⟨v, rfl, hr⟩⟩
theorem size_u8 {i : TypeInfo} (hi : Try.prog.info? 5 = some i) (h : i.size = 1) (w : World) : (Go.sizeOf 5).run Try.prog w = .ok 1 w := by rw [sizeOf_run hi, h]
end Go.Proofs.Ythecincpejpmpaa
/- What writing and reading a whole record say. -/
namespace Go.Proofs.Ythecincpejpmpaa
open Go.RowKit Go.Lb Go.Rc
theorem _root_.Go.Rc.Bytes.mono' {w : World} {n : Nat} {a : Option Addr} {l : List Nat} (h : Bytes w (· < n) a l) (hn : n ≤ w.heap.size) : Bytes w (· < w.heap.size) a l :=
  h.keep (fun k hk hl => ⟨hl, rfl⟩) (Nat.le_refl _)
/-- A record is written: its bytes are new, or it may not be. -/
def PutIs (s : Sch) (v : Val) (w : World) (e : Ending) (w' : World) : Prop := Upd [] w w' ∧
  ((s.good v ∧ ∃ a c, e = .returned (.tuple #[.slice a (s.put v).length c, .int .i64 0]) ∧ w'.ownsRow w.heap.size 5 1 (.slice a (s.put v).length c) (s.put v).length ((s.put v).map bv)) ∨
   (¬ s.good v ∧ e = .returned (.tuple #[.slice none 0 0, .int .i64 1])))
/-- Function K writes records of shape s. -/
def Puts (K : Nat) (s : Sch) : Prop := ∀ (cs : List Value) (v : Val) (w : World), s.Rep w (· < w.heap.size) cs v → s.wmax v ≤ 1099511627776 → Calls Try.prog K #[.agg cs.toArray] w (PutIs s v w)
/-- Function K of codec writes records of shape s. -/
def PutsC (K : Nat) (s : Sch) : Prop := ∀ (cs : List Value) (v : Val) (w : World), s.Rep w (· < w.heap.size) cs v → s.cmax v ≤ 225000000000000 → Calls Try.prog K #[.agg cs.toArray] w (PutIs s v w)
/-- Bytes are read as a record. -/
def GetIs (s : Sch) (l : List Nat) (w : World) (e : Ending) (w' : World) : Prop := Upd [] w w' ∧
  ∃ cs v r, e = .returned (.tuple #[.agg cs.toArray, .bool r]) ∧ s.Rep w' (Nw w.heap.size w') cs v ∧ (r = true → s.get l = some (v, [])) ∧ (r = false → (∀ v', s.get l ≠ some (v', [])) ∧ v = s.zero)
def Gets (K : Nat) (s : Sch) : Prop := ∀ (a : Option Addr) (c : Nat) (l : List Nat) (w : World), Bytes w (· < w.heap.size) a l → l.length ≤ c ∧ c ≤ maxLen → Calls Try.prog K #[.slice a l.length c] w (GetIs s l w)
theorem kp_up {B : Nat} {X : List Nat} {w W w' : World} (h : Kp B X W w') (u : Upd [] w W) (hB : w.heap.size = B) : Upd [] w w' :=
  ⟨h.os.trans u.os, h.tape.trans u.tape, h.output.trans u.output, Nat.le_trans u.size h.size, fun k hk _ => (h.block k (Nat.lt_of_lt_of_le hk u.size) (.inl (by omega))).trans (u.block k hk (by simp))⟩
theorem own_rebase {w : World} {b1 b2 n sz : Nat} {e : TypeId} {v : Value} {xs : List Value} (h : w.ownsRow b1 e sz v n xs) (hb : ∀ k, v.ownBlock = some k → b2 ≤ k) : w.ownsRow b2 e sz v n xs := by
  refine ⟨h.1, ?_⟩
  rcases h.2 with h2 | ⟨g, cap, cur, rfl, h1, rest⟩
  · exact .inl h2
  · exact .inr ⟨g, cap, cur, rfl, hb g rfl, rest⟩
theorem putIs_good {T : TypeId} {mk : Value → Bool → List Value} {s : Sch} {v : Val} {w W w' : World} {f : Nat} {X : List Nat} {o : List Nat} (h1 : St T 5 mk w.heap.size X w' f o false) (h2 : Kp w.heap.size X W w') (u : Upd [] w W) {m : Nat} (h3 : WOk (s.good v) (s.put v) m [] false o false) :
    ∃ a c, w'.cell? ⟨f, 0, none⟩ = ((mk (.slice a (s.put v).length c) false)[0]?) ∧ PutIs s v w (.returned (.tuple #[.slice a (s.put v).length c, .int .i64 0])) w' := by
  obtain ⟨_, vb, hO, hs⟩ := h1
  have ho : o = s.put v := by simpa using h3.out rfl
  subst ho
  obtain ⟨a, c, rfl⟩ := own_shape hO.row
  refine ⟨a, c, ?_, kp_up h2 u rfl, .inl ⟨(h3.bad.1 rfl).2, a, c, rfl, own_rebase hO.row (fun k hk => (hs k (by simp [hk])).1)⟩⟩
  have hb := hO.blk
  unfold Blk at hb
  simp [World.cell?, hb]
theorem putIs_bad {s : Sch} {v : Val} {w W w' : World} {X : List Nat} {o : List Nat} (h2 : Kp w.heap.size X W w') (u : Upd [] w W) {m : Nat} (h3 : WOk (s.good v) (s.put v) m [] false o true) :
    PutIs s v w (.returned (.tuple #[.slice none 0 0, .int .i64 1])) w' :=
  ⟨kp_up h2 u rfl, Or.inr ⟨fun hg => absurd (h3.bad.2 ⟨rfl, hg⟩) (by decide), rfl⟩⟩
theorem fresh_out {T : TypeId} {mk : Value → Bool → List Value} {w : World} {p : Nat} {A : Obj} (hp : p = w.heap.size) : St T 5 mk w.heap.size [p] ((w.alloc A).alloc (.cells (mk (.slice none 0 0) false).toArray T)) (w.heap.size + 1) [] false := by
  subst hp
  refine ⟨by simp; omega, .slice none 0 0, ⟨Blk.new2 w A T _, ⟨rfl, .inl ⟨rfl, rfl⟩⟩, by simp [Value.ownBlock], by simp⟩, fun k hk => ?_⟩
  simp [Value.ownBlock] at hk
  subst hk
  simp
end Go.Proofs.Ythecincpejpmpaa
