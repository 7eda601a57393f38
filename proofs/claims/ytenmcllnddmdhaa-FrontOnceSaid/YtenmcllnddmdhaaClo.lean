/- What Applied asks of each who waits: a put into the mailbox if index and term are the entry's. -/
import Derived.Test.YtenmcllnddmdhaaNew
set_option linter.unusedVariables false
set_option linter.unusedSimpArgs false
namespace Go.Proofs.Ytenmcllnddmdhaa
open Go.RowKit Go.Lb Go.Conc

/-- A put, as far as there is room. -/
def putQ {α : Type} (room : Nat) (q : List α) (d : α) : List α := if q.length < room then q ++ [d] else q

theorem putQ_map {α β : Type} (g : α → β) (room : Nat) (q : List α) (d : α) : (putQ room q d).map g = putQ room (q.map g) (g d) := by
  unfold putQ
  by_cases h : q.length < room <;> simp [h]

theorem box_put_any (b c room : Nat) (q : List Value) (ds : List Value) (w : World) (h : BoxAt w b c room q) (hds : ds.length = 35) :
    Calls Try.prog 22 #[.pointer (some ⟨b, 0, none⟩), .agg ds.toArray] w fun e w' => ∃ r, e = .returned (.bool r) ∧ BoxAt w' b c room (putQ room q (.agg ds.toArray)) ∧ Upd [c] w w' := by
  by_cases hr : q.length < room
  · refine (box_put_room b c room q ds w h hds hr).mono ?_
    rintro e w' ⟨rfl, h1, h2⟩
    exact ⟨_, rfl, by simpa [putQ, hr] using h1, h2⟩
  · refine (box_put_full b c room q ds w h hds (by omega)).mono ?_
    rintro e w' ⟨rfl, h2⟩
    exact ⟨_, rfl, by simpa [putQ, hr] using h.upd h2 (by simp) (by simp), h2.mono (by simp)⟩

def entL (ix tm : Int) : List Value := .int .i64 ix :: .int .i64 tm :: cmdTail
theorem Try.size47 : (Try.prog.info? 47).map (·.size) = some 29 := by kernel_rfl
theorem Try.size49 : (Try.prog.info? 49).map (·.size) = some 3 := by kernel_rfl
theorem build51 (x : List Value) (n c ix k val : Int) (w : World) : (Instr.build 51 #[(0, .agg (whoL n c).toArray), (1, .int .i64 ix), (2, .agg #[.int .i64 k, .int .i64 val, .slice none 0 0])]).run Try.prog w = .ok (.agg (doneL (whoL n c) ix k val (.slice none 0 0)).toArray) w := by kernel_rfl

/-- What the closure has taken hold of. -/
structure Env (w : World) (pe pf pr f b c : Nat) (ix tm val : Int) : Prop where
  ne : c ≠ pe ∧ c ≠ pf ∧ c ≠ pr ∧ c ≠ f
  be : Blk w pe 47 (entL ix tm)
  bf : Blk w pf 23 [.pointer (some ⟨f, 0, none⟩)]
  br : Blk w pr 49 [.int .i64 0, .int .i64 val, .slice none 0 0]
  fb : ∃ v0 v1 v2 v3 v4, Blk w f 79 [v0, v1, v2, v3, v4, .pointer (some ⟨b, 0, none⟩)]
theorem Env.upd {w w' : World} {pe pf pr f b c : Nat} {ix tm val : Int} (h : Env w pe pf pr f b c ix tm val) {G : List Nat} (u : Upd G w w') (h1 : pe ∉ G) (h2 : pf ∉ G) (h3 : pr ∉ G) (h4 : f ∉ G) : Env w' pe pf pr f b c ix tm val := by
  obtain ⟨v0, v1, v2, v3, v4, hf⟩ := h.fb
  exact ⟨h.ne, u.blk h.be h1, u.blk h.bf h2, u.blk h.br h3, _, _, _, _, _, u.blk hf h4⟩

set_option maxRecDepth 100000 in
set_option maxHeartbeats 3200000 in
theorem clo_put (pe pf pr f b c : Nat) (ix tm val : Int) (q : List Value) (n cl : Int) (w : World) (h : Env w pe pf pr f b c ix tm val) (hb : BoxAt w b c 256 q) :
    Calls Try.prog 21 #[.agg (Wt.vals ⟨n, cl, ix, tm⟩).toArray, .pointer (some ⟨pe, 0, none⟩), .pointer (some ⟨pf, 0, none⟩), .pointer (some ⟨pr, 0, none⟩)] w fun e w' =>
      e = .returned (.bool true) ∧ BoxAt w' b c 256 (putQ 256 q (Dn.val' ⟨n, cl, ix, val, .slice none 0 0⟩)) ∧ Upd [c] w w' := by
  have HX := Blk.new w 81 (Wt.vals ⟨n, cl, ix, tm⟩)
  have hu := (Upd.refl [] w).alloc (.cells (Wt.vals ⟨n, cl, ix, tm⟩).toArray 81)
  have hE := h.upd hu (by simp) (by simp) (by simp) (by simp)
  have hBx := hb.upd hu (by simp) (by simp)
  have x31 := HX.cell (o := 31) rfl
  have x32 := HX.cell (o := 32) rfl
  have e0 := hE.be.cell (o := 0) rfl
  have e1 := hE.be.cell (o := 1) rfl
  have HE := Lib.hid hE
  have HB := Lib.hid hBx
  have HU := Lib.hid hu
  have HR : Hid (∀ w', Upd [c] (w.alloc (.cells (Wt.vals ⟨n, cl, ix, tm⟩).toArray 81)) w' → w'.cell? ⟨pf, 0, none⟩ = some (.pointer (some ⟨f, 0, none⟩)) ∧ w'.cell? ⟨f, 5, none⟩ = some (.pointer (some ⟨b, 0, none⟩)) ∧ w'.cell? ⟨pe, 0, none⟩ = some (.int .i64 ix) ∧
      w'.cell? ⟨pr, 0, none⟩ = some (.int .i64 0) ∧ w'.cell? ⟨pr, 1, none⟩ = some (.int .i64 val) ∧ w'.cell? ⟨pr, 2, none⟩ = some (.slice none 0 0)) := by
    refine Lib.hid fun w' u => ?_
    obtain ⟨v0, v1, v2, v3, v4, hf⟩ := hE.fb
    obtain ⟨n1, n2, n3, n4⟩ := hE.ne
    have hbr := u.blk hE.br (by simpa using Ne.symm n3)
    exact ⟨(u.blk hE.bf (by simpa using Ne.symm n2)).cell rfl, (u.blk hf (by simpa using Ne.symm n4)).cell rfl, (u.blk hE.be (by simpa using Ne.symm n1)).cell rfl, hbr.cell rfl, hbr.cell rfl, hbr.cell rfl⟩
  have hcl : c < w.heap.size := by obtain ⟨s, r, hc⟩ := hb.ch; exact lt_of_block hc
  have HW : Hid (∀ w', Upd [c] (w.alloc (.cells (Wt.vals ⟨n, cl, ix, tm⟩).toArray 81)) w' → w'.rangeAt w.heap.size 0 (whoL n cl)) :=
    Lib.hid fun w' u => (u.blk HX (by simp; omega)).rangeIn 0 (whoL n cl) (fun j v hj => by
      rw [Nat.zero_add]
      simp only [Wt.vals]
      rw [List.getElem?_append_left (List.getElem?_eq_some_iff.1 hj).1]
      exact hj)
  have HX31 : Hid (∀ w', Upd [c] (w.alloc (.cells (Wt.vals ⟨n, cl, ix, tm⟩).toArray 81)) w' → w'.cell? ⟨w.heap.size, 31, none⟩ = some (.int .i64 ix)) := Lib.hid fun w' u => (u.blk HX (by simp; omega)).cell rfl
  clear h hb hE hBx hu hcl
  go_enter Try.func21, Try.ntmps21
  go_wp2_with fail
  clear HX x31 x32 e0 e1
  generalize w.alloc (.cells (Wt.vals ⟨n, cl, ix, tm⟩).toArray 81) = wA at *
  refine wp_region_lex (fun w' => Upd [c] wA w') 99 [(0, true), (1, true), (2, true), (3, true), (4, true), (5, true), (6, true), (7, true), (8, true), (9, false), (10, true), (11, false)] (by kernel_rfl) (by kernel_rfl) (by kernel_rfl) (by kernel_rfl) (fun _ _ d _ _ h => by cases d <;> exact h) ?_
  simp only [lexOps, List.map_cons, List.map_nil, List.getD_cons_zero, List.getD_cons_succ]
  have hS0 : Upd [c] wA wA.drew := (Upd.refl _ _).drew
  iterate 5 (refine lex_read rfl (by assumption) (v := ?_) (fun w' hw => ?_) ?_; rotate_left; (focus (obtain ⟨k1, k2, k3, k4, k5, k6⟩ := HR.out w' hw; go_simp; try with_reducible rfl)); simp only [Act.put, List.setIfInBounds_toArray, List.set_cons_zero, List.set_cons_succ])
  refine lex_read rfl (by exact hS0) (fun w' hw => exec_load (by rfl) (by rfl) (run_loadAt_mid w' w.heap.size 0 44 (whoL n cl) _ (HW.out w' hw) Try.underlying44 rfl (by exact Try.size44))) ?_
  try simp only [Act.put, List.setIfInBounds_toArray, List.set_cons_zero, List.set_cons_succ]
  iterate 3 (refine lex_read rfl (by assumption) (v := ?_) (fun w' hw => ?_) ?_; rotate_left; (focus (obtain ⟨k1, k2, k3, k4, k5, k6⟩ := HR.out w' hw; go_simp; try with_reducible rfl)); simp only [Act.put, List.setIfInBounds_toArray, List.set_cons_zero, List.set_cons_succ])
  refine lex_do rfl (fun K hK => ?_)
  go_simp
  refine (own_nil 0 val _).mono ?_
  rintro e w1 ⟨rfl, u1⟩
  have hS1 : Upd [c] wA w1 := hS0.trans u1 (by simp)
  refine hK _ _ (fun _ => hS1) ?_
  clear hK K
  try simp only [Act.put, List.setIfInBounds_toArray, List.set_cons_zero, List.set_cons_succ]
  refine lex_read rfl (by exact hS1) (fun w' hw => exec_build (by rfl) (by simp [Act.eval]) (build51 [] n cl ix 0 val _)) ?_
  try simp only [Act.put, List.setIfInBounds_toArray, List.set_cons_zero, List.set_cons_succ]
  refine lex_do rfl (fun K hK => ?_)
  go_simp
  refine (box_put_any b c 256 q (Dn.cells ⟨n, cl, ix, val, .slice none 0 0⟩) _ ?_ rfl).mono ?_
  · exact HB.out.upd (((Upd.refl [] wA).drew).trans u1 (by simp)) (by simp) (by simp)
  rintro e w2 ⟨r, rfl, hb2, u2⟩
  refine hK _ _ (fun _ => hS1.trans u2 (by simp)) ?_
  clear hK K
  try simp only [Act.put, List.setIfInBounds_toArray, List.set_cons_zero, List.set_cons_succ]
  refine lex_nil ?_
  have HE2 := Lib.hid hb2
  have e0 : w2.cell? ⟨pe, 0, none⟩ = some (.int .i64 ix) := (HR.out w2 (hS1.trans u2 (by simp))).2.2.1
  have x31 : w2.cell? ⟨w.heap.size, 31, none⟩ = some (.int .i64 ix) := HX31.out w2 (hS1.trans u2 (by simp))
  have HU2 := Lib.hid ((HU.out.mono (G := [c]) (by simp)).trans (hS1.trans u2 (by simp)) (by simp))
  clear hb2 hS1 u1 u2 hS0
  go_wp2_with fail
  go_ret
  exact ⟨rfl, HE2.out, HU2.out⟩
end Go.Proofs.Ytenmcllnddmdhaa
