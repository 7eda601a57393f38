/- What Reads asks of each who waits for a read: the closure. -/
import Derived.Test.YtenmcllnddmdhaaDelR
import Derived.Test.YtenmcllnddmdhaaTake
set_option linter.unusedVariables false
set_option linter.unusedSimpArgs false
namespace Go.Proofs.Ytenmcllnddmdhaa
open Go.RowKit Go.Lb Go.Conc

/-- The cells of a place: nine numbers, a truth, its state. -/
structure Al where
  a0 : Int
  a1 : Int
  a2 : Int
  a3 : Int
  a4 : Int
  a5 : Int
  a6 : Int
  a7 : Int
  a8 : Int
  st : Bool
  stt : Int
def Al.vals (x : Al) : List Value := [.int .i64 x.a0, .int .i64 x.a1, .int .i64 x.a2, .int .i64 x.a3, .int .i64 x.a4, .int .i64 x.a5, .int .i64 x.a6, .int .i64 x.a7, .int .i64 x.a8, .bool x.st, .int .i64 x.stt]
def zAl : Al := ⟨0, 0, 0, 0, 0, 0, 0, 0, 0, false, 0⟩
theorem Al.one (x : Al) : ∀ u ∈ x.vals, u.oneCell' = true := by
  intro u hu
  simp only [Al.vals, List.mem_cons, List.not_mem_nil, or_false] at hu
  rcases hu with h | h | h | h | h | h | h | h | h | h | h <;> subst h <;> rfl
theorem Try.size91 : (Try.prog.info? 91).map (·.size) = some 11 := by kernel_rfl
theorem zero91 (w : World) : (zeroValue 91).run Try.prog w = .ok (.agg zAl.vals.toArray) w := by kernel_rfl
theorem info91 : ∃ i, Try.prog.info? 91 = some i ∧ i.zero = some (.agg zAl.vals.toArray) ∧ i.size = 11 ∧ i.bytes = 88 := by
  obtain ⟨i, h1, h2, h3, h4⟩ := info_parts (show (Try.prog.info? 91).map (fun i => (i.zero, i.size, i.bytes)) = some (some (.agg zAl.vals.toArray), 11, 88) by kernel_rfl)
  exact ⟨i, h1, h2, h3, h4⟩
theorem buildSlice36 (x : Al) (w : World) : (Instr.buildSlice 36 1 #[(0, .agg x.vals.toArray)]).run Try.prog w = .ok (.slice (some ⟨w.heap.size, 0, none⟩) 1 1) (w.alloc (.cells x.vals.toArray 91)) := by kernel_rfl
theorem build49l (a : Option Addr) (n c : Nat) (w : World) : (Instr.build 49 #[(2, .slice a n c)]).run Try.prog w = .ok (.agg #[.int .i64 0, .int .i64 0, .slice a n c]) w := by kernel_rfl
theorem build51l (n c ix : Int) (a : Option Addr) (m k : Nat) (w : World) : (Instr.build 51 #[(0, .agg (whoL n c).toArray), (1, .int .i64 ix), (2, .agg #[.int .i64 0, .int .i64 0, .slice a m k])]).run Try.prog w = .ok (.agg (Dn.cells ⟨n, c, ix, 0, .slice a m k⟩).toArray) w := by kernel_rfl

/-- The places of a store that came in, in blocks below B. -/
def AlsAt (B : Nat) (w : World) (a : Option Addr) (len : Nat) : Prop := ∀ i, i < len → ∃ b o x, a = some ⟨b, o, none⟩ ∧ b < B ∧ b < w.heap.size ∧ w.rangeAt b (o + i * 11) (Al.vals x)
theorem AlsAt.upd {B : Nat} {w w' : World} {a : Option Addr} {len : Nat} (h : AlsAt B w a len) {G : List Nat} (u : Upd G w w') (hG : ∀ k ∈ G, B ≤ k) : AlsAt B w' a len := fun i hi => by
  obtain ⟨b, o, x, h1, h2, h3, h4⟩ := h i hi
  refine ⟨b, o, x, h1, h2, Nat.lt_of_lt_of_le h3 u.size, fun j v hv => ?_⟩
  rw [u.cell (a := ⟨b, o + i * 11 + j, none⟩) h3 (fun hb => by have := hG _ hb; simp at this; omega)]
  exact h4 j v hv

/-- A store: its place, its places; all else is of no account. -/
def stL (ix : Int) (x1 x2 x3 x4 av x6 x7 x8 : Value) : List Value := [.int .i64 ix, x1, x2, x3, x4, av, x6, x7, x8]

structure EnvR (B : Nat) (w : World) (pst pf f b c : Nat) (ix : Int) (a : Option Addr) (len cap : Nat) : Prop where
  ne : c ≠ pst ∧ c ≠ pf ∧ c ≠ f
  cB : B ≤ c
  bs : ∃ x1 x2 x3 x4 x6 x7 x8, Blk w pst 67 (stL ix x1 x2 x3 x4 (.slice a len cap) x6 x7 x8)
  bf : Blk w pf 23 [.pointer (some ⟨f, 0, none⟩)]
  fb : ∃ v0 v1 v2 v3 v4, Blk w f 79 [v0, v1, v2, v3, v4, .pointer (some ⟨b, 0, none⟩)]
  als : AlsAt B w a len
theorem EnvR.upd {B : Nat} {w w' : World} {pst pf f b c : Nat} {ix : Int} {a : Option Addr} {len cap : Nat} (h : EnvR B w pst pf f b c ix a len cap) {G : List Nat} (u : Upd G w w') (h1 : pst ∉ G) (h2 : pf ∉ G) (h3 : f ∉ G) (hG : ∀ k ∈ G, B ≤ k) : EnvR B w' pst pf f b c ix a len cap := by
  obtain ⟨v0, v1, v2, v3, v4, hf⟩ := h.fb
  obtain ⟨x1, x2, x3, x4, x6, x7, x8, hs⟩ := h.bs
  exact ⟨h.ne, h.cB, ⟨_, _, _, _, _, _, _, u.blk hs h1⟩, u.blk h.bf h2, ⟨_, _, _, _, _, u.blk hf h3⟩, h.als.upd u hG⟩

def hitR (ix : Int) (x : Rd) : Bool := x.rdy && decide (x.ix ≤ ix)

theorem cloR_off (B pst pf f b c : Nat) (ix : Int) (a : Option Addr) (len cap : Nat) (n cl ctx xi : Int) (rdy : Bool) (w : World) (h : EnvR B w pst pf f b c ix a len cap) (hx : hitR ix ⟨n, cl, ctx, xi, rdy⟩ = false) :
    Calls Try.prog 26 #[.agg (Rd.vals ⟨n, cl, ctx, xi, rdy⟩).toArray, .pointer (some ⟨pst, 0, none⟩), .pointer (some ⟨pf, 0, none⟩)] w fun e w' => e = .returned (.bool false) ∧ Upd [] w w' := by
  have HX := Blk.new w 88 (Rd.vals ⟨n, cl, ctx, xi, rdy⟩)
  have hu := (Upd.refl [] w).alloc (.cells (Rd.vals ⟨n, cl, ctx, xi, rdy⟩).toArray 88)
  obtain ⟨x1, x2, x3, x4, x6, x7, x8, hs⟩ := h.bs
  have c32 := HX.cell (o := 32) rfl
  have c33 := HX.cell (o := 33) rfl
  have s0 := (hu.blk hs (by simp)).cell (o := 0) rfl
  have HU := Lib.hid hu
  clear h hs hu HX
  simp only [hitR, Bool.and_eq_false_iff, decide_eq_false_iff_not] at hx
  cases rdy
  · go_enter Try.func26, Try.ntmps26
    go_wp2_with fail
    go_ret
    exact ⟨rfl, HU.out⟩
  · have hd : decide (ix < xi) = true := by simp at hx; simpa using hx
    clear hx
    go_enter Try.func26, Try.ntmps26
    go_wp2_with fail
    go_ret
    exact ⟨rfl, HU.out⟩
theorem row_more {wA wr w3 w5 : World} {e size m : Nat} {o : Obj} {v v' : Value} {xs ys : List Value} (hU : Upd [] wA wr) (hu : Upd [] wr w3) (hr : wr.ownsRow wA.heap.size e size v m xs) (ho : w5.ownsRow wA.heap.size e size v' (m + 1) ys) (hg : (w3.alloc o).grownBy w5 v.ownBlock) :
    Upd [] wA w5 ∧ w5.ownsRow wA.heap.size e size v' (m + 1) ys := by
  refine ⟨((hU.trans hu (by simp)).alloc o).grown hg (fun k hk => .inr ?_), ho⟩
  rcases hr.2 with ⟨rfl, _⟩ | ⟨g, cap, cur, rfl, hb, _⟩
  · simp [Value.ownBlock] at hk
  · simp [Value.ownBlock] at hk; subst hk; exact hb

set_option maxRecDepth 100000 in
set_option maxHeartbeats 3200000 in
theorem cloR_put (B pst pf f b c : Nat) (ix : Int) (a : Option Addr) (len cap : Nat) (q : List Dn) (n cl ctx xi : Int) (w : World) (h : EnvR B w pst pf f b c ix a len cap) (hb : BoxAt w b c 256 (q.map Dn.val')) (hB : B ≤ w.heap.size) (hlen : len ≤ 1599289640354) (hx : xi ≤ ix) :
    Calls Try.prog 26 #[.agg (Rd.vals ⟨n, cl, ctx, xi, true⟩).toArray, .pointer (some ⟨pst, 0, none⟩), .pointer (some ⟨pf, 0, none⟩)] w fun e w' =>
      e = .returned (.bool true) ∧ Upd [c] w w' ∧ ∃ al : Value, al.oneCell' = true ∧ BoxAt w' b c 256 ((putQ 256 q ⟨n, cl, ix, 0, al⟩).map Dn.val') := by
  obtain ⟨i0, hi, hz0, hz1, hz2⟩ := info91
  have HX := Blk.new w 88 (Rd.vals ⟨n, cl, ctx, xi, true⟩)
  have hu := (Upd.refl [] w).alloc (.cells (Rd.vals ⟨n, cl, ctx, xi, true⟩).toArray 88)
  have hE := h.upd hu (by simp) (by simp) (by simp) (by simp)
  have hBx := hb.upd hu (by simp) (by simp)
  have c32 := HX.cell (o := 32) rfl
  have c33 := HX.cell (o := 33) rfl
  obtain ⟨x1, x2, x3, x4, x6, x7, x8, hs⟩ := hE.bs
  have s0 := hs.cell (o := 0) rfl
  have s5 := hs.cell (o := 5) rfl
  have hd : decide (ix < xi) = false := by simpa using hx
  have HE := Lib.hid hE
  have HB := Lib.hid hBx
  have HU := Lib.hid hu
  have hcl : c < w.heap.size := by obtain ⟨ss, rr, hch⟩ := hb.ch; exact lt_of_block hch
  obtain ⟨ne1, ne2, ne3⟩ := h.ne
  have HR : Hid (∀ w', Upd [c] (w.alloc (.cells (Rd.vals ⟨n, cl, ctx, xi, true⟩).toArray 88)) w' → w'.cell? ⟨pf, 0, none⟩ = some (.pointer (some ⟨f, 0, none⟩)) ∧ w'.cell? ⟨f, 5, none⟩ = some (.pointer (some ⟨b, 0, none⟩)) ∧ w'.cell? ⟨pst, 0, none⟩ = some (.int .i64 ix) ∧ w'.rangeAt w.heap.size 0 (whoL n cl)) := by
    refine Lib.hid fun w' u => ?_
    obtain ⟨v0, v1, v2, v3, v4, hf⟩ := hE.fb
    refine ⟨(u.blk hE.bf (by simpa using Ne.symm ne2)).cell rfl, (u.blk hf (by simpa using Ne.symm ne3)).cell rfl, (u.blk hs (by simpa using Ne.symm ne1)).cell rfl, (u.blk HX (by simp; omega)).rangeIn 0 (whoL n cl) (fun j v hj => ?_)⟩
    rw [Nat.zero_add]
    simp only [Rd.vals]
    rw [List.getElem?_append_left (List.getElem?_eq_some_iff.1 hj).1]
    exact hj
  clear h hb hE hBx hu hs HX hx
  go_enter Try.func26, Try.ntmps26
  go_wp2_with fail
  clear s0 s5 c32 c33 hd
  generalize w.alloc (.cells (Rd.vals ⟨n, cl, ctx, xi, true⟩).toArray 88) = wA at *
  go_loopg [5, 21] len (fun g v u wr => ∃ i : Nat, u = .int .i64 i ∧ i ≤ len ∧ g = len - i ∧ Upd [] wA wr ∧ ∃ (m : Nat) (xs : List Value), m ≤ i ∧ wr.ownsRow wA.heap.size 91 11 v m xs)
  case atStart => exact ⟨0, rfl, Nat.zero_le _, rfl, Upd.refl _ _, 0, [], Nat.le_refl _, World.ownsRow_nil _ _ _ _⟩
  case round =>
    obtain ⟨i, rfl, hi', rfl, hU, m, xs, hm, hrow⟩ := hrel
    obtain ⟨lv, lc, rfl⟩ := own_shape hrow
    have HU2 := Lib.hid hU
    have Hrow := Lib.hid hrow
    clear hU hrow
    by_cases hlt : i < len
    · obtain ⟨ab, ao, x, rfl, hab, habw, hrg⟩ := (HE.out.als.upd HU2.out (by simp)) i hlt
      have Hrg := Lib.hid hrg
      clear hrg
      by_cases hst : x.stt < 3
      · go_wp2_with (first | (refine wpList_load_mid rfl 91 (.tmp 23) rfl ab (ao + i * 11) rfl x.vals _ Hrg.out Try.underlying91 rfl Try.size91 ?_) | (refine wpList_alloc_blk rfl 91 rfl zAl.vals (zero91 _) ?_; intro w2 hb2 hu2) | (refine wpList_store_blk (o := ⟨none, .store 91 (.tmp 7) (.tmp 24), _, _, _, _⟩) rfl 91 (.tmp 7) (.tmp 24) rfl _ x.vals rfl rfl hb2 Try.size91 rfl x.one ?_; intro w3 hb3 hu3; have c10 := hb3.cell (o := 10) (v := .int .i64 x.stt) rfl; have hu23 := hu2.trans hu3 (by simp); clear hu2 hu3 hb2) | (refine wpList_load_blk (op := ⟨some 29, .load 91 (.tmp 7), _, _, _, _⟩) rfl 91 (.tmp 7) rfl _ rfl hb3 Try.underlying91 rfl Try.size91 ?_) | (refine wpList_run (o := ⟨some 30, .buildSlice 36 1 #[(0, .tmp 29)], _, _, _, _⟩) rfl (exec_buildSlice (by rfl) (by simp [Act.eval, Act.put]) (buildSlice36 x _)) ?_) | (at_builtin; refine wpList_append_mine rfl (.tmp 28) (.tmp 30) 36 rfl wA.heap.size 91 i0 _ 11 88 Try.underlying36 hi hz0 hz1 hz2 rfl (by decide) (.slice lv m lc) m xs rfl (World.ownsRow.alloc (hu23.row Hrow.out (by simp)) _) ⟨w3.heap.size, 0, none⟩ 1 1 x.vals rfl rfl (Blk.news (Blk.new w3 91 x.vals)) x.one (by unfold maxLen; omega) (by omega) (by have := HU2.out.size; have := hu23.size; simp; omega) ?_; intro v' w5 ho hg hgb; have H5 := Lib.hid (row_more HU2.out hu23 Hrow.out ho hg); clear ho hg hgb hu23 c10 hb3))
        go_roundg (len - (i + 1))
        case measure => omega
        case rel => exact ⟨i + 1, by go_num, by omega, rfl, H5.out.1, m + 1, _, by omega, H5.out.2⟩
      · have hst2 : decide (x.stt < 3) = false := by simpa using hst
        clear hst
        go_wp2_with (first | (refine wpList_load_mid rfl 91 (.tmp 23) rfl ab (ao + i * 11) rfl x.vals _ Hrg.out Try.underlying91 rfl Try.size91 ?_) | (refine wpList_alloc_blk rfl 91 rfl zAl.vals (zero91 _) ?_; intro w2 hb2 hu2) | (refine wpList_store_blk (o := ⟨none, .store 91 (.tmp 7) (.tmp 24), _, _, _, _⟩) rfl 91 (.tmp 7) (.tmp 24) rfl _ x.vals rfl rfl hb2 Try.size91 rfl x.one ?_; intro w3 hb3 hu3; have c10 := hb3.cell (o := 10) (v := .int .i64 x.stt) rfl; have hu23 := hu2.trans hu3 (by simp); clear hu2 hu3 hb2))
        go_roundg (len - (i + 1))
        case measure => omega
        case rel => exact ⟨i + 1, by go_num, by omega, rfl, HU2.out.trans hu23 (by simp), m, xs, by omega, hu23.row Hrow.out (by simp)⟩
    · obtain rfl : i = len := by omega
      go_wp2_with fail
      have hHR : ∀ w', Upd [c] wr w' → Upd [c] wA w' := fun w' u => (HU2.out.mono (by simp)).trans u (by simp)
      refine wp_region_lex (fun w' => Upd [c] wr w') 99 [(0, true), (1, true), (2, true), (3, true), (4, true), (5, true), (6, true), (7, true), (8, true), (9, true), (10, true), (11, false)] (by kernel_rfl) (by kernel_rfl) (by kernel_rfl) (by kernel_rfl) (fun _ _ d _ _ h => by cases d <;> exact h) ?_
      simp only [lexOps, List.map_cons, List.map_nil, List.getD_cons_zero, List.getD_cons_succ]
      have hS0 : Upd [c] wr wr.drew := (Upd.refl _ _).drew
      iterate 5 (refine lex_read rfl (by assumption) (v := ?_) (fun w' hw => ?_) ?_; rotate_left; (focus (obtain ⟨k1, k2, k3, k4⟩ := HR.out w' (hHR w' hw); clear k4; go_simp; try with_reducible rfl)); simp only [Act.put, List.setIfInBounds_toArray, List.set_cons_zero, List.set_cons_succ])
      refine lex_read rfl (by exact hS0) (fun w' hw => exec_load (by rfl) (by rfl) (run_loadAt_mid w' w.heap.size 0 44 (whoL n cl) _ (HR.out w' (hHR w' hw)).2.2.2 Try.underlying44 rfl (by exact Try.size44))) ?_
      try simp only [Act.put, List.setIfInBounds_toArray, List.set_cons_zero, List.set_cons_succ]
      iterate 3 (refine lex_read rfl (by assumption) (v := ?_) (fun w' hw => ?_) ?_; rotate_left; (focus (obtain ⟨k1, k2, k3, k4⟩ := HR.out w' (hHR w' hw); clear k4; go_simp; try with_reducible rfl)); simp only [Act.put, List.setIfInBounds_toArray, List.set_cons_zero, List.set_cons_succ])
      refine lex_read rfl (by exact hS0) (fun w' hw => exec_build (by rfl) (by simp [Act.eval]) (build49l lv m lc _)) ?_
      try simp only [Act.put, List.setIfInBounds_toArray, List.set_cons_zero, List.set_cons_succ]
      refine lex_read rfl (by exact hS0) (fun w' hw => exec_build (by rfl) (by simp [Act.eval]) (build51l n cl ix lv m lc _)) ?_
      try simp only [Act.put, List.setIfInBounds_toArray, List.set_cons_zero, List.set_cons_succ]
      refine lex_do rfl (fun K hK => ?_)
      go_simp
      have uA0 : Upd [] wr wr.drew := (Upd.refl _ _).drew
      have uA : Upd [] wA wr.drew := HU2.out.trans uA0 (by simp)
      refine (box_put_any b c 256 (q.map Dn.val') (Dn.cells ⟨n, cl, ix, 0, .slice lv m lc⟩) _ (HB.out.upd uA (by simp) (by simp)) rfl).mono ?_
      rintro e w2 ⟨r, rfl, hb2, u2⟩
      have hb3 : BoxAt w2 b c 256 ((putQ 256 q (⟨n, cl, ix, 0, .slice lv m lc⟩ : Dn)).map Dn.val') := by rw [putQ_map]; exact hb2
      have Hb3 := Lib.hid hb3
      have HUx := Lib.hid ((((HU.out.trans uA (by simp)).mono (G := [c]) (by simp))).trans u2 (by simp))
      refine hK _ _ (fun _ => hS0.trans u2 (by simp)) ?_
      clear hK K hb2 hb3 u2 uA uA0 hS0 hHR
      try simp only [Act.put, List.setIfInBounds_toArray, List.set_cons_zero, List.set_cons_succ]
      refine lex_nil ?_
      go_wp2_with fail
      go_ret
      exact ⟨rfl, HUx.out, .slice lv m lc, rfl, Hb3.out⟩
end Go.Proofs.Ytenmcllnddmdhaa
