/- heap.Box at front.Done: NewBox, Put, Take, Len, each by its contract. -/
import Derived.Test.YtenmcllnddmdhaaRows
import Derived.Test.YtenmcllnddmdhaaUpon
import Derived.Conc.LoneSelect
import Derived.Conc.LoneSelectN
set_option linter.unusedVariables false
set_option linter.unusedSimpArgs false
namespace Go.Lb
open Go Go.RowKit
theorem Upd.setChan {F : List Nat} {w w' : World} (h : Upd F w w') {c : Nat} (hc : c ∈ F ∨ w.heap.size ≤ c) (cap : Nat) (buf : Array Value) (cl : Bool) (s r : Nat) (tm : Bool) : Upd F w (w'.setChan c cap buf cl s r tm) :=
  ⟨h.os, h.tape, h.output, by have := h.size; simp [World.setChan]; omega, fun k hk hF => by
    simp only [World.setChan]
    rw [Array.getElem?_setIfInBounds_ne (by rintro rfl; rcases hc with h1 | h1; exact hF h1; omega)]
    exact h.block k hk hF⟩
theorem Blk.setChan {w : World} {b : Nat} {t : TypeId} {vs : List Value} (h : Blk w b t vs) {c : Nat} (hc : c ≠ b) (cap : Nat) (buf : Array Value) (cl : Bool) (s r : Nat) (tm : Bool) : Blk (w.setChan c cap buf cl s r tm) b t vs := by
  unfold Blk at *
  simp only [World.setChan]
  rw [Array.getElem?_setIfInBounds_ne hc]
  exact h
end Go.Lb
namespace Go.Proofs.Ytenmcllnddmdhaa
open Go.RowKit Go.Lb Go.Conc


/-- The cells of an empty command. -/
def cmdTail : List Value := [.int .i64 0, .int .i64 0, .int .i64 0, .int .i64 0, .int .i64 0, .int .i64 0, .int .i64 0, .slice none 0 0, .int .i64 0, .bool false, .int .i64 0, .int .i64 0, .int .i64 0, .bool false, .bool false, .int .i64 0, .int .i64 0, .int .i64 0,
  .slice none 0 0, .int .i64 0, .int .i64 0, .int .i64 0, .slice none 0 0, .slice none 0 0, .bool false, .slice none 0 0, .slice none 0 0]
/-- Who waits: From, Client; all else nothing. -/
def whoL (n c : Int) : List Value := .int .i64 n :: .int .i64 0 :: .int .i64 c :: .int .i64 0 :: cmdTail
/-- What is done. -/
def doneL (who : List Value) (idx code val : Int) (al : Value) : List Value := who ++ [.int .i64 idx, .int .i64 code, .int .i64 val, al]
def zDone : List Value := doneL (whoL 0 0) 0 0 0 (.slice none 0 0)
theorem Try.info51 : (Try.prog.info? 51).map (fun i => (i.zero, i.size, i.bytes)) = some (some (.agg zDone.toArray), 35, 384) := by kernel_rfl
theorem Try.size51 : (Try.prog.info? 51).map (·.size) = some 35 := by kernel_rfl
theorem Try.size44 : (Try.prog.info? 44).map (·.size) = some 31 := by kernel_rfl
theorem zeroVal51 (w : World) : (zeroValue 51).run Try.prog w = .ok (.agg zDone.toArray) w := by kernel_rfl
theorem zDone_len : zDone.length = 35 := rfl
theorem zDone_one : ∀ u ∈ zDone, u.oneCell' = true := by decide

/-- The mailbox at b, whose channel is block c, has this room and holds q. -/
structure BoxAt (w : World) (b c room : Nat) (q : List Value) : Prop where
  blk : Blk w b 95 [.chan (some c)]
  ch : ∃ s r, w.heap[c]? = some (.chan room q.toArray false s r false)
  ne : c ≠ b

theorem BoxAt.upd {w w' : World} {b c room : Nat} {q : List Value} (h : BoxAt w b c room q) {F : List Nat} (hu : Upd F w w') (hb : b ∉ F) (hc : c ∉ F) : BoxAt w' b c room q := by
  obtain ⟨s, r, e⟩ := h.ch
  exact ⟨hu.blk h.blk hb, ⟨s, r, (hu.block c (lt_of_block e) hc).trans e⟩, h.ne⟩

set_option maxRecDepth 20000 in
theorem box_put_room (b c room : Nat) (q : List Value) (ds : List Value) (w : World) (h : BoxAt w b c room q) (hds : ds.length = 35) (hr : q.length < room) :
    Calls Try.prog 22 #[.pointer (some ⟨b, 0, none⟩), .agg ds.toArray] w fun e w' => e = .returned (.bool true) ∧ BoxAt w' b c room (q ++ [.agg ds.toArray]) ∧ Upd [c] w w' := by
  have hA := h.upd (F := []) ((Upd.refl [] w).alloc (.cells ds.toArray 51)) (by simp) (by simp)
  obtain ⟨s, r, hc⟩ := hA.ch
  have h0 := hA.blk.cell (o := 0) rfl
  have HB := Lib.hid (Blk.new w 51 ds)
  have hbl := h.blk.lt
  refine calls_of_loneTo fun cs => ?_
  have e : Frame.enter Try.prog 22 #[.pointer (some ⟨b, 0, none⟩), .agg ds.toArray] .normal = (base 22).at ⟨#[.pointer (some ⟨b, 0, none⟩), .agg ds.toArray, undef, undef, undef, undef, undef, undef, undef, undef, undef, undef, undef], []⟩ [.code (Try.f22.body.getD .skip)] := by
    simp [Frame.enter, Frame.at, Try.func22, base, Try.f22]
  rw [e]
  refine LoneTo.goes (n := 50) ?_
  simp only [Try.f22, Option.getD_some]
  s_c stepG_seq
  s_reg
  s_op
  s_op
  s_c stepG_region_end
  s_c stepG_seq
  s_c stepG_seq
  s_reg
  s_op
  s_op
  s_op
  s_op
  s_c stepG_region_end
  s_reg
  s_in
  refine goes_oper_k rfl rfl (by decide) (fun K hK => ?_)
  refine up_load_blk 51 (.tmp 3) (by rfl) w.heap.size (by rfl) HB.out Try.underlying51 (by rfl) (by rw [Try.size51, hds]) ?_
  refine hK _ _ ⟨trivial, ?_⟩
  clear hK K
  s_c stepG_region_end
  s_c stepG_seq
  s_reg
  s_stop
  refine LoneTo.step (step_lone_select_send_room (c := c) (cap := room) (buf := q.toArray) (s := s) (r := r) (tm := false) (stepG_comm (cases := #[scase c (.agg ds.toArray) (.agg zDone.toArray)]) (blocking := false) (shape := .select) (w' := w.alloc (.cells ds.toArray 51)) rfl rfl (by decide) (by simp [go_sem, execOp, scase, Act.eval]; rfl)) hc (by simpa using hr)) ?_
  rw [Frame.finish_at]
  walk_nrm
  refine LoneTo.goes (n := 30) ?_
  s_op
  s_op
  s_c stepG_region_end
  s_c stepG_block
  s_cond true
  s_c stepG_seq
  s_reg
  s_op
  s_c stepG_region_end
  s_c stepG_ret'
  s_stop
  refine LoneTo.done ⟨.returned (.bool true), _, rfl, ⟨rfl, ⟨hA.blk.setChan h.ne _ _ _ _ _ _, ⟨s + 1, r, ?_⟩, h.ne⟩, ((Upd.refl _ _).alloc _).setChan (by simp) _ _ _ _ _ _⟩, rfl, rfl, rfl, rfl, _, Try.func22, by simp [results, Try.f22, Frame.at]⟩
  rw [heap_setChan _ _ _ _ _ _ _ _ (lt_of_block hc)]

set_option maxRecDepth 20000 in
theorem box_put_full (b c room : Nat) (q : List Value) (ds : List Value) (w : World) (h : BoxAt w b c room q) (hds : ds.length = 35) (hr : room ≤ q.length) :
    Calls Try.prog 22 #[.pointer (some ⟨b, 0, none⟩), .agg ds.toArray] w fun e w' => e = .returned (.bool false) ∧ Upd [] w w' := by
  have hA := h.upd (F := []) ((Upd.refl [] w).alloc (.cells ds.toArray 51)) (by simp) (by simp)
  obtain ⟨s, r, hc⟩ := hA.ch
  have h0 := hA.blk.cell (o := 0) rfl
  have HB := Lib.hid (Blk.new w 51 ds)
  have hbl := h.blk.lt
  refine calls_of_loneTo fun cs => ?_
  have e : Frame.enter Try.prog 22 #[.pointer (some ⟨b, 0, none⟩), .agg ds.toArray] .normal = (base 22).at ⟨#[.pointer (some ⟨b, 0, none⟩), .agg ds.toArray, undef, undef, undef, undef, undef, undef, undef, undef, undef, undef, undef], []⟩ [.code (Try.f22.body.getD .skip)] := by
    simp [Frame.enter, Frame.at, Try.func22, base, Try.f22]
  rw [e]
  refine LoneTo.goes (n := 50) ?_
  simp only [Try.f22, Option.getD_some]
  s_c stepG_seq
  s_reg
  s_op
  s_op
  s_c stepG_region_end
  s_c stepG_seq
  s_c stepG_seq
  s_reg
  s_op
  s_op
  s_op
  s_op
  s_c stepG_region_end
  s_reg
  s_in
  refine goes_oper_k rfl rfl (by decide) (fun K hK => ?_)
  refine up_load_blk 51 (.tmp 3) (by rfl) w.heap.size (by rfl) HB.out Try.underlying51 (by rfl) (by rw [Try.size51, hds]) ?_
  refine hK _ _ ⟨trivial, ?_⟩
  clear hK K
  s_c stepG_region_end
  s_c stepG_seq
  s_reg
  s_stop
  refine LoneTo.step (step_lone_select_send_full (c := c) (cap := room) (buf := q.toArray) (s := s) (r := r) (tm := false) (stepG_comm (cases := #[scase c (.agg ds.toArray) (.agg zDone.toArray)]) (blocking := false) (shape := .select) (w' := w.alloc (.cells ds.toArray 51)) rfl rfl (by decide) (by simp [go_sem, execOp, scase, Act.eval]; rfl)) hc (by simpa using hr)) ?_
  rw [Frame.finish_at]
  walk_nrm
  refine LoneTo.goes (n := 30) ?_
  s_op
  s_op
  s_c stepG_region_end
  s_c stepG_block
  s_cond false
  s_c stepG_seq
  s_reg
  s_op
  s_c stepG_region_end
  s_c stepG_ret'
  s_stop
  exact LoneTo.done ⟨.returned (.bool false), _, rfl, ⟨rfl, (Upd.refl _ _).alloc _⟩, rfl, rfl, rfl, rfl, _, Try.func22, by simp [results, Try.f22, Frame.at]⟩

set_option maxRecDepth 20000 in
theorem box_take_some (b c room : Nat) (q : List Value) (ds : List Value) (w : World) (h : BoxAt w b c room (.agg ds.toArray :: q)) (hds : ds.length = 35) (h1 : ∀ u ∈ ds, u.oneCell' = true) :
    Calls Try.prog 24 #[.pointer (some ⟨b, 0, none⟩)] w fun e w' => e = .returned (.tuple #[.agg ds.toArray, .bool true]) ∧ BoxAt w' b c room q ∧ Upd [c] w w' := by
  have hbl := h.blk.lt
  have hcw : c < w.heap.size := by obtain ⟨s0, r0, hc0⟩ := h.ch; exact lt_of_block hc0
  have hA := h.upd (F := []) ((Upd.refl [] w).alloc (.cells zDone.toArray 51)) (by simp) (by simp)
  obtain ⟨s, r, hc⟩ := hA.ch
  have h0 := hA.blk.cell (o := 0) rfl
  have UA := Lib.hid ((Upd.refl [] w).alloc (.cells zDone.toArray 51))
  have BA := Lib.hid (Blk.new w 51 zDone)
  refine calls_of_loneTo fun cs => ?_
  have e : Frame.enter Try.prog 24 #[.pointer (some ⟨b, 0, none⟩)] .normal = (base 24).at ⟨#[.pointer (some ⟨b, 0, none⟩), undef, undef, undef, undef, undef, undef, undef, undef, undef, undef, undef, undef, undef, undef, undef], []⟩ [.code (Try.f24.body.getD .skip)] := by
    simp [Frame.enter, Frame.at, Try.func24, base, Try.f24]
  rw [e]
  refine LoneTo.goes (n := 50) ?_
  simp only [Try.f24, Option.getD_some]
  s_c stepG_seq
  s_reg
  s_in
  refine goes_oper_k rfl rfl (by decide) (fun K hK => ?_)
  refine up_alloc_blk 51 (by rfl) zDone (zeroVal51 _) ?_
  refine hK _ _ ⟨trivial, ?_⟩
  clear hK K
  s_op
  generalize w.alloc (.cells zDone.toArray 51) = wA at *
  s_c stepG_region_end
  s_c stepG_seq
  s_reg
  s_op
  s_op
  s_op
  s_op
  s_c stepG_region_end
  s_c stepG_seq
  s_reg
  s_stop
  refine LoneTo.step (step_lone_select_recv_buf (c := c) (z := .agg zDone.toArray) (cap := room) (buf := (.agg ds.toArray :: q).toArray) (closed := false) (s := s) (r := r) (tm := false) (stepG_comm (cases := #[rcase c (.agg zDone.toArray)]) (blocking := false) (shape := .select) (w' := wA) rfl rfl (by decide) (by simp [go_sem, execOp, rcase, Act.eval]; rfl)) hc (by simp)) ?_
  rw [Frame.finish_at]
  walk_nrm
  have hS : BoxAt (wA.setChan c room ((Value.agg ds.toArray :: q).toArray.extract 1 (q.length + 1)) false s (r + 1) false) b c room q ∧ Blk (wA.setChan c room ((Value.agg ds.toArray :: q).toArray.extract 1 (q.length + 1)) false s (r + 1) false) w.heap.size 51 zDone ∧
      Upd [c] w (wA.setChan c room ((Value.agg ds.toArray :: q).toArray.extract 1 (q.length + 1)) false s (r + 1) false) := by
    refine ⟨⟨hA.blk.setChan hA.ne _ _ _ _ _ _, ⟨s, r + 1, ?_⟩, hA.ne⟩, BA.out.setChan (by omega) _ _ _ _ _ _, (UA.out.mono (by simp)).setChan (by simp) _ _ _ _ _ _⟩
    rw [heap_setChan _ _ _ _ _ _ _ _ (lt_of_block hc)]
    simp
  generalize (wA.setChan c room ((Value.agg ds.toArray :: q).toArray.extract 1 (q.length + 1)) false s (r + 1) false) = wB at *
  have BS := Lib.hid hS.2.1
  have HS := Lib.hid hS.1
  have US := Lib.hid hS.2.2
  have hpl := hS.2.1.lt
  clear hS
  have hq1 := Lib.hid (Blk.new wB 51 zDone)
  have hq2 := Lib.hid (hq1.out.setRow ds)
  have hp2 := Lib.hid (((Upd.refl [wB.heap.size] (wB.alloc (.cells zDone.toArray 51))).setRow (b := wB.heap.size) (by simp) ds.toArray).blk (BS.out.alloc (.cells zDone.toArray 51)) (by simp; omega))
  have hp3 := Lib.hid (hp2.out.setRow ds)
  have hU := Lib.hid (((US.out.alloc (.cells zDone.toArray 51)).setRow (b := wB.heap.size) (.inr (by omega)) ds.toArray).setRow (b := w.heap.size) (.inr (by omega)) ds.toArray)
  have hX := Lib.hid (HS.out.upd (F := []) ((((Upd.refl [] wB).alloc (.cells zDone.toArray 51)).setRow (b := wB.heap.size) (.inr (by omega)) ds.toArray)) (by simp) (by simp))
  have hY := Lib.hid (hX.out.upd (F := [w.heap.size]) ((Upd.refl _ _).setRow (b := w.heap.size) (by simp) ds.toArray) (by simp; omega) (by simp; omega))
  have hl := run_loadVar_blk (P := Try.prog) hp3.out 51 _ Try.underlying51 rfl (by rw [Try.size51, hds])
  refine LoneTo.goes (n := 40) ?_
  s_op
  s_op
  s_c stepG_region_end
  s_c stepG_block
  s_cond true
  s_c stepG_seq
  s_reg
  s_op
  s_in
  refine goes_oper_k rfl rfl (by decide) (fun K hK => ?_)
  refine up_alloc_blk 51 (by rfl) zDone (zeroVal51 _) ?_
  refine hK _ _ ⟨trivial, ?_⟩
  clear hK K
  s_in
  refine goes_oper_k rfl rfl (by decide) (fun K hK => ?_)
  refine up_store_blk 51 (.tmp 4) (.tmp 14) (by rfl) wB.heap.size ds (by rfl) (by rfl) hq1.out (by rw [Try.size51, hds]) (by rw [hds]; rfl) h1 ?_
  refine hK _ _ ⟨trivial, ?_⟩
  clear hK K
  s_c stepG_region_end
  s_c stepG_seq
  s_reg
  s_in
  refine goes_oper_k rfl rfl (by decide) (fun K hK => ?_)
  refine up_load_blk 51 (.tmp 4) (by rfl) wB.heap.size (by rfl) hq2.out Try.underlying51 (by rfl) (by rw [Try.size51, hds]) ?_
  refine hK _ _ ⟨trivial, ?_⟩
  clear hK K
  s_in
  refine goes_oper_k rfl rfl (by decide) (fun K hK => ?_)
  refine up_store_blk 51 (.tmp 2) (.tmp 15) (by rfl) w.heap.size ds (by rfl) (by rfl) hp2.out (by rw [Try.size51, hds]) (by rw [hds]; rfl) h1 ?_
  refine hK _ _ ⟨trivial, ?_⟩
  clear hK K
  s_op
  s_c stepG_region_end
  s_c stepG_ret'
  s_stop
  exact LoneTo.done ⟨.returned (.tuple #[.agg ds.toArray, .bool true]), _, rfl, ⟨rfl, hY.out, hU.out⟩, rfl, rfl, rfl, rfl, _, Try.func24, by simp [results, Try.f24, Frame.at, hl, asAddr]⟩

set_option maxRecDepth 20000 in
theorem box_take_none (b c room : Nat) (w : World) (h : BoxAt w b c room []) :
    Calls Try.prog 24 #[.pointer (some ⟨b, 0, none⟩)] w fun e w' => e = .returned (.tuple #[.agg zDone.toArray, .bool false]) ∧ Upd [] w w' := by
  have hbl := h.blk.lt
  have hcw : c < w.heap.size := by obtain ⟨s0, r0, hc0⟩ := h.ch; exact lt_of_block hc0
  have hA := h.upd (F := []) ((Upd.refl [] w).alloc (.cells zDone.toArray 51)) (by simp) (by simp)
  obtain ⟨s, r, hc⟩ := hA.ch
  have h0 := hA.blk.cell (o := 0) rfl
  have UA := Lib.hid ((Upd.refl [] w).alloc (.cells zDone.toArray 51))
  have BA := Lib.hid (Blk.new w 51 zDone)
  refine calls_of_loneTo fun cs => ?_
  have e : Frame.enter Try.prog 24 #[.pointer (some ⟨b, 0, none⟩)] .normal = (base 24).at ⟨#[.pointer (some ⟨b, 0, none⟩), undef, undef, undef, undef, undef, undef, undef, undef, undef, undef, undef, undef, undef, undef, undef], []⟩ [.code (Try.f24.body.getD .skip)] := by
    simp [Frame.enter, Frame.at, Try.func24, base, Try.f24]
  rw [e]
  refine LoneTo.goes (n := 50) ?_
  simp only [Try.f24, Option.getD_some]
  s_c stepG_seq
  s_reg
  s_in
  refine goes_oper_k rfl rfl (by decide) (fun K hK => ?_)
  refine up_alloc_blk 51 (by rfl) zDone (zeroVal51 _) ?_
  refine hK _ _ ⟨trivial, ?_⟩
  clear hK K
  s_op
  generalize w.alloc (.cells zDone.toArray 51) = wA at *
  s_c stepG_region_end
  s_c stepG_seq
  s_reg
  s_op
  s_op
  s_op
  s_op
  s_c stepG_region_end
  s_c stepG_seq
  s_reg
  s_stop
  refine LoneTo.step (step_lone_select_default (c := c) (z := .agg zDone.toArray) (cap := room) (s := s) (r := r) (tm := false) (stepG_comm (cases := #[rcase c (.agg zDone.toArray)]) (blocking := false) (shape := .select) (w' := wA) rfl rfl (by decide) (by simp [go_sem, execOp, rcase, Act.eval]; rfl)) hc) ?_
  rw [Frame.finish_at]
  walk_nrm
  have hpl := BA.out.lt
  have hq1 := Lib.hid (Blk.new wA 51 zDone)
  have hp1 := Lib.hid (BA.out.alloc (.cells zDone.toArray 51))
  have hp3 := Lib.hid (hp1.out.setRow zDone)
  have hU := Lib.hid ((UA.out.alloc (.cells zDone.toArray 51)).setRow (b := w.heap.size) (.inr (by omega)) zDone.toArray)
  have hl := run_loadVar_blk (P := Try.prog) hp3.out 51 _ Try.underlying51 rfl (by rw [Try.size51]; rfl)
  refine LoneTo.goes (n := 40) ?_
  s_op
  s_op
  s_c stepG_region_end
  s_c stepG_block
  s_cond false
  s_c stepG_seq
  s_reg
  s_in
  refine goes_oper_k rfl rfl (by decide) (fun K hK => ?_)
  refine up_alloc_blk 51 (by rfl) zDone (zeroVal51 _) ?_
  refine hK _ _ ⟨trivial, ?_⟩
  clear hK K
  s_c stepG_region_end
  s_c stepG_seq
  s_reg
  s_in
  refine goes_oper_k rfl rfl (by decide) (fun K hK => ?_)
  refine up_load_blk 51 (.tmp 5) (by rfl) wA.heap.size (by rfl) hq1.out Try.underlying51 (by rfl) (by rw [Try.size51, zDone_len]) ?_
  refine hK _ _ ⟨trivial, ?_⟩
  clear hK K
  s_in
  refine goes_oper_k rfl rfl (by decide) (fun K hK => ?_)
  refine up_store_blk 51 (.tmp 2) (.tmp 13) (by rfl) w.heap.size zDone (by rfl) (by rfl) hp1.out (by rw [Try.size51, zDone_len]) rfl zDone_one ?_
  refine hK _ _ ⟨trivial, ?_⟩
  clear hK K
  s_op
  s_c stepG_region_end
  s_c stepG_ret'
  s_stop
  exact LoneTo.done ⟨.returned (.tuple #[.agg zDone.toArray, .bool false]), _, rfl, ⟨rfl, hU.out⟩, rfl, rfl, rfl, rfl, _, Try.func24, by simp [results, Try.f24, Frame.at, hl, asAddr]⟩

theorem bytes51 : ∃ i, Try.prog.info? 51 = some i ∧ i.bytes = 384 := by
  have h : (Try.prog.info? 51).map (·.bytes) = some 384 := by kernel_rfl
  obtain ⟨i, hi, hb⟩ := Option.map_eq_some_iff.1 h
  exact ⟨i, hi, hb⟩

theorem newBox_ok (room : Nat) (w : World) (h1 : 1 ≤ room) (h2 : room ≤ 1024) : Calls Try.prog 18 #[.int .i64 room] w fun e w' => ∃ b c, e = .returned (.pointer (some ⟨b, 0, none⟩)) ∧ BoxAt w' b c room [] ∧ Upd [] w w' ∧ w.heap.size ≤ b ∧ w.heap.size ≤ c := by
  obtain ⟨i, hi, hb⟩ := bytes51
  have hmc := run_makeChan (P := Try.prog) (w := w) Try.underlying93 hi .i64 room (by omega) (by rw [hb]; omega)
  have hd : decide ((room : Int) < 1) = false := by simp; omega
  have hd2 : decide (1024 < (room : Int)) = false := by simp; omega
  go_enter Try.func18, Try.ntmps18
  go_wp2
  go_ret
  refine ⟨w.heap.size + 1, w.heap.size, rfl, ⟨?_, ⟨0, 0, ?_⟩, by omega⟩, ((Upd.refl _ _).alloc _).alloc _, by omega, Nat.le_refl _⟩
  · exact Blk.new2 w _ 95 [.chan (some w.heap.size)]
  · rw [Below.heap_alloc _ _ _ (by simp)]
    exact heap_alloc_new w _

end Go.Proofs.Ytenmcllnddmdhaa
