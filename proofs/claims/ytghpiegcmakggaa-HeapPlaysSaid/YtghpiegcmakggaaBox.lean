/- heap.Box at int: NewBox, Put, Take, Len, each by its contract. -/
import Derived.Test.YtghpiegcmakggaaRows
import Derived.Test.YtghpiegcmakggaaLib
import Derived.Conc.LoneSelect
import Derived.Conc.LoneSelectN
set_option linter.unusedVariables false
set_option linter.unusedSimpArgs false
namespace Go.Lb
open Go Go.RowKit
theorem Upd.setChan {F : List Nat} {w w' : World} (h : Upd F w w') {c : Nat} (hc : c ∈ F ∨ w.heap.size ≤ c) (cap : Nat) (buf : Array Value) (cl : Bool) (s r : Nat) (tm : Bool) : Upd F w (w'.setChan c cap buf cl s r tm) :=
  ⟨h.os, h.tape, h.output, by have := h.size; simp [World.setChan]; omega, fun k hk hF => by
    simp only [World.setChan]
    rw [Array.getElem?_setIfInBounds_ne (by rintro rfl; rcases hc with h1 | h1; exact hF h1; omega)]
    exact h.block k hk hF⟩
theorem Blk.setChan {w : World} {b : Nat} {t : TypeId} {vs : List Value} (h : Blk w b t vs) {c : Nat} (hc : c ≠ b) (cap : Nat) (buf : Array Value) (cl : Bool) (s r : Nat) (tm : Bool) : Blk (w.setChan c cap buf cl s r tm) b t vs := by
  unfold Blk at *
  simp only [World.setChan]
  rw [Array.getElem?_setIfInBounds_ne hc]
  exact h
end Go.Lb
namespace Go.Proofs.Ytghpiegcmakggaa
open Go.RowKit Go.Lb Go.Conc

/-- The mailbox at b, whose channel is block c, has this room and holds q. -/
structure BoxAt (w : World) (b c room : Nat) (q : List Value) : Prop where
  blk : Blk w b 60 [.chan (some c)]
  ch : ∃ s r, w.heap[c]? = some (.chan room q.toArray false s r false)
  ne : c ≠ b

theorem BoxAt.upd {w w' : World} {b c room : Nat} {q : List Value} (h : BoxAt w b c room q) {F : List Nat} (hu : Upd F w w') (hb : b ∉ F) (hc : c ∉ F) : BoxAt w' b c room q := by
  obtain ⟨s, r, e⟩ := h.ch
  exact ⟨hu.blk h.blk hb, ⟨s, r, (hu.block c (lt_of_block e) hc).trans e⟩, h.ne⟩

theorem box_len (b c room : Nat) (q : List Value) (w : World) (h : BoxAt w b c room q) :
    Calls Try.prog 16 #[.pointer (some ⟨b, 0, none⟩)] w fun e w' => e = .returned (.int .i64 q.length) ∧ w = w' := by
  obtain ⟨s, r, hc⟩ := h.ch
  have h0 := h.blk.cell (o := 0) rfl
  have hlen := fun ty => run_len_chan (P := Try.prog) 58 ty Try.underlying58 hc
  go_enter Try.func16, Try.ntmps16
  go_wp2
  go_ret
  exact ⟨by simp, rfl⟩

theorem box_put_room (b c room : Nat) (q : List Value) (x : Int) (w : World) (h : BoxAt w b c room q) (hr : q.length < room) :
    Calls Try.prog 14 #[.pointer (some ⟨b, 0, none⟩), .int .i64 x] w fun e w' => e = .returned (.bool true) ∧ BoxAt w' b c room (q ++ [.int .i64 x]) ∧ Upd [c] w w' := by
  obtain ⟨s, r, hc⟩ := h.ch
  have h0 := h.blk.cell (o := 0) rfl
  refine calls_of_loneTo fun cs => ?_
  have e : Frame.enter Try.prog 14 #[.pointer (some ⟨b, 0, none⟩), .int .i64 x] .normal = (base 14).at ⟨#[.pointer (some ⟨b, 0, none⟩), .int .i64 x, undef, undef, undef, undef, undef, undef, undef, undef, undef, undef, undef], []⟩ [.code (Try.f14.body.getD .skip)] := by
    simp [Frame.enter, Frame.at, Try.func14, base, Try.f14]
  rw [e]
  refine LoneTo.goes (n := 50) ?_
  simp only [Try.f14, Option.getD_some]
  s_c stepG_seq
  s_reg
  s_op
  s_c stepG_region_end
  s_c stepG_seq
  s_c stepG_seq
  s_reg
  s_op
  s_op
  s_op
  s_op
  s_c stepG_region_end
  s_reg
  s_op
  s_c stepG_region_end
  s_c stepG_seq
  s_reg
  s_stop
  refine LoneTo.step (step_lone_select_send_room (c := c) (cap := room) (buf := q.toArray) (s := s) (r := r) (tm := false) (stepG_comm (cases := #[scase c (.int .i64 x) (.int .i64 0)]) (blocking := false) (shape := .select) (w' := w) rfl rfl (by decide) (by simp [go_sem, execOp, scase, Act.eval])) hc (by simpa using hr)) ?_
  rw [Frame.finish_at]
  walk_nrm
  refine LoneTo.goes (n := 30) ?_
  s_op
  s_op
  s_c stepG_region_end
  s_c stepG_block
  s_cond true
  s_c stepG_seq
  s_reg
  s_op
  s_c stepG_region_end
  s_c stepG_ret'
  s_stop
  refine LoneTo.done ⟨.returned (.bool true), _, rfl, ⟨rfl, ⟨h.blk.setChan h.ne _ _ _ _ _ _, ⟨s + 1, r, ?_⟩, h.ne⟩, (Upd.refl _ _).setChan (by simp) _ _ _ _ _ _⟩, rfl, rfl, rfl, rfl, _, Try.func14, by simp [results, Try.f14, Frame.at]⟩
  rw [heap_setChan _ _ _ _ _ _ _ _ (lt_of_block hc)]

theorem box_put_full (b c room : Nat) (q : List Value) (x : Int) (w : World) (h : BoxAt w b c room q) (hr : room ≤ q.length) :
    Calls Try.prog 14 #[.pointer (some ⟨b, 0, none⟩), .int .i64 x] w fun e w' => e = .returned (.bool false) ∧ w = w' := by
  obtain ⟨s, r, hc⟩ := h.ch
  have h0 := h.blk.cell (o := 0) rfl
  refine calls_of_loneTo fun cs => ?_
  have e : Frame.enter Try.prog 14 #[.pointer (some ⟨b, 0, none⟩), .int .i64 x] .normal = (base 14).at ⟨#[.pointer (some ⟨b, 0, none⟩), .int .i64 x, undef, undef, undef, undef, undef, undef, undef, undef, undef, undef, undef], []⟩ [.code (Try.f14.body.getD .skip)] := by
    simp [Frame.enter, Frame.at, Try.func14, base, Try.f14]
  rw [e]
  refine LoneTo.goes (n := 50) ?_
  simp only [Try.f14, Option.getD_some]
  s_c stepG_seq
  s_reg
  s_op
  s_c stepG_region_end
  s_c stepG_seq
  s_c stepG_seq
  s_reg
  s_op
  s_op
  s_op
  s_op
  s_c stepG_region_end
  s_reg
  s_op
  s_c stepG_region_end
  s_c stepG_seq
  s_reg
  s_stop
  refine LoneTo.step (step_lone_select_send_full (c := c) (cap := room) (buf := q.toArray) (s := s) (r := r) (tm := false) (stepG_comm (cases := #[scase c (.int .i64 x) (.int .i64 0)]) (blocking := false) (shape := .select) (w' := w) rfl rfl (by decide) (by simp [go_sem, execOp, scase, Act.eval])) hc (by simpa using hr)) ?_
  rw [Frame.finish_at]
  walk_nrm
  refine LoneTo.goes (n := 30) ?_
  s_op
  s_op
  s_c stepG_region_end
  s_c stepG_block
  s_cond false
  s_c stepG_seq
  s_reg
  s_op
  s_c stepG_region_end
  s_c stepG_ret'
  s_stop
  exact LoneTo.done ⟨.returned (.bool false), _, rfl, ⟨rfl, rfl⟩, rfl, rfl, rfl, rfl, _, Try.func14, by simp [results, Try.f14, Frame.at]⟩

theorem box_take_some (b c room : Nat) (q : List Value) (x : Int) (w : World) (h : BoxAt w b c room (.int .i64 x :: q)) :
    Calls Try.prog 15 #[.pointer (some ⟨b, 0, none⟩)] w fun e w' => e = .returned (.tuple #[.int .i64 x, .bool true]) ∧ BoxAt w' b c room q ∧ Upd [c] w w' := by
  obtain ⟨s, r, hc⟩ := h.ch
  have h0 := h.blk.cell (o := 0) rfl
  refine calls_of_loneTo fun cs => ?_
  have e : Frame.enter Try.prog 15 #[.pointer (some ⟨b, 0, none⟩)] .normal = (base 15).at ⟨#[.pointer (some ⟨b, 0, none⟩), undef, undef, undef, undef, undef, undef, undef, undef, undef, undef, undef, undef, undef, undef, undef], []⟩ [.code (Try.f15.body.getD .skip)] := by
    simp [Frame.enter, Frame.at, Try.func15, base, Try.f15]
  rw [e]
  refine LoneTo.goes (n := 50) ?_
  simp only [Try.f15, Option.getD_some]
  s_c stepG_seq
  s_reg
  s_op
  s_op
  s_c stepG_region_end
  s_c stepG_seq
  s_reg
  s_op
  s_op
  s_op
  s_op
  s_c stepG_region_end
  s_c stepG_seq
  s_reg
  s_stop
  refine LoneTo.step (step_lone_select_recv_buf (c := c) (z := .int .i64 0) (cap := room) (buf := (.int .i64 x :: q).toArray) (closed := false) (s := s) (r := r) (tm := false) (stepG_comm (cases := #[rcase c (.int .i64 0)]) (blocking := false) (shape := .select) (w' := w) rfl rfl (by decide) (by simp [go_sem, execOp, rcase, Act.eval])) hc (by simp)) ?_
  rw [Frame.finish_at]
  walk_nrm
  refine LoneTo.goes (n := 30) ?_
  s_op
  s_op
  s_c stepG_region_end
  s_c stepG_block
  s_cond true
  s_c stepG_seq
  s_reg
  s_op
  s_op
  s_c stepG_region_end
  s_c stepG_seq
  s_reg
  s_op
  s_op
  s_op
  s_c stepG_region_end
  s_c stepG_ret'
  s_stop
  refine LoneTo.done ⟨.returned (.tuple #[.int .i64 x, .bool true]), _, rfl, ⟨rfl, ⟨h.blk.setChan h.ne _ _ _ _ _ _, ⟨s, r + 1, ?_⟩, h.ne⟩, (Upd.refl _ _).setChan (by simp) _ _ _ _ _ _⟩, rfl, rfl, rfl, rfl, _, Try.func15, by simp [results, Try.f15, Frame.at]⟩
  rw [heap_setChan _ _ _ _ _ _ _ _ (lt_of_block hc)]

theorem box_take_none (b c room : Nat) (w : World) (h : BoxAt w b c room []) :
    Calls Try.prog 15 #[.pointer (some ⟨b, 0, none⟩)] w fun e w' => e = .returned (.tuple #[.int .i64 0, .bool false]) ∧ w = w' := by
  obtain ⟨s, r, hc⟩ := h.ch
  have h0 := h.blk.cell (o := 0) rfl
  refine calls_of_loneTo fun cs => ?_
  have e : Frame.enter Try.prog 15 #[.pointer (some ⟨b, 0, none⟩)] .normal = (base 15).at ⟨#[.pointer (some ⟨b, 0, none⟩), undef, undef, undef, undef, undef, undef, undef, undef, undef, undef, undef, undef, undef, undef, undef], []⟩ [.code (Try.f15.body.getD .skip)] := by
    simp [Frame.enter, Frame.at, Try.func15, base, Try.f15]
  rw [e]
  refine LoneTo.goes (n := 50) ?_
  simp only [Try.f15, Option.getD_some]
  s_c stepG_seq
  s_reg
  s_op
  s_op
  s_c stepG_region_end
  s_c stepG_seq
  s_reg
  s_op
  s_op
  s_op
  s_op
  s_c stepG_region_end
  s_c stepG_seq
  s_reg
  s_stop
  refine LoneTo.step (step_lone_select_default (c := c) (z := .int .i64 0) (cap := room) (s := s) (r := r) (tm := false) (stepG_comm (cases := #[rcase c (.int .i64 0)]) (blocking := false) (shape := .select) (w' := w) rfl rfl (by decide) (by simp [go_sem, execOp, rcase, Act.eval])) hc) ?_
  rw [Frame.finish_at]
  walk_nrm
  refine LoneTo.goes (n := 30) ?_
  s_op
  s_op
  s_c stepG_region_end
  s_c stepG_block
  s_cond false
  s_c stepG_seq
  s_reg
  s_op
  s_c stepG_region_end
  s_c stepG_seq
  s_reg
  s_op
  s_op
  s_op
  s_c stepG_region_end
  s_c stepG_ret'
  s_stop
  exact LoneTo.done ⟨.returned (.tuple #[.int .i64 0, .bool false]), _, rfl, ⟨rfl, rfl⟩, rfl, rfl, rfl, rfl, _, Try.func15, by simp [results, Try.f15, Frame.at]⟩

theorem newBox_bad (room : Int) (w : World) (h : room < 1 ∨ 1024 < room) : Calls Try.prog 13 #[.int .i64 room] w fun e w' => e = .returned (.pointer none) ∧ w = w' := by
  rcases h with h | h
  · have hd : decide (room < 1) = true := by simpa using h
    go_enter Try.func13, Try.ntmps13
    go_wp2
    go_ret
    exact ⟨rfl, rfl⟩
  · have hd : decide (room < 1) = false := by simp; omega
    have hd2 : decide (1024 < room) = true := by simpa using h
    go_enter Try.func13, Try.ntmps13
    go_wp2
    go_ret
    exact ⟨rfl, rfl⟩

theorem bytes3 : ∃ i, Try.prog.info? 3 = some i ∧ i.bytes = 8 := by
  have h : (Try.prog.info? 3).map (·.bytes) = some 8 := by kernel_rfl
  obtain ⟨i, hi, hb⟩ := Option.map_eq_some_iff.1 h
  exact ⟨i, hi, hb⟩

theorem newBox_ok (room : Nat) (w : World) (h1 : 1 ≤ room) (h2 : room ≤ 1024) : Calls Try.prog 13 #[.int .i64 room] w fun e w' => ∃ b c, e = .returned (.pointer (some ⟨b, 0, none⟩)) ∧ BoxAt w' b c room [] ∧ Upd [] w w' ∧ w.heap.size ≤ b ∧ w.heap.size ≤ c := by
  obtain ⟨i, hi, hb⟩ := bytes3
  have hmc := run_makeChan (P := Try.prog) (w := w) Try.underlying58 hi .i64 room (by omega) (by rw [hb]; omega)
  have hd : decide ((room : Int) < 1) = false := by simp; omega
  have hd2 : decide (1024 < (room : Int)) = false := by simp; omega
  go_enter Try.func13, Try.ntmps13
  go_wp2
  go_ret
  refine ⟨w.heap.size + 1, w.heap.size, rfl, ⟨?_, ⟨0, 0, ?_⟩, by omega⟩, ((Upd.refl _ _).alloc _).alloc _, by omega, Nat.le_refl _⟩
  · exact Blk.new2 w _ 60 [.chan (some w.heap.size)]
  · rw [Below.heap_alloc _ _ _ (by simp)]
    exact heap_alloc_new w _

end Go.Proofs.Ytghpiegcmakggaa
