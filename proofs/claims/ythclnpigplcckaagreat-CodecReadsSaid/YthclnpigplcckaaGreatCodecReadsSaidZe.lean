/- A part of the proof of CodecReadsSaid: the texts that it leans on, one behind the other. No condition but those that each theorem states. -/
import Derived.Test.YthclnpigplcckaaGreatCodecReadsSaidZd
set_option linter.unusedVariables false
set_option linter.unusedSimpArgs false
/- The reference's In.Flag, Count, Bytes. -/
namespace Go.Proofs.YthclnpigplcckaaGreat
open Go.RowKit Go.Lb Go.Rc

theorem iflag_rd {l l' : List Nat} {b b' : Bool} {n : Int} (h : ROk nget l b n l' b') : Sch.flag.Rd l b (.flag (n == 1)) l' (b' || (!(n == 0) && !(n == 1))) := by
  have h2 := flag_rd h
  have e : (b' || (!(n == 0) && !(n == 1))) = (b' || decide (n < 0) || decide (1 < n)) := by
    cases b' with
    | true => simp
    | false =>
      rw [Bool.eq_iff_iff]
      simp only [Bool.false_or, Bool.and_eq_true, Bool.not_eq_true', beq_eq_false_iff_ne, Bool.or_eq_true, decide_eq_true_eq]
      omega
  rw [e]; exact h2

def IFlagPost (B f : Nat) (l : List Nat) (b : Bool) (w : World) (e : Ending) (w' : World) : Prop :=
  ∃ (t : Bool) (l' : List Nat) (b' : Bool), e = .returned (.bool t) ∧ Ir B w' f l' b' ∧ Upd [f] w w' ∧ Sch.flag.Rd l b (.flag t) l' b'

set_option maxRecDepth 20000 in
set_option maxHeartbeats 1000000 in
theorem iflag_post (B f : Nat) (l : List Nat) (b : Bool) (w : World) (h : Ir B w f l b) : Calls Tryz.prog 72 #[.pointer (some ⟨f, 0, none⟩)] w (IFlagPost B f l b w) := by
  have H := Lib.hid h
  clear h
  go_enter Tryz.func72, Tryz.ntmps72
  go_wp2_with fail
  refine (inum_post B f l b _ H.out).mono ?_
  rintro e w1 ⟨n, l', b', rfl, h1, h2, h3⟩
  obtain ⟨m1, m2, m3, _⟩ := ir_mark h1
  obtain ⟨k1, k2⟩ := ir_set h1 (b' || (!(n == 0) && !(n == 1)))
  have HF : Hid (IFlagPost B f l b w (.returned (.bool (n == 1))) (w1.setCell ⟨f, 1, none⟩ (.bool (b' || (!(n == 0) && !(n == 1)))))) := Lib.hid ⟨_, l', _, rfl, k1, h2.trans k2 (by simp), iflag_rd h3⟩
  clear h1 h2 h3 k1 k2
  have tn : n = 0 ∨ n = 1 ∨ (¬ n = 0 ∧ ¬ n = 1 ∧ (n == 0) = false ∧ (n == 1) = false) := by
    by_cases h0 : n = 0
    · exact .inl h0
    · by_cases h1 : n = 1
      · exact .inr (.inl h1)
      · exact .inr (.inr ⟨h0, h1, by rw [beq_eq_false_iff_ne]; exact h0, by rw [beq_eq_false_iff_ne]; exact h1⟩)
  cases b'
  all_goals
    rcases tn with rfl | rfl | ⟨t1, t2, t3, t4⟩
    all_goals
      go_wp2_with fail
      refine bodyPost_ret (results_tmp rfl _ _ _) rfl ?_
      first | exact HF.out | (have e : (n != 0 && n != 1) = true := (by simp [t1, t2]); have h := HF.out; simp only [Bool.false_or, Bool.true_or, t3, t4, Bool.not_false, Bool.and_self] at h; (try rw [e]); exact h)

def ICountPost (B f : Nat) (l : List Nat) (b : Bool) (w : World) (e : Ending) (w' : World) : Prop :=
  ∃ (k : Nat) (l' : List Nat) (b' : Bool), e = .returned (.int .i64 (k : Int)) ∧ k ≤ 64 ∧ Ir B w' f l' b' ∧ Upd [f] w w' ∧ ROk (lget 64) l b k l' b'

set_option maxRecDepth 20000 in
set_option maxHeartbeats 1000000 in
theorem icount_post (B f : Nat) (l : List Nat) (b : Bool) (w : World) (h : Ir B w f l b) : Calls Tryz.prog 59 #[.pointer (some ⟨f, 0, none⟩)] w (ICountPost B f l b w) := by
  have H := Lib.hid h
  clear h
  go_enter Tryz.func59, Tryz.ntmps59
  go_wp2_with fail
  refine (inum_post B f l b _ H.out).mono ?_
  rintro e w1 ⟨n, l', b', rfl, h1, h2, h3⟩
  obtain ⟨m1, m2, m3, _⟩ := ir_mark h1
  obtain ⟨k1, k2⟩ := ir_set h1 true
  by_cases hn : 0 ≤ n ∧ n ≤ 64
  · obtain ⟨k, rfl⟩ : ∃ k : Nat, n = k := ⟨n.toNat, (Int.toNat_of_nonneg hn.1).symm⟩
    have HF : Hid (ICountPost B f l b w (.returned (.int .i64 (k : Int))) w1) := Lib.hid ⟨k, l', b', rfl, by omega, h1, h2, fun e => ⟨(h3.good e).1, by unfold lget; rw [(h3.good e).2]; simp only [Int.toNat_natCast]; rw [if_pos (by omega)]⟩, fun e => (h3.bad e).imp id fun h => by unfold lget; rw [h]⟩
    have t1 : decide ((k : Int) < 0) = false := by simp
    have t2 : decide ((64 : Int) < (k : Int)) = false := by simp; omega
    clear h1 h2 h3 k1 k2 hn
    go_wp2_with fail
    refine bodyPost_ret (results_tmp rfl _ _ _) rfl ?_
    exact HF.out
  · have HF : Hid (ICountPost B f l b w (.returned (.int .i64 0)) (w1.setCell ⟨f, 1, none⟩ (.bool true))) := Lib.hid ⟨0, l', true, rfl, by omega, k1, h2.trans k2 (by simp), fun e => (by cases e), fun _ => by
      cases b' with
      | true => exact (h3.bad rfl).imp id fun h => by unfold lget; rw [h]
      | false => right; unfold lget; rw [(h3.good rfl).2]; simp only; rw [if_neg (by omega)]⟩
    have tn : decide (n < 0) = true ∨ (decide (n < 0) = false ∧ decide (64 < n) = true) := by
      by_cases h0 : n < 0
      · left; simpa using h0
      · right; exact ⟨by simpa using h0, by simp; omega⟩
    clear h1 h2 h3 k1 k2 hn
    rcases tn with t1 | ⟨t1, t2⟩
    all_goals
      go_wp2_with fail
      refine bodyPost_ret (results_tmp rfl _ _ _) rfl ?_
      exact HF.out
end Go.Proofs.YthclnpigplcckaaGreat
/- The reference's In.Done. -/
namespace Go.Proofs.YthclnpigplcckaaGreat
open Go.RowKit Go.Lb Go.Rc
set_option maxRecDepth 20000 in
theorem idone_post (B f : Nat) (l : List Nat) (b : Bool) (w : World) (h : Ir B w f l b) : Calls Tryz.prog 25 #[.pointer (some ⟨f, 0, none⟩)] w fun e w' => e = .returned (.bool (!b && decide (l = []))) ∧ Upd [] w w' := by
  obtain ⟨a, c, hI⟩ := h
  have c0 := hI.blk.cell (o := 0) rfl
  have c1 := hI.blk.cell (o := 1) rfl
  have c2 := hI.blk.lt
  clear hI
  cases b
  · by_cases hl : l = []
    · have t1 : ((l.length : Int) == 0) = true := by subst hl; rfl
      have HE : Hid ((!false && decide (l = [])) = true) := Lib.hid (by simp [hl])
      clear hl
      go_enter Tryz.func25, Tryz.ntmps25
      go_wp2_with fail
      refine bodyPost_ret (results_tmp rfl _ _ _) rfl ?_
      exact ⟨by rw [HE.out]; rfl, Upd.refl _ _⟩
    · have t1 : ((l.length : Int) == 0) = false := by
        rw [beq_eq_false_iff_ne]
        intro e
        exact hl (List.eq_nil_of_length_eq_zero (by omega))
      have HE : Hid ((!false && decide (l = [])) = false) := Lib.hid (by simp [hl])
      clear hl
      go_enter Tryz.func25, Tryz.ntmps25
      go_wp2_with fail
      refine bodyPost_ret (results_tmp rfl _ _ _) rfl ?_
      exact ⟨by rw [HE.out]; rfl, Upd.refl _ _⟩
  · have HE : Hid ((!true && decide (l = [])) = false) := Lib.hid (by simp)
    go_enter Tryz.func25, Tryz.ntmps25
    go_wp2_with fail
    refine bodyPost_ret (results_tmp rfl _ _ _) rfl ?_
    exact ⟨by rw [HE.out]; rfl, Upd.refl _ _⟩
end Go.Proofs.YthclnpigplcckaaGreat
/- A record's fields, read by the reference one behind the other: where the reading stands; a record built out of its fields. -/
namespace Go.Rc
open Go Go.RowKit Go.Lb
/-- Places one behind the other. -/
def offsFrom : Nat → List Nat → List (Nat × Nat)
  | _, [] => []
  | o, n :: r => (o, n) :: offsFrom (o + n) r
theorem foldl_put (c : List Value) : ∀ (k : Nat) (pre mid post : List Value), mid.length = c.length →
    (c.zipIdx k).foldl (fun (cs : Array Value) (x : Value × Nat) => cs.setIfInBounds (pre.length + (x.2 - k)) x.1) (pre ++ mid ++ post).toArray = (pre ++ c ++ post).toArray := by
  intro k pre mid post h
  induction c generalizing k pre mid with
  | nil => simp at h; subst h; simp
  | cons x c ih =>
    match mid, h with
    | y :: mid, h =>
      rw [List.zipIdx_cons, List.foldl_cons]
      simp only [Nat.sub_self, Nat.add_zero]
      have e1 : (pre ++ (y :: mid) ++ post).toArray.setIfInBounds pre.length x = (pre ++ [x] ++ mid ++ post).toArray := by simp
      rw [e1]
      have h2 := ih (k + 1) (pre ++ [x]) mid (by simpa using h)
      have e2 : ∀ (arr : Array Value), (c.zipIdx (k + 1)).foldl (fun (cs : Array Value) (z : Value × Nat) => cs.setIfInBounds (pre.length + (z.2 - k)) z.1) arr = (c.zipIdx (k + 1)).foldl (fun (cs : Array Value) (z : Value × Nat) => cs.setIfInBounds ((pre ++ [x]).length + (z.2 - (k + 1))) z.1) arr := by
        intro arr
        have key : ∀ (l : List (Value × Nat)), (∀ z ∈ l, k + 1 ≤ z.2) → ∀ arr : Array Value, l.foldl (fun (cs : Array Value) (z : Value × Nat) => cs.setIfInBounds (pre.length + (z.2 - k)) z.1) arr = l.foldl (fun (cs : Array Value) (z : Value × Nat) => cs.setIfInBounds ((pre ++ [x]).length + (z.2 - (k + 1))) z.1) arr := by
          intro l
          induction l with
          | nil => intro _ arr; rfl
          | cons z l ih2 =>
            intro hz arr
            rw [List.foldl_cons, List.foldl_cons, ih2 (fun y hy => hz y (by simp [hy]))]
            have := hz z (by simp)
            rw [show pre.length + (z.2 - k) = (pre ++ [x]).length + (z.2 - (k + 1)) by simp; omega]
        refine key _ (fun z hz => ?_) arr
        obtain ⟨v, j⟩ := z
        have := List.mem_zipIdx hz
        exact this.1
      rw [e2, h2]
      simp
/-- Parts one behind the other are laid. -/
theorem fill_seq {place : Nat → Option (Nat × Nat)} : ∀ (vs : List Value) (k : Nat) (done tail : List Value) (css : List (List Value)),
    vs.map (fun v => v.cells.toList) = css → (∀ i c, css[i]? = some c → place (k + i) = some (done.length + (css.take i).flatten.length, c.length)) → css.flatten.length ≤ tail.length →
    Instr.fill place (done ++ tail).toArray ((vs.zipIdx k).map fun x => (x.2, x.1)) = some (done ++ css.flatten ++ tail.drop css.flatten.length).toArray
  | [], k, done, tail, css, h1, h2, h3 => by
    subst h1; simp [Instr.fill]
  | v :: vs, k, done, tail, css, h1, h2, h3 => by
    subst h1
    obtain ⟨c, hc⟩ : ∃ c, c = v.cells.toList := ⟨_, rfl⟩
    have hsz : v.cells.size = c.length := by rw [hc]; simp
    have h20 := h2 0 c (by simp [hc])
    simp only [List.take_zero, List.flatten_nil, List.length_nil, Nat.add_zero] at h20
    simp only [List.map_cons, List.flatten_cons, List.length_append, ← hc] at h3
    rw [List.zipIdx_cons, List.map_cons, Instr.fill]
    simp only [h20, hsz]
    rw [if_neg (by simp; omega)]
    have e0 : tail = tail.take c.length ++ tail.drop c.length := (List.take_append_drop _ _).symm
    have e1 : v.cells.zipIdx.foldl (fun cs (x : Value × Nat) => cs.setIfInBounds (done.length + x.2) x.1) (done ++ tail).toArray = (done ++ c ++ tail.drop c.length).toArray := by
      have := foldl_put c 0 done (tail.take c.length) (tail.drop c.length) (by simp; omega)
      simp only [Nat.sub_zero, List.append_assoc, List.take_append_drop] at this
      rw [List.append_assoc, ← this, ← Array.foldl_toList]
      simp [hc]
    rw [e1]
    have ih := fill_seq (place := place) vs (k + 1) (done ++ c) (tail.drop c.length) (vs.map fun v => v.cells.toList) rfl (fun i d hd => by
      have := h2 (i + 1) d (by simpa using hd)
      rw [show k + 1 + i = k + (i + 1) by omega, this]
      simp only [List.map_cons, List.take_succ_cons, List.flatten_cons, List.length_append, ← hc]
      congr 2
      omega) (by rw [List.length_drop]; omega)
    rw [ih]
    simp [← hc, List.append_assoc, List.drop_drop, Nat.add_comm]
theorem offs_get : ∀ (ns : List Nat) (o i n : Nat), ns[i]? = some n → (offsFrom o ns)[i]? = some (o + (ns.take i).sum, n)
  | [], o, i, n, h => by simp at h
  | m :: ns, o, 0, n, h => by simp at h; subst h; simp [offsFrom]
  | m :: ns, o, i + 1, n, h => by
    simp only [List.getElem?_cons_succ] at h
    simp only [offsFrom, List.getElem?_cons_succ, offs_get ns (o + m) i n h, List.take_succ_cons, List.sum_cons]
    congr 2; omega
/-- The places of a struct's fields. -/
def placesOf (P : Program) (t : TypeId) : Option (List (Nat × Nat)) := match P.underlying t with
  | some (.struct fs) => fs.toList.mapM (fun f => (P.info? f.type).map fun i => (f.offset, i.size))
  | _ => none
theorem flatten_length (css : List (List Value)) : css.flatten.length = (css.map (·.length)).sum := by simp [List.length_flatten]
theorem built_seq {P : Program} {t : TypeId} (sizes : List Nat) (zs : List Value) (hz : ((P.info? t).bind (·.zero)).map (·.cells.toList) = some zs) (hp : placesOf P t = some (offsFrom 0 sizes)) (hzl : zs.length = sizes.sum)
    (vs : List Value) (css : List (List Value)) (hv : vs.map (fun v => v.cells.toList) = css) (hcs : css.map (·.length) = sizes.take css.length) :
    P.built t ((vs.zipIdx 0).map fun x => (x.2, x.1)) = some (css.flatten ++ zs.drop css.flatten.length).toArray := by
  unfold Program.built
  unfold placesOf at hp
  cases hit : P.info? t with
  | none => simp [hit] at hz
  | some it =>
    cases hu : P.underlying t with
    | none => simp [hu] at hp
    | some d =>
      cases d <;> try (simp [hu] at hp; done)
      case struct fs =>
        cases hzz : it.zero with
        | none => simp [hit, hzz] at hz
        | some z =>
          simp only [hit, hzz, Option.bind_some, Option.map_some, Option.some.injEq] at hz
          simp only [hu] at hp
          simp only [hzz, hp]
          have hz2 : z.cells = ([] ++ zs).toArray := by rw [← hz]; simp
          rw [hz2]
          have hlen : css.flatten.length ≤ zs.length := by
            rw [flatten_length, hcs, hzl]
            have h : (sizes.take css.length).sum + (sizes.drop css.length).sum = sizes.sum := by rw [← List.sum_append, List.take_append_drop]
            omega
          have := fill_seq (place := fun i => (offsFrom 0 sizes).toArray[i]?) vs 0 [] zs css hv (fun i c hc => by
            have h1 : (css.map (·.length))[i]? = some c.length := by simp [hc]
            have hi := (List.getElem?_eq_some_iff.1 hc).1
            rw [hcs, List.getElem?_take, if_pos hi] at h1
            have h2 := offs_get sizes 0 i c.length h1
            simp only [Nat.zero_add, List.length_nil, List.getElem?_toArray, h2, flatten_length, List.map_take]
            rw [hcs, List.take_take, Nat.min_eq_left (by omega)]) hlen
          simpa using this
/-- Where a reading stands: the fields fs are read; their cells cs lie in blocks that have come since, none of them in N. -/
structure IRdG (T : TypeId) (mk : Value → Bool → List Value) (N : List Nat) (B f : Nat) (w wc : World) (l : List Nat) (b : Bool) (lc : List Nat) (bc : Bool) (fs : List (Sch × Val)) (cs : List Value) : Prop where
  fr : Rs T mk B wc f lc bc
  upd : Upd [f] w wc
  rep : RepSeq wc (fun k => Nw w.heap.size wc k ∧ k ∉ N) fs cs
  seq : RSeq fs l b lc bc
  max : ∀ x ∈ fs, x.1.wmax x.2 ≤ x.1.most
  low : f < w.heap.size ∧ B ≤ f ∧ ∀ n ∈ N, w.heap.size ≤ n ∧ n < wc.heap.size
section
variable {T : TypeId} {mk : Value → Bool → List Value} {N F : List Nat} {B f p : Nat} {w wc w' : World} {l lc l' : List Nat} {b bc b' : Bool} {fs : List (Sch × Val)} {cs c : List Value} {s : Sch} {v : Val}
theorem IRdG.start (h : Rs T mk B w f l b) (hf : f < w.heap.size) (hB : B ≤ f) : IRdG T mk [] B f w w l b l b [] [] :=
  ⟨h, Upd.refl _ _, RepSeq.nil, ⟨rfl, rfl⟩, by simp, hf, hB, by simp⟩
/-- The world goes on; blocks of N may change. -/
theorem IRdG.on (h : IRdG T mk N B f w wc l b lc bc fs cs) (u : Upd F wc w') (hF : ∀ k ∈ F, k ∈ N) : IRdG T mk N B f w w' l b lc bc fs cs := by
  have hn : ∀ k ∈ F, k ≠ f ∧ B ≤ k ∧ w.heap.size ≤ k := fun k hk => by
    have h1 := h.low.2.2 k (hF k hk)
    have h2 := h.low
    omega
  refine ⟨h.fr.upd u (fun k hk => ⟨(hn k hk).1, (hn k hk).2.1⟩), h.upd.trans u (fun k hk => .inr (hn k hk).2.2), h.rep.keep (fun k hk hl => ⟨⟨hk.1.go (Nat.le_refl _) (u.block k hl (fun hm => hk.2 (hF k hm))), hk.2⟩, u.block k hl (fun hm => hk.2 (hF k hm))⟩) u.size, h.seq, h.max, h.low.1, h.low.2.1, fun n hm => ⟨(h.low.2.2 n hm).1, Nat.lt_of_lt_of_le (h.low.2.2 n hm).2 u.size⟩⟩
theorem IRdG.same (h : IRdG T mk N B f w wc l b lc bc fs cs) (u : Upd [] wc w') : IRdG T mk N B f w w' l b lc bc fs cs := h.on u (by simp)
/-- A block that has come is set apart. -/
theorem IRdG.apart (h : IRdG T mk N B f w wc l b lc bc fs cs) (u : Upd [] wc w') (hp : wc.heap.size ≤ p) (hp' : p < w'.heap.size) : IRdG T mk (p :: N) B f w w' l b lc bc fs cs := by
  have h2 := h.same u
  refine ⟨h2.fr, h2.upd, h.rep.keep (fun k hk hl => ⟨⟨hk.1.go (Nat.le_refl _) (u.block k hl (by simp)), fun hm => ?_⟩, u.block k hl (by simp)⟩) u.size, h2.seq, h2.max, h2.low.1, h2.low.2.1, fun n hn => ?_⟩
  · rcases List.mem_cons.1 hm with rfl | hm
    · omega
    · exact hk.2 hm
  · rcases List.mem_cons.1 hn with rfl | hn
    · have := h.upd.size; exact ⟨by omega, hp'⟩
    · exact h2.low.2.2 n hn
/-- The next field is read. -/
theorem IRdG.next (h : IRdG T mk N B f w wc l b lc bc fs cs) (h1 : Rs T mk B w' f l' b') (h2 : Upd (f :: F) wc w') (hF : ∀ k ∈ F, k ∈ N) (h3 : s.Rep w' (Nw wc.heap.size w') c v) (h4 : s.Rd lc bc v l' b') (h5 : s.wmax v ≤ s.most) : IRdG T mk N B f w w' l b l' b' (fs ++ [(s, v)]) (cs ++ c) := by
  have hlow := h.low
  have hnb : ∀ k, w.heap.size ≤ k → k ∉ N → k ∉ f :: F := fun k hk hn hm => by
    rcases List.mem_cons.1 hm with rfl | hm
    · omega
    · exact hn (hF k hm)
  refine ⟨h1, h.upd.trans h2 (fun k hk => ?_), RepSeq.snoc (h.rep.keep (fun k hk hl => ⟨⟨hk.1.go (Nat.le_refl _) (h2.block k hl (hnb k hk.1.1 hk.2)), hk.2⟩, h2.block k hl (hnb k hk.1.1 hk.2)⟩) h2.size) (h3.mono (fun k hk hl => ⟨hk.go h.upd.size rfl, fun hm => ?_⟩)), h.seq.snoc h4, ?_, hlow.1, hlow.2.1, fun n hn => ⟨(hlow.2.2 n hn).1, Nat.lt_of_lt_of_le (hlow.2.2 n hn).2 h2.size⟩⟩
  · rcases List.mem_cons.1 hk with rfl | hk
    · simp
    · exact .inr (hlow.2.2 k (hF k hk)).1
  · have h6 := (hlow.2.2 k hm).2; have h7 := hk.1; omega
  · intro x hx
    rcases List.mem_append.1 hx with hx | hx
    · exact h.max x hx
    · simp at hx; subst hx; exact h5
theorem IRdG.one (h : IRdG T mk N B f w wc l b lc bc fs cs) : ∀ u ∈ cs, u.oneCell' = true := Sch.Rep.one h.rep
theorem IRdG.onec (h : IRdG T mk N B f w wc l b lc bc fs (cs ++ c)) : ∀ u ∈ c, u.oneCell' = true := fun u hu => Sch.Rep.one h.rep u (by simp [hu])
theorem tup_most : ∀ (fs : List (Sch × Val)), (∀ x ∈ fs, x.1.wmax x.2 ≤ x.1.most) → (tup (fs.map (·.1))).wmax (vtup (fs.map (·.2))) ≤ (tup (fs.map (·.1))).most
  | [], _ => by simp [tup, vtup, Sch.wmax, Sch.most]
  | x :: l, h => by
    have h1 := tup_most l (fun y hy => h y (by simp [hy]))
    have h2 := h x (by simp)
    simp only [List.map_cons, tup, vtup, Sch.wmax, Sch.most]
    omega
end
end Go.Rc
namespace Go.Proofs.YthclnpigplcckaaGreat
open Go.RowKit Go.Lb Go.Rc
/-- What a thing's reading by the reference does. -/
def IPost (s : Sch) (B f : Nat) (l : List Nat) (b : Bool) (w : World) (e : Ending) (w' : World) : Prop :=
  ∃ v cs l' b', e = .returned (argOf s cs) ∧ Ir B w' f l' b' ∧ Upd [f] w w' ∧ s.Rep w' (Nw w.heap.size w') cs v ∧ s.Rd l b v l' b' ∧ s.wmax v ≤ s.most
def IReads (K : Nat) (s : Sch) : Prop := ∀ (B f : Nat) (l : List Nat) (b : Bool) (w : World), Ir B w f l b → Calls Tryz.prog K #[.pointer (some ⟨f, 0, none⟩)] w (IPost s B f l b w)
abbrev IRd (N : List Nat) (B f : Nat) (w wc : World) (l : List Nat) (b : Bool) (lc : List Nat) (bc : Bool) (fs : List (Sch × Val)) (cs : List Value) : Prop := IRdG 81 oW N B f w wc l b lc bc fs cs
section
variable {N F : List Nat} {B f p : Nat} {w wc w' : World} {l lc l' : List Nat} {b bc b' : Bool} {fs : List (Sch × Val)} {cs c : List Value} {s : Sch} {v : Val}
theorem IRd.go {K : Nat} (C : IReads K s) (h : IRd N B f w wc l b lc bc fs cs) : Calls Tryz.prog K #[.pointer (some ⟨f, 0, none⟩)] wc fun e w' => ∃ v c l' b', e = .returned (argOf s c) ∧ c.length = s.size ∧ Upd [f] wc w' ∧ IRd N B f w w' l b l' b' (fs ++ [(s, v)]) (cs ++ c) :=
  (C B f lc bc wc h.fr).mono fun e w' ⟨v, c, l', b', he, h1, h2, h3, h4, h5⟩ => ⟨v, c, l', b', he, h3.len, h2, h.next (F := []) h1 h2 (by simp) h3 h4 h5⟩
theorem inum_reads : IReads 56 .num := fun B f l b w h =>
  (inum_post B f l b w h).mono fun e w' ⟨n, l', b', he, h1, h2, h3⟩ => ⟨.num n, [.int .i64 n], l', b', he, h1, h2, Sch.Rep.num_mk n, Sch.Rd.num h3, by simp [Sch.wmax, Sch.most]⟩
theorem IRd.goNum (h : IRd N B f w wc l b lc bc fs cs) : Calls Tryz.prog 56 #[.pointer (some ⟨f, 0, none⟩)] wc fun e w' => ∃ n l' b', e = .returned (.int .i64 n) ∧ Upd [f] wc w' ∧ IRd N B f w w' l b l' b' (fs ++ [(.num, .num n)]) (cs ++ [.int .i64 n]) :=
  (inum_post B f lc bc wc h.fr).mono fun e w' ⟨n, l', b', he, h1, h2, h3⟩ => ⟨n, l', b', he, h2, h.next (F := []) h1 h2 (by simp) (Sch.Rep.num_mk n) (Sch.Rd.num h3) (by simp [Sch.wmax, Sch.most])⟩
theorem IRd.goFlag (h : IRd N B f w wc l b lc bc fs cs) : Calls Tryz.prog 72 #[.pointer (some ⟨f, 0, none⟩)] wc fun e w' => ∃ t l' b', e = .returned (.bool t) ∧ Upd [f] wc w' ∧ IRd N B f w w' l b l' b' (fs ++ [(.flag, .flag t)]) (cs ++ [.bool t]) :=
  (iflag_post B f lc bc wc h.fr).mono fun e w' ⟨t, l', b', he, h1, h2, h3⟩ => ⟨t, l', b', he, h2, h.next (F := []) h1 h2 (by simp) ⟨t, rfl, rfl⟩ h3 (by simp [Sch.wmax, Sch.most])⟩
theorem IRd.goList {K : Nat} (C : IReads K (.list s)) (h : IRd N B f w wc l b lc bc fs cs) : Calls Tryz.prog K #[.pointer (some ⟨f, 0, none⟩)] wc fun e w' => ∃ a n k v l' b', e = .returned (.slice a n k) ∧ Upd [f] wc w' ∧ IRd N B f w w' l b l' b' (fs ++ [(.list s, .list v)]) (cs ++ [.slice a n k]) :=
  (C B f lc bc wc h.fr).mono fun e w' ⟨v, c, l', b', he, h1, h2, h3, h4, h5⟩ => by
    have h3c := h3
    obtain ⟨a, k, v', rfl, rfl, _⟩ := h3c
    exact ⟨a, v'.length, k, v', l', b', he, h2, h.next (F := []) h1 h2 (by simp) h3 h4 h5⟩
theorem IRd.goRaw {K : Nat} (C : IReads K .raw) (h : IRd N B f w wc l b lc bc fs cs) : Calls Tryz.prog K #[.pointer (some ⟨f, 0, none⟩)] wc fun e w' => ∃ a n k v l' b', e = .returned (.slice a n k) ∧ Upd [f] wc w' ∧ IRd N B f w w' l b l' b' (fs ++ [(.raw, .raw v)]) (cs ++ [.slice a n k]) :=
  (C B f lc bc wc h.fr).mono fun e w' ⟨v, c, l', b', he, h1, h2, h3, h4, h5⟩ => by
    have h3c := h3
    obtain ⟨a, k, v', rfl, rfl, _⟩ := h3c
    exact ⟨a, v'.length, k, v', l', b', he, h2, h.next (F := []) h1 h2 (by simp) h3 h4 h5⟩
theorem IRd.fin (h : IRd N B f w wc l b lc bc fs cs) (hs : s = tup (fs.map (·.1))) (ht : s ≠ .nil) : IPost s B f l b w (.returned (.agg cs.toArray)) wc := by
  subst hs
  refine ⟨vtup (fs.map fun x : Sch × Val => x.2), cs, lc, bc, ?_, h.fr, h.upd, Sch.Rep.mono h.rep (fun k hk _ => hk.1), RSeq.tup h.seq, tup_most fs h.max⟩
  cases fs with
  | nil => exact absurd rfl ht
  | cons x r => rfl
end
section
variable {N F : List Nat} {B f p o q : Nat} {tp : TypeId} {w wc w' wd : World} {l lc l' : List Nat} {b bc b' : Bool} {fs : List (Sch × Val)} {cs c : List Value} {s : Sch} {rest : List Sch} {v : Value}
theorem set_app (cs : List Value) (z v : Value) (r : List Value) : (cs ++ (z :: r)).set cs.length v = cs ++ [v] ++ r := by simp
/-- What was read is stored into the record, one cell. -/
theorem IRd.store1 (h : IRd [p] B f w wc l b lc bc fs (cs ++ [v])) (hb : Blk wc p tp (cs ++ (tup (s :: rest)).zc)) (hz : s.zc.length = 1) (ho : o = cs.length) :
    IRd [p] B f w (wc.setCell ⟨p, o, none⟩ v) l b lc bc fs (cs ++ [v]) ∧ Blk (wc.setCell ⟨p, o, none⟩ v) p tp (cs ++ [v] ++ (tup rest).zc) := by
  subst ho
  obtain ⟨z, hz⟩ := List.length_eq_one_iff.1 hz
  refine ⟨h.on (F := [p]) ((Upd.refl _ _).setCell (by simp) _) (by simp), ?_⟩
  have h2 := hb.set cs.length v
  rw [show (tup (s :: rest)).zc = z :: (tup rest).zc by simp only [tup, Sch.zc, hz]; rfl, set_app] at h2
  exact h2
theorem Blk.setCells' : ∀ (us vs : List Value) (o : Nat) (w : World), Blk w p tp vs → Blk (w.setCells p o us) p tp (setsFrom vs o us)
  | [], _, _, _, h => h
  | x :: r, vs, o, w, h => Blk.setCells' r _ (o + 1) _ (h.set o x)
/-- .. many cells. -/
theorem IRd.storeN (h : IRd [p] B f w wc l b lc bc fs (cs ++ c)) (hb : Blk wc p tp (cs ++ (tup (s :: rest)).zc)) (hc : c.length = s.zc.length) (ho : o = cs.length) :
    IRd [p] B f w (wc.setCells p o c) l b lc bc fs (cs ++ c) ∧ Blk (wc.setCells p o c) p tp (cs ++ c ++ (tup rest).zc) := by
  subst ho
  refine ⟨h.on (F := [p]) (Upd.setCells _ _ _ _ _ (Upd.refl _ _) (by simp)) (by simp), ?_⟩
  have h2 := Blk.setCells' c _ cs.length wc hb
  have e : (tup (s :: rest)).zc = s.zc ++ (tup rest).zc := rfl
  rw [setsFrom_eq _ _ _ (by simp [e]; omega), e] at h2
  have e2 : (cs ++ (s.zc ++ (tup rest).zc)).take cs.length = cs := by simp
  have e3 : (cs ++ (s.zc ++ (tup rest).zc)).drop (cs.length + c.length) = (tup rest).zc := by
    rw [← List.append_assoc, List.drop_append, List.drop_of_length_le (by simp; omega), List.nil_append, List.length_append, hc, Nat.sub_self, List.drop_zero]
  rw [e2, e3] at h2
  exact h2
theorem blk_there {vs : List Value} (hb : Blk w p tp vs) (o n : Nat) (h : o + n ≤ vs.length) : w.there p o n := fun j hj => by
  refine ⟨?_, hb.frozen _⟩
  rw [hb.cell (List.getElem?_eq_getElem (by omega))]; rfl
theorem IRd.blkf (h : IRd [p] B f w wc l b lc bc fs cs) (u : Upd [f] wc w') {vs : List Value} (hb : Blk wc p tp vs) : Blk w' p tp vs := by
  have h1 := h.low
  have h2 := h1.2.2 p (by simp)
  exact u.blk hb (by simp; omega)
/-- Many cells are stored into a block. -/
theorem wpList_store_cs {P : Program} {ops : Array Oper} {rs : List Oper} {op : Oper} {a : Act} {w : World} {Q : Exit → Act → World → Prop} (hgd : op.guard = none) (ty : TypeId) (x y : Operand) (ho : op.op = .store ty x y)
    (p o : Nat) (c : List Value) (hx : a.eval x = .pointer (some ⟨p, o, none⟩)) (hy : a.eval y = .agg c.toArray) {vs : List Value} (hb : Blk w p tp vs) (hl : o + c.length ≤ vs.length)
    (hi : (P.info? ty).map (·.size) = some c.length) (h1 : ∀ u ∈ c, u.oneCell' = true) (h : ∀ w', w' = w.setCells p o c → wpList P ops Q rs (a.put op.dst undef) w') : wpList P ops Q (op :: rs) a w :=
  wpList_store_mid hgd ty x y ho p o c.toArray hx hy (blk_there hb o _ (by simpa using hl)) (by simpa using hi) (all_oneCell_toArray h1) (h _ rfl)
/-- A whole record is told. -/
theorem IRd.fin' (h : IRd N B f w wc l b lc bc fs cs) (u : Upd [] wd w) (u2 : Upd [q] wc w') (hq : q < w.heap.size) (hqf : q ≠ f) (hqB : B ≤ q) (hqw : wd.heap.size ≤ q) (hs : s = tup (fs.map (·.1))) (ht : s ≠ .nil) (hf : f < wd.heap.size) : IPost s B f l b wd (.returned (.agg cs.toArray)) w' := by
  obtain ⟨v, c, l', b', he, h1, h2, h3, h4, h5⟩ := IRd.fin h hs ht
  have e : argOf s c = .agg c.toArray := by
    subst hs
    cases fs with
    | nil => exact absurd rfl ht
    | cons x r => rfl
  rw [e] at he
  have e2 : c = cs := by
    simp only [Ending.returned.injEq, Value.agg.injEq] at he
    have := congrArg Array.toList he
    simpa using this.symm
  subst e2
  refine ⟨v, c, l', b', by rw [e], h1.upd u2 (by simp; omega), ?_, ?_, h4, h5⟩
  · refine ⟨u2.os.trans (h2.os.trans u.os), u2.tape.trans (h2.tape.trans u.tape), u2.output.trans (h2.output.trans u.output), Nat.le_trans u.size (Nat.le_trans h2.size u2.size), fun k hk hF => ?_⟩
    have hkf : k ∉ [f] := hF
    rw [u2.block k (Nat.lt_of_lt_of_le hk (Nat.le_trans u.size h2.size)) (by simp; omega), h2.block k (Nat.lt_of_lt_of_le hk u.size) hkf, u.block k hk (by simp)]
  · exact h3.keep (fun k hk hl => have hk1 := hk.1; have e := u2.block k hl (by simp; omega); ⟨hk.go u.size e, e⟩) u2.size
end
end Go.Proofs.YthclnpigplcckaaGreat
/- The reference's res, read. -/
namespace Go.Proofs.YthclnpigplcckaaGreat
open Go.RowKit Go.Lb Go.Rc

set_option maxRecDepth 20000 in
set_option maxHeartbeats 4000000 in
theorem ires_reads : IReads 97 sRes := fun B f l b w h => by
  obtain ⟨_, _, hf, hBf⟩ := ir_mark h
  have H := Lib.hid h
  clear h
  go_enter Tryz.func97, Tryz.ntmps97
  go_wp2_with (refine wpList_alloc_blk rfl 27 rfl sRes.zc (zero27 _) ?_; intro w0 hA uA; have HA := Lib.hid hA; have UA := Lib.hid uA; clear hA uA)
  have s0 := HA.out.lt
  have H0 := Lib.hid (IRdG.start ((H.out).upd UA.out (by simp)) (Nat.lt_of_lt_of_le hf UA.out.size) hBf)
  refine (IRd.goNum H0.out).mono ?_
  rintro e w1 ⟨n1, l1, b1, rfl, u, h⟩
  have H1 := Lib.hid h
  clear u h
  go_wp2_with fail
  refine (IRd.goNum H1.out).mono ?_
  rintro e w2 ⟨n2, l2, b2, rfl, u, h⟩
  have H2 := Lib.hid h
  clear u h
  obtain ⟨cs2, hcs2⟩ : ∃ z : List Value, z = (([] ++ [.int .i64 n1]) ++ [.int .i64 n2]) := ⟨_, rfl⟩
  have cs2l : cs2.length = 2 := by rw [hcs2]; simp
  have HBU : Hid (Tryz.prog.built 27 [(0, .int .i64 n1), (1, .int .i64 n2)] = some (cs2 ++ (tup []).zc).toArray) := Lib.hid (by
    have e := built_seq (P := Tryz.prog) (t := 27) [1, 1] sRes.zc (by kernel_rfl) (by kernel_rfl) (by rfl) [.int .i64 n1, .int .i64 n2] [[.int .i64 n1], [.int .i64 n2]] rfl (by simp [])
    rw [show List.flatten [[.int .i64 n1], [.int .i64 n2]] = cs2 from by rw [hcs2]; simp, show (sRes.zc).drop cs2.length = (tup []).zc from by rw [cs2l]; rfl] at e
    simp only [List.zipIdx_cons, List.zipIdx_nil, List.map_cons, List.map_nil, Nat.reduceAdd] at e
    exact e)
  have HI := H2.out
  rw [← hcs2] at HI
  have H2 := Lib.hid HI
  have HCS := Lib.hid hcs2
  clear HI hcs2
  have HA2 := Lib.hid (H2.out.upd.blk HA.out (by have := hf; simp; omega))
  have hone := Lib.hid H2.out.one
  go_wp2_with (first | (refine wpList_store_blk rfl 27 (.tmp 2) (.tmp 7) rfl w.heap.size (cs2 ++ (tup []).zc) rfl rfl HA2.out (by rw [show (tup []).zc = [] from rfl, List.append_nil, cs2l]; exact Tryz.size27) (by rw [show (tup []).zc = [] from rfl, List.append_nil, cs2l]; rfl) (by rw [show (tup []).zc = [] from rfl, List.append_nil]; exact hone.out) ?_; intro wz hz uz) | (refine wpList_buildTo rfl 27 #[(0, .tmp 4), (1, .tmp 6)] rfl (some 7) rfl (cs2 ++ (tup []).zc).toArray (by have h := HBU.out; simp [Act.eval]; with_reducible exact h) ?_))
  rw [show (tup []).zc = [] from rfl, List.append_nil] at hz
  have hld := run_loadVar_blk (P := Tryz.prog) hz 27 _ Tryz.underlying27 rfl (by rw [cs2l]; exact Tryz.size27)
  refine bodyPost_ret (v := .agg cs2.toArray) ?_ rfl (IRd.fin' H2.out UA.out uz s0 (by omega) (by omega) (Nat.le_refl _) (by simp only [List.map_append, List.map_cons, List.map_nil, List.nil_append, List.append_assoc, List.cons_append]; rfl) (by intro h; cases h) hf)
  simp [results, Tryz.results97, asAddr, Act.put, hld]
end Go.Proofs.YthclnpigplcckaaGreat
/- The reference's job, read. -/
namespace Go.Proofs.YthclnpigplcckaaGreat
open Go.RowKit Go.Lb Go.Rc

set_option maxRecDepth 20000 in
set_option maxHeartbeats 4000000 in
theorem ijob_reads : IReads 57 sJob := fun B f l b w h => by
  obtain ⟨_, _, hf, hBf⟩ := ir_mark h
  have H := Lib.hid h
  clear h
  go_enter Tryz.func57, Tryz.ntmps57
  go_wp2_with (refine wpList_alloc_blk rfl 25 rfl sJob.zc (zero25 _) ?_; intro w0 hA uA; have HA := Lib.hid hA; have UA := Lib.hid uA; clear hA uA)
  have s0 := HA.out.lt
  have H0 := Lib.hid (IRdG.start ((H.out).upd UA.out (by simp)) (Nat.lt_of_lt_of_le hf UA.out.size) hBf)
  refine (IRd.goNum H0.out).mono ?_
  rintro e w1 ⟨n1, l1, b1, rfl, u, h⟩
  have H1 := Lib.hid h
  clear u h
  go_wp2_with fail
  refine (IRd.goNum H1.out).mono ?_
  rintro e w2 ⟨n2, l2, b2, rfl, u, h⟩
  have H2 := Lib.hid h
  clear u h
  go_wp2_with fail
  refine (IRd.goNum H2.out).mono ?_
  rintro e w3 ⟨n3, l3, b3, rfl, u, h⟩
  have H3 := Lib.hid h
  clear u h
  go_wp2_with fail
  refine (IRd.goNum H3.out).mono ?_
  rintro e w4 ⟨n4, l4, b4, rfl, u, h⟩
  have H4 := Lib.hid h
  clear u h
  obtain ⟨cs4, hcs4⟩ : ∃ z : List Value, z = (((([] ++ [.int .i64 n1]) ++ [.int .i64 n2]) ++ [.int .i64 n3]) ++ [.int .i64 n4]) := ⟨_, rfl⟩
  have cs4l : cs4.length = 4 := by rw [hcs4]; simp
  have HBU : Hid (Tryz.prog.built 25 [(0, .int .i64 n1), (1, .int .i64 n2), (2, .int .i64 n3), (3, .int .i64 n4)] = some (cs4 ++ (tup [.list sGroup, .num, .flag]).zc).toArray) := Lib.hid (by
    have e := built_seq (P := Tryz.prog) (t := 25) [1, 1, 1, 1, 1, 1, 1] sJob.zc (by kernel_rfl) (by kernel_rfl) (by rfl) [.int .i64 n1, .int .i64 n2, .int .i64 n3, .int .i64 n4] [[.int .i64 n1], [.int .i64 n2], [.int .i64 n3], [.int .i64 n4]] rfl (by simp [])
    rw [show List.flatten [[.int .i64 n1], [.int .i64 n2], [.int .i64 n3], [.int .i64 n4]] = cs4 from by rw [hcs4]; simp, show (sJob.zc).drop cs4.length = (tup [.list sGroup, .num, .flag]).zc from by rw [cs4l]; rfl] at e
    simp only [List.zipIdx_cons, List.zipIdx_nil, List.map_cons, List.map_nil, Nat.reduceAdd] at e
    exact e)
  have HI := H4.out
  rw [← hcs4] at HI
  have H4 := Lib.hid HI
  have HCS := Lib.hid hcs4
  clear HI hcs4
  have HA4 := Lib.hid (H4.out.upd.blk HA.out (by have := hf; simp; omega))
  have hone := Lib.hid H4.out.one
  go_wp2_with (first | (refine wpList_alloc_blk rfl 25 rfl sJob.zc (zero25 _) ?_; intro wP hP uP; have HP := Lib.hid hP; have UP := Lib.hid uP; clear hP uP) | (refine wpList_store_blk rfl 25 (.tmp 3) (.tmp 14) rfl w4.heap.size (cs4 ++ (tup [.list sGroup, .num, .flag]).zc) rfl rfl HP.out (by rw [List.length_append, cs4l]; exact Tryz.size25) (by rw [List.length_append, cs4l]; rfl) (by intro u hu; rcases List.mem_append.1 hu with hu | hu; exact hone.out u hu; exact Sch.zc_one _ u hu) ?_; intro wQ hQ uQ; have HQ := Lib.hid hQ; have UQ := Lib.hid uQ; clear hQ uQ) | (refine wpList_buildTo rfl 25 #[(0, .tmp 7), (1, .tmp 9), (2, .tmp 11), (3, .tmp 13)] rfl (some 14) rfl (cs4 ++ (tup [.list sGroup, .num, .flag]).zc).toArray (by have h := HBU.out; simp [Act.eval]; with_reducible exact h) ?_))
  obtain ⟨p, hp⟩ : ∃ p, p = w4.heap.size := ⟨_, rfl⟩
  have hpp : w0.heap.size ≤ p := by rw [hp]; exact H4.out.upd.size
  have hI := ((H4.out.apart UP.out (Nat.le_refl _) HP.out.lt).on UQ.out (by simp))
  have hB := HQ.out
  have hA := (UQ.out.blk (UP.out.blk HA4.out (by simp)) (by have := H4.out.upd.size; simp; omega))
  rw [← hp] at hI hB ⊢
  have H4 := Lib.hid hI
  have HB4 := Lib.hid hB
  have HA4 := Lib.hid hA
  clear hI hB hA hp
  have hpl := (H4.out.low.2.2 p (by simp)).2
  have hfw := H4.out.low.1
  refine (icount_post B f _ _ _ H4.out.fr).mono ?_
  rintro e wjr5 ⟨kr5, ljr5, bjr5, rfl, hkr5, h1, h2, h3⟩
  have HBj : Hid (Blk wjr5 p 25 (cs4 ++ [.slice none 0 0] ++ (tup [.num, .flag]).zc)) := Lib.hid (by have := IRd.blkf H4.out h2 HB4.out; simpa only [tup, Sch.zc, List.append_assoc, List.cons_append, List.nil_append] using this)
  have hfr5 := Nat.lt_of_lt_of_le hfw H4.out.upd.size
  have hpr5 := (H4.out.low.2.2 p (by simp)).2
  obtain ⟨iTr5, hiTr5, hz0r5, hz1r5, hz2r5⟩ := info187
  have HSr5 : Hid (LRdSt sGroup 81 oW [f, p] B f 187 3 wQ wjr5 kr5 l4 b4 0 ljr5 bjr5 (.slice none 0 0) [] []) := Lib.hid (LRdSt.start h1 (h2.mono (by simp)) (by simp; omega) h3)
  clear h1 h2 h3
  go_wp2_with fail
  go_loopg [5] kr5 (fun g t wr => ∃ (i : Nat) (l' : List Nat) (b' : Bool) (v : Value) (xss : List (List Value)) (xs : List Val), t = .int .i64 i ∧ kr5 - i = g ∧ i ≤ kr5 ∧ Blk wr p 25 (cs4 ++ [v] ++ (tup [.num, .flag]).zc) ∧ LRdSt sGroup 81 oW [f, p] B f 187 3 wQ wr kr5 l4 b4 i l' b' v xss xs ∧ ∀ y ∈ xs, Sch.wmax sGroup y ≤ Sch.most sGroup)
  case atStart => exact ⟨0, ljr5, bjr5, _, [], [], rfl, rfl, by omega, HBj.out, HSr5.out, by simp⟩
  case round =>
    obtain ⟨i, l', b', v, xss, xs, rfl, hg, hi, hbk, hS, hmx⟩ := hrel
    have hsz := hS.upd.size
    have hrow := hS.row
    obtain ⟨a, c, rfl⟩ := own_shape' hrow
    have c0 : wr.cell? ⟨p, 4, none⟩ = some (.slice a i c) := by have := hbk.cell (o := cs4.length) mid_at; rwa [cs4l] at this
    have HG := Lib.hid hg
    have HBK := Lib.hid hbk
    have HST := Lib.hid hS
    have HMX := Lib.hid hmx
    have hpn : p ∉ (Value.slice a i c).ownBlock.toList := fun hm => by have := own_lo HST.out.row (g := p) (by simpa using hm); omega
    have hfn : f ∉ (Value.slice a i c).ownBlock.toList := fun hm => by have := own_lo HST.out.row (g := f) (by simpa using hm); omega
    have HPN := Lib.hid hpn
    have HFN := Lib.hid hfn
    clear hg hbk hS hmx hrow hpn hfn
    by_cases hlt : i < kr5
    · have t1 : decide (i < kr5) = true := by simpa using hlt
      have HR : Hid (∀ w', Upd (f :: (Value.slice a i c).ownBlock.toList) wr w' → w'.cell? ⟨p, 4, none⟩ = some (.slice a i c)) := Lib.hid (fun w' u => (u.cell (a := ⟨p, 4, none⟩) (by show p < wr.heap.size; omega) (by simp only [List.mem_cons, not_or]; exact ⟨by omega, HPN.out⟩)).trans c0)
      go_wp2_with fail
      refine wp_region_lex (fun w' => Upd (f :: (Value.slice a i c).ownBlock.toList) wr w') 10 [(0, true), (1, true), (2, true), (4, true), (3, false), (5, false), (6, false), (7, false), (8, false), (9, false), (10, false)] (by kernel_rfl) (by kernel_rfl) (by kernel_rfl) (by kernel_rfl) (fun _ _ d _ _ h => by cases d <;> exact h) ?_
      simp only [lexOps, List.map_cons, List.map_nil, List.getD_cons_zero, List.getD_cons_succ]
      have hU0 : Upd [] wr wr.drew := (Upd.refl _ _).drew
      have hS0 : Upd (f :: (Value.slice a i c).ownBlock.toList) wr wr.drew := (Upd.refl _ _).drew
      iterate 4 (refine lex_read rfl (by exact hS0) (v := ?_) (fun w' hw => ?_) ?_; rotate_left; (focus (have k1 := HR.out w' hw; go_simp; try with_reducible rfl)); simp only [Act.put, List.setIfInBounds_toArray, List.set_cons_zero, List.set_cons_succ])
      have HE0 := Lib.hid ((IRdG.start HST.out.fr (by show f < wr.heap.size; omega) hBf).same hU0)
      have hmon : ∀ {w' : World}, Upd [f] wr w' → Upd (f :: (Value.slice a i c).ownBlock.toList) wr w' := fun u => u.mono (fun x hx => .inl (by simp at hx; simp [hx]))
      refine lex_do rfl (fun K hK => ?_)
      go_simp
      refine (IRd.goNum HE0.out).mono ?_
      rintro e wE1 ⟨nE1, lE1, bE1, rfl, u, h⟩
      have HE1 := Lib.hid h
      refine hK _ _ (fun _ => hmon h.upd) ?_
      clear hK K u h
      try simp only [Act.put, List.setIfInBounds_toArray, List.set_cons_zero, List.set_cons_succ]
      refine lex_do rfl (fun K hK => ?_)
      go_simp
      refine (IRd.go ires_reads HE1.out).mono ?_
      rintro e wE2 ⟨vE2, cE2, lE2, bE2, rfl, hl, u, h⟩
      have hlE2 : cE2.length = 2 := hl
      clear hl
      rw [show argOf sRes cE2 = .agg cE2.toArray from rfl]
      have HE2 := Lib.hid h
      refine hK _ _ (fun _ => hmon h.upd) ?_
      clear hK K u h
      try simp only [Act.put, List.setIfInBounds_toArray, List.set_cons_zero, List.set_cons_succ]
      obtain ⟨us, hus0⟩ : ∃ z : List Value, z = (([] ++ [.int .i64 nE1]) ++ cE2) := ⟨_, rfl⟩
      have hus : us.length = 3 := by rw [hus0]; simp [hlE2]
      have HBE : Hid (Tryz.prog.built 187 [(0, .int .i64 nE1), (1, .agg cE2.toArray)] = some (us ++ (tup []).zc).toArray) := Lib.hid (by
        have e := built_seq (P := Tryz.prog) (t := 187) [1, 2] sGroup.zc (by kernel_rfl) (by kernel_rfl) (by rfl) [.int .i64 nE1, .agg cE2.toArray] [[.int .i64 nE1], cE2] rfl (by simp [hlE2])
        rw [show List.flatten [[.int .i64 nE1], cE2] = us from by rw [hus0]; simp, show (sGroup.zc).drop us.length = (tup []).zc from by rw [hus]; rfl] at e
        simp only [List.zipIdx_cons, List.zipIdx_nil, List.map_cons, List.map_nil, Nat.reduceAdd] at e
        exact e)
      have HEz := HE2.out
      rw [← hus0] at HEz
      clear hus0
      obtain ⟨x, hx⟩ : ∃ x, x = vtup [.num nE1, vE2] := ⟨_, rfl⟩
      have h1 := HEz.fr
      have h2 := HEz.upd
      have h4 : Sch.Rep wE2 (Nw wr.heap.size wE2) sGroup us x := by rw [hx]; exact Sch.Rep.mono HEz.rep (fun k hk _ => hk.1)
      have h5 : Sch.Rd sGroup l' b' x lE2 bE2 := by rw [hx]; exact RSeq.tup HEz.seq
      have h6 : Sch.wmax sGroup x ≤ Sch.most sGroup := by rw [hx]; exact tup_most _ HEz.max
      clear HEz hx
      refine lex_run rfl (exec_build (vs := #[(0, .int .i64 nE1), (1, .agg cE2.toArray)]) (by rfl) (by simp only [List.map_toArray, List.map_cons, List.map_nil]; rfl) (run_build _ _ _ _ HBE.out)) (fun _ => hmon h2) ?_
      rw [show (tup []).zc = [] from rfl, List.append_nil]
      try simp only [Act.put, List.setIfInBounds_toArray, List.set_cons_zero, List.set_cons_succ]
      have hone := h4.one
      have hbp : Blk wE2 p 25 (cs4 ++ [.slice a i c] ++ (tup [.num, .flag]).zc) := h2.blk HBK.out (by simp; omega)
      have hrw : wE2.ownsRow wQ.heap.size 187 3 (.slice a i c) i xss.flatten := h2.row HST.out.row (by intro y hy; have := own_lo HST.out.row hy; simp; omega)
      have s2 := h2.size
      have HUSx := Lib.hid hus
      have HONEx := Lib.hid hone
      have HBPx := Lib.hid hbp
      have HRWx := Lib.hid hrw
      have H1x := Lib.hid h1
      have H2x := Lib.hid h2
      have H4x := Lib.hid h4
      have H5x := Lib.hid h5
      have H6x := Lib.hid h6
      clear hus hone hbp hrw h1 h2 h4 h5 h6
      refine lex_run rfl (exec_buildSlice (by rfl) (by simp [Act.eval]) (run_buildSlice1 _ 23 187 iTr5 _ us 3 Tryz.underlying23 hiTr5 hz0r5 hz1r5 HUSx.out (by decide) (by decide))) (fun _ => hmon (H2x.out.alloc _)) ?_
      try simp only [Act.put, List.setIfInBounds_toArray, List.set_cons_zero, List.set_cons_succ]
      have h64 : kr5 ≤ 64 := hkr5
      refine lex_do rfl (fun K hK => ?_)
      refine wp_append_mine (.tmp 23) (.tmp 29) 23 rfl wQ.heap.size 187 iTr5 _ 3 _ Tryz.underlying23 hiTr5 hz0r5 hz1r5 hz2r5 rfl (by decide) (.slice a i c) i xss.flatten rfl (World.ownsRow.alloc HRWx.out _) ⟨wE2.heap.size, 0, none⟩ 1 1 us rfl (by rw [HUSx.out]) (Blk.news (Blk.new _ 187 us)) HONEx.out (by unfold maxLen; omega) (by omega) (by simp; omega) ?_
      intro v' w3 hown hgr hv
      have uA : Upd [f, p] wr (wE2.alloc (.cells us.toArray 187)) := (H2x.out.alloc _).mono (by simp)
      have hI : Ir B w3 f lE2 bE2 := (H1x.out.upd (F := []) ((Upd.refl [] wE2).alloc _) (by simp)).upd (F := (Value.slice a i c).ownBlock.toList) ((Upd.refl _ _).grown hgr (fun k hk => .inl (by simp [hk]))) (fun k hk => ⟨fun e => HFN.out (e ▸ hk), by have := own_lo HST.out.row (g := k) (by simpa using hk); omega⟩)
      have hbp3 : Blk w3 p 25 (cs4 ++ [.slice a i c] ++ (tup [.num, .flag]).zc) := by
        have hb4 : Blk (wE2.alloc (.cells us.toArray 187)) p 25 (cs4 ++ [.slice a i c] ++ (tup [.num, .flag]).zc) := HBPx.out.alloc _
        refine (hgr.block p hb4.lt (fun e => HPN.out (by simp [← e]))).trans hb4
      have q1 : w3.cell? ⟨p, 4, none⟩ = some (.slice a i c) := by have := hbp3.cell (o := cs4.length) mid_at; rwa [cs4l] at this
      have q2 := hbp3.frozen 4
      have q3 := hbp3.lt
      have uS : Upd [p] w3 (w3.setCell ⟨p, 4, none⟩ v') := (Upd.refl _ _).setCell (by simp) _
      have HX : Hid (Blk (w3.setCell ⟨p, 4, none⟩ v') p 25 (cs4 ++ [v'] ++ (tup [.num, .flag]).zc) ∧ LRdSt sGroup 81 oW [f, p] B f 187 3 wQ (w3.setCell ⟨p, 4, none⟩ v') kr5 l4 b4 (i + 1) lE2 bE2 v' (xss ++ [us]) (xs ++ [x])) := by
        refine Lib.hid ⟨?_, LRdSt.next HST.out hlt uA (H4x.out.updN ((Upd.refl [] wE2).alloc _) (by simp)) HUSx.out H5x.out hgr hown (by rcases hv with h | h; exact .inl h; exact .inr h) (uS.mono (by simp)) (hI.upd uS (by simp; omega))⟩
        have := hbp3.set cs4.length v'
        rw [mid_set, cs4l] at this
        exact this
      have hS3 : Upd (f :: (Value.slice a i c).ownBlock.toList) wr w3 := (hmon (H2x.out.alloc _)).grown hgr (fun k hk => .inl (by simp [hk]))
      obtain ⟨a3, c3, rfl⟩ := own_shape' hown
      refine hK _ _ (fun _ => hS3) ?_
      clear hK K hown hgr hv uA hI hbp3 uS hmon
      try simp only [Act.put, List.setIfInBounds_toArray, List.set_cons_zero, List.set_cons_succ]
      refine lex_do rfl (fun K hK => ?_)
      go_simp
      refine hK _ _ (fun _ => hS3) ?_
      clear hK K
      try simp only [Act.put, List.setIfInBounds_toArray, List.set_cons_zero, List.set_cons_succ]
      refine lex_do rfl (fun K hK => ?_)
      go_simp
      refine hK _ _ (fun h => absurd rfl h) ?_
      clear hK K hS3
      refine lex_nil ?_
      go_wp2_with fail
      go_roundg (kr5 - (i + 1))
      case measure => have := HG.out; omega
      case rel => exact ⟨i + 1, lE2, bE2, _, _, _, by go_num, rfl, by omega, HX.out.1, HX.out.2, fun y hy => by
        rcases List.mem_append.1 hy with hy | hy
        · exact HMX.out y hy
        · simp at hy; subst hy; exact H6x.out⟩
    · obtain rfl : i = kr5 := by omega
      have t1 : decide (i < i) = false := by simp
      have hmost : Sch.wmax (.list sGroup) (.list xs) ≤ Sch.most (.list sGroup) := by
        have h1 := sum_le_mul (l := xs.map (Sch.wmax sGroup)) (m := Sch.most sGroup) (fun y hy => by
          obtain ⟨z, hz, rfl⟩ := List.mem_map.1 hy
          exact HMX.out z hz)
        rw [List.length_map, HST.out.cnt.2] at h1
        have h2 : i * Sch.most sGroup ≤ 64 * Sch.most sGroup := Nat.mul_le_mul_right _ hkr5
        simp only [Sch.wmax, Sch.most] at h1 h2 ⊢
        omega
      have hN := H4.out.next (F := [p]) (s := .list sGroup) (v := .list xs) (c := [.slice a i c]) HST.out.fr HST.out.upd (by simp) HST.out.isRep (HST.out.rd (.inr rfl)) hmost
      have hA := HST.out.upd.blk HA4.out (by simp; omega)
      have hB := HBK.out
      obtain ⟨csr5, hcc⟩ : ∃ z, z = cs4 ++ [Value.slice a i c] := ⟨_, rfl⟩
      have csr5l : csr5.length = 5 := by rw [hcc, List.length_append, cs4l]; rfl
      rw [← hcc] at hN hB
      obtain ⟨wsr5, hz⟩ : ∃ z, z = wr := ⟨_, rfl⟩
      subst hz
      obtain ⟨lsr5, hz⟩ : ∃ z, z = l' := ⟨_, rfl⟩
      subst hz
      obtain ⟨bsr5, hz⟩ : ∃ z, z = b' := ⟨_, rfl⟩
      subst hz
      have Hr5 := Lib.hid hN
      have HBr5 := Lib.hid hB
      have HAr5 := Lib.hid hA
      clear hN hB hA hcc hmost
      go_wp2_with fail
      refine (IRd.goNum Hr5.out).mono ?_
      rintro e wr6 ⟨nr6, lr6, br6, rfl, u, h⟩
      have hb := IRd.blkf Hr5.out u HBr5.out
      have ha := u.blk HAr5.out (by have := hf; simp; omega)
      have k1 : wr6.cell? ⟨p, 5, none⟩ = some (.int .i64 0) := hb.cell (by rw [List.getElem?_append_right (by omega), show 5 - csr5.length = 0 by omega]; rfl)
      have k2 := hb.frozen 5
      have k3 := hb.lt
      have q := IRd.store1 (s := .num) (o := 5) h hb rfl csr5l.symm
      have ha2 : Blk (wr6.setCell ⟨p, 5, none⟩ (.int .i64 nr6)) w.heap.size 25 sJob.zc := ha.other (a := ⟨p, 5, none⟩) (by show w.heap.size ≠ p; omega) _
      obtain ⟨csr6, hcc⟩ : ∃ z, z = csr5 ++ [.int .i64 nr6] := ⟨_, rfl⟩
      rw [← hcc] at q
      have csr6l : csr6.length = 6 := by rw [hcc, List.length_append, csr5l]; rfl
      have Hr6 := Lib.hid q.1
      have HBr6 := Lib.hid q.2
      have HAr6 := Lib.hid ha2
      clear q ha ha2 hb hcc u h
      go_wp2_with fail
      refine (IRd.goFlag Hr6.out).mono ?_
      rintro e wr7 ⟨nr7, lr7, br7, rfl, u, h⟩
      have hb := IRd.blkf Hr6.out u HBr6.out
      have ha := u.blk HAr6.out (by have := hf; simp; omega)
      have k1 : wr7.cell? ⟨p, 6, none⟩ = some (.bool false) := hb.cell (by rw [List.getElem?_append_right (by omega), show 6 - csr6.length = 0 by omega]; rfl)
      have k2 := hb.frozen 6
      have k3 := hb.lt
      have q := IRd.store1 (s := .flag) (o := 6) h hb rfl csr6l.symm
      have ha2 : Blk (wr7.setCell ⟨p, 6, none⟩ (.bool nr7)) w.heap.size 25 sJob.zc := ha.other (a := ⟨p, 6, none⟩) (by show w.heap.size ≠ p; omega) _
      obtain ⟨csr7, hcc⟩ : ∃ z, z = csr6 ++ [.bool nr7] := ⟨_, rfl⟩
      rw [← hcc] at q
      have csr7l : csr7.length = 7 := by rw [hcc, List.length_append, csr6l]; rfl
      have Hr7 := Lib.hid q.1
      have HBr7 := Lib.hid q.2
      have HAr7 := Lib.hid ha2
      clear q ha ha2 hb hcc u h
      go_wp2_with (first | (refine wpList_load_blk rfl 25 (.tmp 3) rfl p rfl HBr7.out Tryz.underlying25 rfl (by simp only [show (tup []).zc = [] from rfl, List.append_nil, csr7l]; exact Tryz.size25) ?_) | (refine wpList_store_blk rfl 25 (.tmp 2) (.tmp 38) rfl w.heap.size (csr7 ++ (tup []).zc) rfl rfl HAr7.out (by simp only [show (tup []).zc = [] from rfl, List.append_nil, csr7l]; exact Tryz.size25) (by simp only [show (tup []).zc = [] from rfl, List.append_nil, csr7l]; rfl) (by rw [show (tup []).zc = [] from rfl, List.append_nil]; exact Hr7.out.one) ?_; intro wz hz uz))
      rw [show (tup []).zc = [] from rfl, List.append_nil] at hz
      have hld := run_loadVar_blk (P := Tryz.prog) hz 25 _ Tryz.underlying25 rfl (by simp only [csr7l]; exact Tryz.size25)
      refine bodyPost_ret (v := .agg (csr7).toArray) ?_ rfl (IRd.fin' Hr7.out UA.out uz s0 (by omega) (by omega) (Nat.le_refl _) (by simp only [List.map_append, List.map_cons, List.map_nil, List.nil_append, List.append_assoc, List.cons_append]; rfl) (by intro h; cases h) hf)
      simp [results, Tryz.results57, asAddr, Act.put, hld]
end Go.Proofs.YthclnpigplcckaaGreat
/- The reference's node, read. -/
namespace Go.Proofs.YthclnpigplcckaaGreat
open Go.RowKit Go.Lb Go.Rc

set_option maxRecDepth 20000 in
set_option maxHeartbeats 4000000 in
theorem inode_reads : IReads 58 sNode := fun B f l b w h => by
  obtain ⟨_, _, hf, hBf⟩ := ir_mark h
  have H := Lib.hid h
  clear h
  go_enter Tryz.func58, Tryz.ntmps58
  go_wp2_with (refine wpList_alloc_blk rfl 29 rfl sNode.zc (zero29 _) ?_; intro w0 hA uA; have HA := Lib.hid hA; have UA := Lib.hid uA; clear hA uA)
  have s0 := HA.out.lt
  have H0 := Lib.hid (IRdG.start ((H.out).upd UA.out (by simp)) (Nat.lt_of_lt_of_le hf UA.out.size) hBf)
  refine (IRd.goNum H0.out).mono ?_
  rintro e w1 ⟨n1, l1, b1, rfl, u, h⟩
  have H1 := Lib.hid h
  clear u h
  go_wp2_with fail
  refine (IRd.go ires_reads H1.out).mono ?_
  rintro e w2 ⟨v2, c2, l2, b2, rfl, hl, u, h⟩
  have hl2 : c2.length = 2 := hl
  clear hl
  rw [show argOf sRes c2 = .agg c2.toArray from rfl]
  have H2 := Lib.hid h
  clear u h
  go_wp2_with fail
  refine (IRd.goFlag H2.out).mono ?_
  rintro e w3 ⟨n3, l3, b3, rfl, u, h⟩
  have H3 := Lib.hid h
  clear u h
  go_wp2_with fail
  refine (IRd.goFlag H3.out).mono ?_
  rintro e w4 ⟨n4, l4, b4, rfl, u, h⟩
  have H4 := Lib.hid h
  clear u h
  go_wp2_with fail
  refine (IRd.goNum H4.out).mono ?_
  rintro e w5 ⟨n5, l5, b5, rfl, u, h⟩
  have H5 := Lib.hid h
  clear u h
  go_wp2_with fail
  refine (IRd.goNum H5.out).mono ?_
  rintro e w6 ⟨n6, l6, b6, rfl, u, h⟩
  have H6 := Lib.hid h
  clear u h
  go_wp2_with fail
  refine (IRd.goNum H6.out).mono ?_
  rintro e w7 ⟨n7, l7, b7, rfl, u, h⟩
  have H7 := Lib.hid h
  clear u h
  obtain ⟨cs7, hcs7⟩ : ∃ z : List Value, z = ((((((([] ++ [.int .i64 n1]) ++ c2) ++ [.bool n3]) ++ [.bool n4]) ++ [.int .i64 n5]) ++ [.int .i64 n6]) ++ [.int .i64 n7]) := ⟨_, rfl⟩
  have cs7l : cs7.length = 8 := by rw [hcs7]; simp [hl2]
  have HBU : Hid (Tryz.prog.built 29 [(0, .int .i64 n1), (1, .agg c2.toArray), (2, .bool n3), (3, .bool n4), (4, .int .i64 n5), (5, .int .i64 n6), (6, .int .i64 n7)] = some (cs7 ++ (tup []).zc).toArray) := Lib.hid (by
    have e := built_seq (P := Tryz.prog) (t := 29) [1, 2, 1, 1, 1, 1, 1] sNode.zc (by kernel_rfl) (by kernel_rfl) (by rfl) [.int .i64 n1, .agg c2.toArray, .bool n3, .bool n4, .int .i64 n5, .int .i64 n6, .int .i64 n7] [[.int .i64 n1], c2, [.bool n3], [.bool n4], [.int .i64 n5], [.int .i64 n6], [.int .i64 n7]] rfl (by simp [hl2])
    rw [show List.flatten [[.int .i64 n1], c2, [.bool n3], [.bool n4], [.int .i64 n5], [.int .i64 n6], [.int .i64 n7]] = cs7 from by rw [hcs7]; simp, show (sNode.zc).drop cs7.length = (tup []).zc from by rw [cs7l]; rfl] at e
    simp only [List.zipIdx_cons, List.zipIdx_nil, List.map_cons, List.map_nil, Nat.reduceAdd] at e
    exact e)
  have HI := H7.out
  rw [← hcs7] at HI
  have H7 := Lib.hid HI
  have HCS := Lib.hid hcs7
  clear HI hcs7
  have HA7 := Lib.hid (H7.out.upd.blk HA.out (by have := hf; simp; omega))
  have hone := Lib.hid H7.out.one
  go_wp2_with (first | (refine wpList_store_blk rfl 29 (.tmp 2) (.tmp 17) rfl w.heap.size (cs7 ++ (tup []).zc) rfl rfl HA7.out (by rw [show (tup []).zc = [] from rfl, List.append_nil, cs7l]; exact Tryz.size29) (by rw [show (tup []).zc = [] from rfl, List.append_nil, cs7l]; rfl) (by rw [show (tup []).zc = [] from rfl, List.append_nil]; exact hone.out) ?_; intro wz hz uz) | (refine wpList_buildTo rfl 29 #[(0, .tmp 4), (1, .tmp 6), (2, .tmp 8), (3, .tmp 10), (4, .tmp 12), (5, .tmp 14), (6, .tmp 16)] rfl (some 17) rfl (cs7 ++ (tup []).zc).toArray (by have h := HBU.out; simp [Act.eval]; with_reducible exact h) ?_))
  rw [show (tup []).zc = [] from rfl, List.append_nil] at hz
  have hld := run_loadVar_blk (P := Tryz.prog) hz 29 _ Tryz.underlying29 rfl (by rw [cs7l]; exact Tryz.size29)
  refine bodyPost_ret (v := .agg cs7.toArray) ?_ rfl (IRd.fin' H7.out UA.out uz s0 (by omega) (by omega) (Nat.le_refl _) (by simp only [List.map_append, List.map_cons, List.map_nil, List.nil_append, List.append_assoc, List.cons_append]; rfl) (by intro h; cases h) hf)
  simp [results, Tryz.results58, asAddr, Act.put, hld]
end Go.Proofs.YthclnpigplcckaaGreat
/- The reference's Nums, reading. -/
namespace Go.Proofs.YthclnpigplcckaaGreat
open Go.RowKit Go.Lb Go.Rc

set_option maxRecDepth 20000 in
set_option maxHeartbeats 4000000 in
theorem inums_reads : IReads 98 (.list .num) := fun B f l b w h => by
  obtain ⟨iT, hiT, hz0, hz1, hz2⟩ := info3
  obtain ⟨_, _, hf, hBf⟩ := ir_mark h
  have H := Lib.hid h
  clear h
  go_enter Tryz.func98, Tryz.ntmps98
  go_wp2_with fail
  refine (icount_post B f l b _ H.out).mono ?_
  rintro e w1 ⟨k, l1, b1, rfl, hk, h1, h2, h3⟩
  have HS : Hid (LRdSt .num 81 oW [f] B f 3 1 w w1 k l b 0 l1 b1 (.slice none 0 0) [] []) := Lib.hid (LRdSt.start h1 h2 (by simp; omega) h3)
  clear h1 h2 h3 H
  go_wp2_with fail
  go_loopg [4, 5] k (fun g v t wr => ∃ (i : Nat) (l' : List Nat) (b' : Bool) (xss : List (List Value)) (xs : List Val), t = .int .i64 i ∧ k - i = g ∧ i ≤ k ∧ LRdSt .num 81 oW [f] B f 3 1 w wr k l b i l' b' v xss xs ∧ ∀ y ∈ xs, Sch.wmax .num y ≤ Sch.most .num)
  case atStart => exact ⟨0, l1, b1, [], [], rfl, rfl, by omega, HS.out, by simp⟩
  case round =>
    obtain ⟨i, l', b', xss, xs, rfl, hg, hi, hS, hmx⟩ := hrel
    have HG := Lib.hid hg
    have HST := Lib.hid hS
    have HMX := Lib.hid hmx
    have hsz := hS.upd.size
    have hrow := hS.row
    obtain ⟨a, c, rfl⟩ := own_shape' hrow
    clear hg hS hmx hrow
    by_cases hlt : i < k
    · have t1 : decide (i < k) = true := by simpa using hlt
      go_wp2_with fail
      refine (inum_reads B f l' b' wr HST.out.fr).mono ?_
      rintro e w2 ⟨x, us, l2, b2, rfl, h1, h2, h4, h5, h6⟩
      have hus : us.length = 1 := h4.len
      have h4c := h4
      obtain ⟨nn, rfl, rfl⟩ := h4c
      rw [show argOf Sch.num [Value.int .i64 nn] = .int .i64 nn from rfl]
      have hrw : w2.ownsRow w.heap.size 3 1 (.slice a i c) i xss.flatten := h2.row HST.out.row (by
        intro y hy
        have := own_lo HST.out.row hy
        simp; omega)
      have hfn : f ∉ (Value.slice a i c).ownBlock.toList := fun hm => by
        have := own_lo HST.out.row (g := f) (by simpa using hm)
        omega
      have s2 := h2.size
      have H1 := Lib.hid h1
      have H2 := Lib.hid h2
      have H4 := Lib.hid h4
      have H5 := Lib.hid h5
      have H6 := Lib.hid h6
      have HRW := Lib.hid hrw
      have HUS := Lib.hid hus
      have HFN := Lib.hid hfn
      have HONE := Lib.hid (show ∀ u ∈ [Value.int .i64 nn], u.oneCell' = true from fun u hu => by simp at hu; subst hu; rfl)
      have h64 : k ≤ 64 := hk
      clear h1 h2 h4 h5 h6 hrw hus hfn
      go_wp2_with (first | (at_builtin; refine wpList_append_mine rfl (.tmp 13) (.tmp 16) 31 rfl w.heap.size 3 iT _ 1 _ Tryz.underlying31 hiT hz0 hz1 hz2 rfl (by decide) (.slice a i c) i xss.flatten rfl (World.ownsRow.alloc HRW.out _) ⟨w2.heap.size, 0, none⟩ 1 1 [.int .i64 nn] rfl (by rw [HUS.out]) (Blk.news (Blk.new _ 3 [.int .i64 nn])) HONE.out (by unfold maxLen; omega) (by omega) (by simp; omega) ?_; intro v' w3 hown hgr hv; have uA : Upd [f] wr (w2.alloc (.cells #[.int .i64 nn] 3)) := H2.out.alloc _; have hI : Ir B w3 f l2 b2 := ((H1.out).upd (F := []) ((Upd.refl [] w2).alloc _) (by simp)).upd (F := (Value.slice a i c).ownBlock.toList) ((Upd.refl _ _).grown hgr (fun k hk => .inl (by simp [hk]))) (fun k hk => ⟨fun e => HFN.out (e ▸ hk), by have := own_lo HST.out.row (g := k) (by simpa using hk); omega⟩); have HX : Hid (LRdSt .num 81 oW [f] B f 3 1 w w3 k l b (i + 1) l2 b2 v' (xss ++ [[.int .i64 nn]]) (xs ++ [.num nn])) := Lib.hid (LRdSt.next HST.out hlt uA (H4.out.updN ((Upd.refl [] w2).alloc _) (by simp)) HUS.out H5.out hgr hown (by rcases hv with h | h; exact .inl h; exact .inr h) (Upd.refl _ _) hI); obtain ⟨a3, c3, rfl⟩ := own_shape' hown; clear hown hgr hv uA hI))
      go_roundg (k - (i + 1))
      case measure => have := HG.out; omega
      case rel => exact ⟨i + 1, l2, b2, _, _, by go_num, rfl, by omega, HX.out, fun y hy => by
        rcases List.mem_append.1 hy with hy | hy
        · exact HMX.out y hy
        · simp at hy; subst hy; exact H6.out⟩
    · obtain rfl : i = k := by omega
      have t1 : decide (i < i) = false := by simp
      have HE := Lib.hid (HST.out.rd (.inr rfl))
      go_wp2_with fail
      refine bodyPost_ret (results_tmp rfl _ _ _) rfl ?_
      refine ⟨.list xs, [.slice a i c], l', b', rfl, HST.out.fr, HST.out.upd, HST.out.isRep, HE.out, ?_⟩
      have h1 := sum_le_mul (l := xs.map (Sch.wmax .num)) (m := Sch.most .num) (fun y hy => by
        obtain ⟨z, hz, rfl⟩ := List.mem_map.1 hy
        exact HMX.out z hz)
      rw [List.length_map, HST.out.cnt.2] at h1
      have h2 : i * Sch.most .num ≤ 64 * Sch.most .num := Nat.mul_le_mul_right _ hk
      simp only [Sch.wmax, Sch.most] at h1 h2 ⊢
      omega
end Go.Proofs.YthclnpigplcckaaGreat
/- The reference's alloc, read. -/
namespace Go.Proofs.YthclnpigplcckaaGreat
open Go.RowKit Go.Lb Go.Rc

set_option maxRecDepth 20000 in
set_option maxHeartbeats 4000000 in
theorem ialloc_reads : IReads 110 sAlloc := fun B f l b w h => by
  obtain ⟨_, _, hf, hBf⟩ := ir_mark h
  have H := Lib.hid h
  clear h
  go_enter Tryz.func110, Tryz.ntmps110
  go_wp2_with (refine wpList_alloc_blk rfl 162 rfl sAlloc.zc (zero162 _) ?_; intro w0 hA uA; have HA := Lib.hid hA; have UA := Lib.hid uA; clear hA uA)
  have s0 := HA.out.lt
  have H0 := Lib.hid (IRdG.start ((H.out).upd UA.out (by simp)) (Nat.lt_of_lt_of_le hf UA.out.size) hBf)
  refine (IRd.goNum H0.out).mono ?_
  rintro e w1 ⟨n1, l1, b1, rfl, u, h⟩
  have H1 := Lib.hid h
  clear u h
  go_wp2_with fail
  refine (IRd.goNum H1.out).mono ?_
  rintro e w2 ⟨n2, l2, b2, rfl, u, h⟩
  have H2 := Lib.hid h
  clear u h
  go_wp2_with fail
  refine (IRd.goNum H2.out).mono ?_
  rintro e w3 ⟨n3, l3, b3, rfl, u, h⟩
  have H3 := Lib.hid h
  clear u h
  go_wp2_with fail
  refine (IRd.goNum H3.out).mono ?_
  rintro e w4 ⟨n4, l4, b4, rfl, u, h⟩
  have H4 := Lib.hid h
  clear u h
  go_wp2_with fail
  refine (IRd.goNum H4.out).mono ?_
  rintro e w5 ⟨n5, l5, b5, rfl, u, h⟩
  have H5 := Lib.hid h
  clear u h
  go_wp2_with fail
  refine (IRd.goNum H5.out).mono ?_
  rintro e w6 ⟨n6, l6, b6, rfl, u, h⟩
  have H6 := Lib.hid h
  clear u h
  go_wp2_with fail
  refine (IRd.goNum H6.out).mono ?_
  rintro e w7 ⟨n7, l7, b7, rfl, u, h⟩
  have H7 := Lib.hid h
  clear u h
  go_wp2_with fail
  refine (IRd.go ires_reads H7.out).mono ?_
  rintro e w8 ⟨v8, c8, l8, b8, rfl, hl, u, h⟩
  have hl8 : c8.length = 2 := hl
  clear hl
  rw [show argOf sRes c8 = .agg c8.toArray from rfl]
  have H8 := Lib.hid h
  clear u h
  go_wp2_with fail
  refine (IRd.goFlag H8.out).mono ?_
  rintro e w9 ⟨n9, l9, b9, rfl, u, h⟩
  have H9 := Lib.hid h
  clear u h
  go_wp2_with fail
  refine (IRd.goNum H9.out).mono ?_
  rintro e w10 ⟨n10, l10, b10, rfl, u, h⟩
  have H10 := Lib.hid h
  clear u h
  obtain ⟨cs10, hcs10⟩ : ∃ z : List Value, z = (((((((((([] ++ [.int .i64 n1]) ++ [.int .i64 n2]) ++ [.int .i64 n3]) ++ [.int .i64 n4]) ++ [.int .i64 n5]) ++ [.int .i64 n6]) ++ [.int .i64 n7]) ++ c8) ++ [.bool n9]) ++ [.int .i64 n10]) := ⟨_, rfl⟩
  have cs10l : cs10.length = 11 := by rw [hcs10]; simp [hl8]
  have HBU : Hid (Tryz.prog.built 162 [(0, .int .i64 n1), (1, .int .i64 n2), (2, .int .i64 n3), (3, .int .i64 n4), (4, .int .i64 n5), (5, .int .i64 n6), (6, .int .i64 n7), (7, .agg c8.toArray), (8, .bool n9), (9, .int .i64 n10)] = some (cs10 ++ (tup []).zc).toArray) := Lib.hid (by
    have e := built_seq (P := Tryz.prog) (t := 162) [1, 1, 1, 1, 1, 1, 1, 2, 1, 1] sAlloc.zc (by kernel_rfl) (by kernel_rfl) (by rfl) [.int .i64 n1, .int .i64 n2, .int .i64 n3, .int .i64 n4, .int .i64 n5, .int .i64 n6, .int .i64 n7, .agg c8.toArray, .bool n9, .int .i64 n10] [[.int .i64 n1], [.int .i64 n2], [.int .i64 n3], [.int .i64 n4], [.int .i64 n5], [.int .i64 n6], [.int .i64 n7], c8, [.bool n9], [.int .i64 n10]] rfl (by simp [hl8])
    rw [show List.flatten [[.int .i64 n1], [.int .i64 n2], [.int .i64 n3], [.int .i64 n4], [.int .i64 n5], [.int .i64 n6], [.int .i64 n7], c8, [.bool n9], [.int .i64 n10]] = cs10 from by rw [hcs10]; simp, show (sAlloc.zc).drop cs10.length = (tup []).zc from by rw [cs10l]; rfl] at e
    simp only [List.zipIdx_cons, List.zipIdx_nil, List.map_cons, List.map_nil, Nat.reduceAdd] at e
    exact e)
  have HI := H10.out
  rw [← hcs10] at HI
  have H10 := Lib.hid HI
  have HCS := Lib.hid hcs10
  clear HI hcs10
  have HA10 := Lib.hid (H10.out.upd.blk HA.out (by have := hf; simp; omega))
  have hone := Lib.hid H10.out.one
  go_wp2_with (first | (refine wpList_store_blk rfl 162 (.tmp 2) (.tmp 23) rfl w.heap.size (cs10 ++ (tup []).zc) rfl rfl HA10.out (by rw [show (tup []).zc = [] from rfl, List.append_nil, cs10l]; exact Tryz.size162) (by rw [show (tup []).zc = [] from rfl, List.append_nil, cs10l]; rfl) (by rw [show (tup []).zc = [] from rfl, List.append_nil]; exact hone.out) ?_; intro wz hz uz) | (refine wpList_buildTo rfl 162 #[(0, .tmp 4), (1, .tmp 6), (2, .tmp 8), (3, .tmp 10), (4, .tmp 12), (5, .tmp 14), (6, .tmp 16), (7, .tmp 18), (8, .tmp 20), (9, .tmp 22)] rfl (some 23) rfl (cs10 ++ (tup []).zc).toArray (by have h := HBU.out; simp [Act.eval]; with_reducible exact h) ?_))
  rw [show (tup []).zc = [] from rfl, List.append_nil] at hz
  have hld := run_loadVar_blk (P := Tryz.prog) hz 162 _ Tryz.underlying162 rfl (by rw [cs10l]; exact Tryz.size162)
  refine bodyPost_ret (v := .agg cs10.toArray) ?_ rfl (IRd.fin' H10.out UA.out uz s0 (by omega) (by omega) (Nat.le_refl _) (by simp only [List.map_append, List.map_cons, List.map_nil, List.nil_append, List.append_assoc, List.cons_append]; rfl) (by intro h; cases h) hf)
  simp [results, Tryz.results110, asAddr, Act.put, hld]
end Go.Proofs.YthclnpigplcckaaGreat
/- The reference's allocs, reading. -/
namespace Go.Proofs.YthclnpigplcckaaGreat
open Go.RowKit Go.Lb Go.Rc

set_option maxRecDepth 20000 in
set_option maxHeartbeats 4000000 in
theorem iallocs_reads : IReads 88 (.list sAlloc) := fun B f l b w h => by
  obtain ⟨iT, hiT, hz0, hz1, hz2⟩ := info162
  obtain ⟨_, _, hf, hBf⟩ := ir_mark h
  have H := Lib.hid h
  clear h
  go_enter Tryz.func88, Tryz.ntmps88
  go_wp2_with fail
  refine (icount_post B f l b _ H.out).mono ?_
  rintro e w1 ⟨k, l1, b1, rfl, hk, h1, h2, h3⟩
  have HS : Hid (LRdSt sAlloc 81 oW [f] B f 162 11 w w1 k l b 0 l1 b1 (.slice none 0 0) [] []) := Lib.hid (LRdSt.start h1 h2 (by simp; omega) h3)
  clear h1 h2 h3 H
  go_wp2_with fail
  go_loopg [4, 5] k (fun g v t wr => ∃ (i : Nat) (l' : List Nat) (b' : Bool) (xss : List (List Value)) (xs : List Val), t = .int .i64 i ∧ k - i = g ∧ i ≤ k ∧ LRdSt sAlloc 81 oW [f] B f 162 11 w wr k l b i l' b' v xss xs ∧ ∀ y ∈ xs, Sch.wmax sAlloc y ≤ Sch.most sAlloc)
  case atStart => exact ⟨0, l1, b1, [], [], rfl, rfl, by omega, HS.out, by simp⟩
  case round =>
    obtain ⟨i, l', b', xss, xs, rfl, hg, hi, hS, hmx⟩ := hrel
    have HG := Lib.hid hg
    have HST := Lib.hid hS
    have HMX := Lib.hid hmx
    have hsz := hS.upd.size
    have hrow := hS.row
    obtain ⟨a, c, rfl⟩ := own_shape' hrow
    clear hg hS hmx hrow
    by_cases hlt : i < k
    · have t1 : decide (i < k) = true := by simpa using hlt
      go_wp2_with fail
      refine (ialloc_reads B f l' b' wr HST.out.fr).mono ?_
      rintro e w2 ⟨x, us, l2, b2, rfl, h1, h2, h4, h5, h6⟩
      have hus : us.length = 11 := h4.len
      rw [show argOf sAlloc us = .agg us.toArray from rfl]
      have hrw : w2.ownsRow w.heap.size 162 11 (.slice a i c) i xss.flatten := h2.row HST.out.row (by
        intro y hy
        have := own_lo HST.out.row hy
        simp; omega)
      have hfn : f ∉ (Value.slice a i c).ownBlock.toList := fun hm => by
        have := own_lo HST.out.row (g := f) (by simpa using hm)
        omega
      have s2 := h2.size
      have H1 := Lib.hid h1
      have H2 := Lib.hid h2
      have H4 := Lib.hid h4
      have H5 := Lib.hid h5
      have H6 := Lib.hid h6
      have HRW := Lib.hid hrw
      have HUS := Lib.hid hus
      have HFN := Lib.hid hfn
      have HONE := Lib.hid h4.one
      have h64 : k ≤ 64 := hk
      clear h1 h2 h4 h5 h6 hrw hus hfn
      go_wp2_with (first | (refine wpList_run (o := ⟨some 16, .buildSlice 32 1 #[(0, .tmp 15)], _, _, _, _⟩) rfl (exec_buildSlice (by rfl) (by simp [Act.eval]) (run_buildSlice1 _ 32 162 iT _ us 11 Tryz.underlying32 hiT hz0 hz1 HUS.out (by decide) (by decide))) ?_) | (at_builtin; refine wpList_append_mine rfl (.tmp 13) (.tmp 16) 32 rfl w.heap.size 162 iT _ 11 _ Tryz.underlying32 hiT hz0 hz1 hz2 rfl (by decide) (.slice a i c) i xss.flatten rfl (World.ownsRow.alloc HRW.out _) ⟨w2.heap.size, 0, none⟩ 1 1 us rfl (by rw [HUS.out]) (Blk.news (Blk.new _ 162 us)) HONE.out (by unfold maxLen; omega) (by omega) (by simp; omega) ?_; intro v' w3 hown hgr hv; have uA : Upd [f] wr (w2.alloc (.cells us.toArray 162)) := H2.out.alloc _; have hI : Ir B w3 f l2 b2 := ((H1.out).upd (F := []) ((Upd.refl [] w2).alloc _) (by simp)).upd (F := (Value.slice a i c).ownBlock.toList) ((Upd.refl _ _).grown hgr (fun k hk => .inl (by simp [hk]))) (fun k hk => ⟨fun e => HFN.out (e ▸ hk), by have := own_lo HST.out.row (g := k) (by simpa using hk); omega⟩); have HX : Hid (LRdSt sAlloc 81 oW [f] B f 162 11 w w3 k l b (i + 1) l2 b2 v' (xss ++ [us]) (xs ++ [x])) := Lib.hid (LRdSt.next HST.out hlt uA (H4.out.updN ((Upd.refl [] w2).alloc _) (by simp)) HUS.out H5.out hgr hown (by rcases hv with h | h; exact .inl h; exact .inr h) (Upd.refl _ _) hI); obtain ⟨a3, c3, rfl⟩ := own_shape' hown; clear hown hgr hv uA hI))
      go_roundg (k - (i + 1))
      case measure => have := HG.out; omega
      case rel => exact ⟨i + 1, l2, b2, _, _, by go_num, rfl, by omega, HX.out, fun y hy => by
        rcases List.mem_append.1 hy with hy | hy
        · exact HMX.out y hy
        · simp at hy; subst hy; exact H6.out⟩
    · obtain rfl : i = k := by omega
      have t1 : decide (i < i) = false := by simp
      have HE := Lib.hid (HST.out.rd (.inr rfl))
      go_wp2_with fail
      refine bodyPost_ret (results_tmp rfl _ _ _) rfl ?_
      refine ⟨.list xs, [.slice a i c], l', b', rfl, HST.out.fr, HST.out.upd, HST.out.isRep, HE.out, ?_⟩
      have h1 := sum_le_mul (l := xs.map (Sch.wmax sAlloc)) (m := Sch.most sAlloc) (fun y hy => by
        obtain ⟨z, hz, rfl⟩ := List.mem_map.1 hy
        exact HMX.out z hz)
      rw [List.length_map, HST.out.cnt.2] at h1
      have h2 : i * Sch.most sAlloc ≤ 64 * Sch.most sAlloc := Nat.mul_le_mul_right _ hk
      simp only [Sch.wmax, Sch.most] at h1 h2 ⊢
      omega
end Go.Proofs.YthclnpigplcckaaGreat
/- The reference's plan, read. -/
namespace Go.Proofs.YthclnpigplcckaaGreat
open Go.RowKit Go.Lb Go.Rc

set_option maxRecDepth 20000 in
set_option maxHeartbeats 4000000 in
theorem iplan_reads : IReads 60 sPlan := fun B f l b w h => by
  obtain ⟨_, _, hf, hBf⟩ := ir_mark h
  have H := Lib.hid h
  clear h
  go_enter Tryz.func60, Tryz.ntmps60
  go_wp2_with (refine wpList_alloc_blk rfl 34 rfl sPlan.zc (zero34 _) ?_; intro w0 hA uA; have HA := Lib.hid hA; have UA := Lib.hid uA; clear hA uA)
  have s0 := HA.out.lt
  have H0 := Lib.hid (IRdG.start ((H.out).upd UA.out (by simp)) (Nat.lt_of_lt_of_le hf UA.out.size) hBf)
  refine (IRd.goNum H0.out).mono ?_
  rintro e w1 ⟨n1, l1, b1, rfl, u, h⟩
  have H1 := Lib.hid h
  clear u h
  go_wp2_with fail
  refine (IRd.goNum H1.out).mono ?_
  rintro e w2 ⟨n2, l2, b2, rfl, u, h⟩
  have H2 := Lib.hid h
  clear u h
  go_wp2_with fail
  refine (IRd.goNum H2.out).mono ?_
  rintro e w3 ⟨n3, l3, b3, rfl, u, h⟩
  have H3 := Lib.hid h
  clear u h
  go_wp2_with fail
  refine (IRd.goList inums_reads H3.out).mono ?_
  rintro e w4 ⟨a4, m4, c4, v4, l4, b4, rfl, u, h⟩
  have H4 := Lib.hid h
  clear u h
  go_wp2_with fail
  refine (IRd.goList iallocs_reads H4.out).mono ?_
  rintro e w5 ⟨a5, m5, c5, v5, l5, b5, rfl, u, h⟩
  have H5 := Lib.hid h
  clear u h
  go_wp2_with fail
  refine (IRd.goFlag H5.out).mono ?_
  rintro e w6 ⟨n6, l6, b6, rfl, u, h⟩
  have H6 := Lib.hid h
  clear u h
  obtain ⟨cs6, hcs6⟩ : ∃ z : List Value, z = (((((([] ++ [.int .i64 n1]) ++ [.int .i64 n2]) ++ [.int .i64 n3]) ++ [.slice a4 m4 c4]) ++ [.slice a5 m5 c5]) ++ [.bool n6]) := ⟨_, rfl⟩
  have cs6l : cs6.length = 6 := by rw [hcs6]; simp
  have HBU : Hid (Tryz.prog.built 34 [(0, .int .i64 n1), (1, .int .i64 n2), (2, .int .i64 n3), (3, .slice a4 m4 c4), (4, .slice a5 m5 c5), (5, .bool n6)] = some (cs6 ++ (tup []).zc).toArray) := Lib.hid (by
    have e := built_seq (P := Tryz.prog) (t := 34) [1, 1, 1, 1, 1, 1] sPlan.zc (by kernel_rfl) (by kernel_rfl) (by rfl) [.int .i64 n1, .int .i64 n2, .int .i64 n3, .slice a4 m4 c4, .slice a5 m5 c5, .bool n6] [[.int .i64 n1], [.int .i64 n2], [.int .i64 n3], [.slice a4 m4 c4], [.slice a5 m5 c5], [.bool n6]] rfl (by simp [])
    rw [show List.flatten [[.int .i64 n1], [.int .i64 n2], [.int .i64 n3], [.slice a4 m4 c4], [.slice a5 m5 c5], [.bool n6]] = cs6 from by rw [hcs6]; simp, show (sPlan.zc).drop cs6.length = (tup []).zc from by rw [cs6l]; rfl] at e
    simp only [List.zipIdx_cons, List.zipIdx_nil, List.map_cons, List.map_nil, Nat.reduceAdd] at e
    exact e)
  have HI := H6.out
  rw [← hcs6] at HI
  have H6 := Lib.hid HI
  have HCS := Lib.hid hcs6
  clear HI hcs6
  have HA6 := Lib.hid (H6.out.upd.blk HA.out (by have := hf; simp; omega))
  have hone := Lib.hid H6.out.one
  go_wp2_with (first | (refine wpList_store_blk rfl 34 (.tmp 2) (.tmp 15) rfl w.heap.size (cs6 ++ (tup []).zc) rfl rfl HA6.out (by rw [show (tup []).zc = [] from rfl, List.append_nil, cs6l]; exact Tryz.size34) (by rw [show (tup []).zc = [] from rfl, List.append_nil, cs6l]; rfl) (by rw [show (tup []).zc = [] from rfl, List.append_nil]; exact hone.out) ?_; intro wz hz uz) | (refine wpList_buildTo rfl 34 #[(0, .tmp 4), (1, .tmp 6), (2, .tmp 8), (3, .tmp 10), (4, .tmp 12), (5, .tmp 14)] rfl (some 15) rfl (cs6 ++ (tup []).zc).toArray (by have h := HBU.out; simp [Act.eval]; with_reducible exact h) ?_))
  rw [show (tup []).zc = [] from rfl, List.append_nil] at hz
  have hld := run_loadVar_blk (P := Tryz.prog) hz 34 _ Tryz.underlying34 rfl (by rw [cs6l]; exact Tryz.size34)
  refine bodyPost_ret (v := .agg cs6.toArray) ?_ rfl (IRd.fin' H6.out UA.out uz s0 (by omega) (by omega) (Nat.le_refl _) (by simp only [List.map_append, List.map_cons, List.map_nil, List.nil_append, List.append_assoc, List.cons_append]; rfl) (by intro h; cases h) hf)
  simp [results, Tryz.results60, asAddr, Act.put, hld]
end Go.Proofs.YthclnpigplcckaaGreat
/- The reference's conf, read. -/
namespace Go.Proofs.YthclnpigplcckaaGreat
open Go.RowKit Go.Lb Go.Rc

set_option maxRecDepth 20000 in
set_option maxHeartbeats 4000000 in
theorem iconf_reads : IReads 61 sConf := fun B f l b w h => by
  obtain ⟨_, _, hf, hBf⟩ := ir_mark h
  have H := Lib.hid h
  clear h
  go_enter Tryz.func61, Tryz.ntmps61
  go_wp2_with (refine wpList_alloc_blk rfl 36 rfl sConf.zc (zero36 _) ?_; intro w0 hA uA; have HA := Lib.hid hA; have UA := Lib.hid uA; clear hA uA)
  have s0 := HA.out.lt
  have H0 := Lib.hid (IRdG.start ((H.out).upd UA.out (by simp)) (Nat.lt_of_lt_of_le hf UA.out.size) hBf)
  refine (IRd.goList inums_reads H0.out).mono ?_
  rintro e w1 ⟨a1, m1, c1, v1, l1, b1, rfl, u, h⟩
  have H1 := Lib.hid h
  clear u h
  go_wp2_with fail
  refine (IRd.goList inums_reads H1.out).mono ?_
  rintro e w2 ⟨a2, m2, c2, v2, l2, b2, rfl, u, h⟩
  have H2 := Lib.hid h
  clear u h
  obtain ⟨cs2, hcs2⟩ : ∃ z : List Value, z = (([] ++ [.slice a1 m1 c1]) ++ [.slice a2 m2 c2]) := ⟨_, rfl⟩
  have cs2l : cs2.length = 2 := by rw [hcs2]; simp
  have HBU : Hid (Tryz.prog.built 36 [(0, .slice a1 m1 c1), (1, .slice a2 m2 c2)] = some (cs2 ++ (tup []).zc).toArray) := Lib.hid (by
    have e := built_seq (P := Tryz.prog) (t := 36) [1, 1] sConf.zc (by kernel_rfl) (by kernel_rfl) (by rfl) [.slice a1 m1 c1, .slice a2 m2 c2] [[.slice a1 m1 c1], [.slice a2 m2 c2]] rfl (by simp [])
    rw [show List.flatten [[.slice a1 m1 c1], [.slice a2 m2 c2]] = cs2 from by rw [hcs2]; simp, show (sConf.zc).drop cs2.length = (tup []).zc from by rw [cs2l]; rfl] at e
    simp only [List.zipIdx_cons, List.zipIdx_nil, List.map_cons, List.map_nil, Nat.reduceAdd] at e
    exact e)
  have HI := H2.out
  rw [← hcs2] at HI
  have H2 := Lib.hid HI
  have HCS := Lib.hid hcs2
  clear HI hcs2
  have HA2 := Lib.hid (H2.out.upd.blk HA.out (by have := hf; simp; omega))
  have hone := Lib.hid H2.out.one
  go_wp2_with (first | (refine wpList_store_blk rfl 36 (.tmp 2) (.tmp 7) rfl w.heap.size (cs2 ++ (tup []).zc) rfl rfl HA2.out (by rw [show (tup []).zc = [] from rfl, List.append_nil, cs2l]; exact Tryz.size36) (by rw [show (tup []).zc = [] from rfl, List.append_nil, cs2l]; rfl) (by rw [show (tup []).zc = [] from rfl, List.append_nil]; exact hone.out) ?_; intro wz hz uz) | (refine wpList_buildTo rfl 36 #[(0, .tmp 4), (1, .tmp 6)] rfl (some 7) rfl (cs2 ++ (tup []).zc).toArray (by have h := HBU.out; simp [Act.eval]; with_reducible exact h) ?_))
  rw [show (tup []).zc = [] from rfl, List.append_nil] at hz
  have hld := run_loadVar_blk (P := Tryz.prog) hz 36 _ Tryz.underlying36 rfl (by rw [cs2l]; exact Tryz.size36)
  refine bodyPost_ret (v := .agg cs2.toArray) ?_ rfl (IRd.fin' H2.out UA.out uz s0 (by omega) (by omega) (Nat.le_refl _) (by simp only [List.map_append, List.map_cons, List.map_nil, List.nil_append, List.append_assoc, List.cons_append]; rfl) (by intro h; cases h) hf)
  simp [results, Tryz.results61, asAddr, Act.put, hld]
end Go.Proofs.YthclnpigplcckaaGreat
/- The reference's cmd, read. -/
namespace Go.Proofs.YthclnpigplcckaaGreat
open Go.RowKit Go.Lb Go.Rc

set_option maxRecDepth 20000 in
set_option maxHeartbeats 4000000 in
theorem icmd_reads : IReads 23 sCmd := fun B f l b w h => by
  obtain ⟨_, _, hf, hBf⟩ := ir_mark h
  have H := Lib.hid h
  clear h
  go_enter Tryz.func23, Tryz.ntmps23
  go_wp2_with (refine wpList_alloc_blk rfl 38 rfl sCmd.zc (zero38 _) ?_; intro w0 hA uA; have HA := Lib.hid hA; have UA := Lib.hid uA; clear hA uA)
  have s0 := HA.out.lt
  have H0 := Lib.hid (IRdG.start ((H.out).upd UA.out (by simp)) (Nat.lt_of_lt_of_le hf UA.out.size) hBf)
  refine (IRd.goNum H0.out).mono ?_
  rintro e w1 ⟨n1, l1, b1, rfl, u, h⟩
  have H1 := Lib.hid h
  clear u h
  go_wp2_with fail
  refine (IRd.goNum H1.out).mono ?_
  rintro e w2 ⟨n2, l2, b2, rfl, u, h⟩
  have H2 := Lib.hid h
  clear u h
  go_wp2_with fail
  refine (IRd.goNum H2.out).mono ?_
  rintro e w3 ⟨n3, l3, b3, rfl, u, h⟩
  have H3 := Lib.hid h
  clear u h
  go_wp2_with fail
  refine (IRd.go ijob_reads H3.out).mono ?_
  rintro e w4 ⟨v4, c4, l4, b4, rfl, hl, u, h⟩
  have hl4 : c4.length = 7 := hl
  clear hl
  rw [show argOf sJob c4 = .agg c4.toArray from rfl]
  have H4 := Lib.hid h
  clear u h
  go_wp2_with fail
  refine (IRd.go inode_reads H4.out).mono ?_
  rintro e w5 ⟨v5, c5, l5, b5, rfl, hl, u, h⟩
  have hl5 : c5.length = 8 := hl
  clear hl
  rw [show argOf sNode c5 = .agg c5.toArray from rfl]
  have H5 := Lib.hid h
  clear u h
  obtain ⟨cs5, hcs5⟩ : ∃ z : List Value, z = ((((([] ++ [.int .i64 n1]) ++ [.int .i64 n2]) ++ [.int .i64 n3]) ++ c4) ++ c5) := ⟨_, rfl⟩
  have cs5l : cs5.length = 18 := by rw [hcs5]; simp [hl4, hl5]
  have HBU : Hid (Tryz.prog.built 38 [(0, .int .i64 n1), (1, .int .i64 n2), (2, .int .i64 n3), (3, .agg c4.toArray), (4, .agg c5.toArray)] = some (cs5 ++ (tup [.list sReport, sPlan, sConf]).zc).toArray) := Lib.hid (by
    have e := built_seq (P := Tryz.prog) (t := 38) [1, 1, 1, 7, 8, 1, 6, 2] sCmd.zc (by kernel_rfl) (by kernel_rfl) (by rfl) [.int .i64 n1, .int .i64 n2, .int .i64 n3, .agg c4.toArray, .agg c5.toArray] [[.int .i64 n1], [.int .i64 n2], [.int .i64 n3], c4, c5] rfl (by simp [hl4, hl5])
    rw [show List.flatten [[.int .i64 n1], [.int .i64 n2], [.int .i64 n3], c4, c5] = cs5 from by rw [hcs5]; simp, show (sCmd.zc).drop cs5.length = (tup [.list sReport, sPlan, sConf]).zc from by rw [cs5l]; rfl] at e
    simp only [List.zipIdx_cons, List.zipIdx_nil, List.map_cons, List.map_nil, Nat.reduceAdd] at e
    exact e)
  have HI := H5.out
  rw [← hcs5] at HI
  have H5 := Lib.hid HI
  have HCS := Lib.hid hcs5
  clear HI hcs5
  have HA5 := Lib.hid (H5.out.upd.blk HA.out (by have := hf; simp; omega))
  have hone := Lib.hid H5.out.one
  go_wp2_with (first | (refine wpList_alloc_blk rfl 38 rfl sCmd.zc (zero38 _) ?_; intro wP hP uP; have HP := Lib.hid hP; have UP := Lib.hid uP; clear hP uP) | (refine wpList_store_blk rfl 38 (.tmp 3) (.tmp 16) rfl w5.heap.size (cs5 ++ (tup [.list sReport, sPlan, sConf]).zc) rfl rfl HP.out (by rw [List.length_append, cs5l]; exact Tryz.size38) (by rw [List.length_append, cs5l]; rfl) (by intro u hu; rcases List.mem_append.1 hu with hu | hu; exact hone.out u hu; exact Sch.zc_one _ u hu) ?_; intro wQ hQ uQ; have HQ := Lib.hid hQ; have UQ := Lib.hid uQ; clear hQ uQ) | (refine wpList_buildTo rfl 38 #[(0, .tmp 7), (1, .tmp 9), (2, .tmp 11), (3, .tmp 13), (4, .tmp 15)] rfl (some 16) rfl (cs5 ++ (tup [.list sReport, sPlan, sConf]).zc).toArray (by have h := HBU.out; simp [Act.eval]; with_reducible exact h) ?_))
  obtain ⟨p, hp⟩ : ∃ p, p = w5.heap.size := ⟨_, rfl⟩
  have hpp : w0.heap.size ≤ p := by rw [hp]; exact H5.out.upd.size
  have hI := ((H5.out.apart UP.out (Nat.le_refl _) HP.out.lt).on UQ.out (by simp))
  have hB := HQ.out
  have hA := (UQ.out.blk (UP.out.blk HA5.out (by simp)) (by have := H5.out.upd.size; simp; omega))
  rw [← hp] at hI hB ⊢
  have H5 := Lib.hid hI
  have HB5 := Lib.hid hB
  have HA5 := Lib.hid hA
  clear hI hB hA hp
  have hpl := (H5.out.low.2.2 p (by simp)).2
  have hfw := H5.out.low.1
  refine (icount_post B f _ _ _ H5.out.fr).mono ?_
  rintro e wjr6 ⟨kr6, ljr6, bjr6, rfl, hkr6, h1, h2, h3⟩
  have HBj : Hid (Blk wjr6 p 38 (cs5 ++ [.slice none 0 0] ++ (tup [sPlan, sConf]).zc)) := Lib.hid (by have := IRd.blkf H5.out h2 HB5.out; simpa only [tup, Sch.zc, List.append_assoc, List.cons_append, List.nil_append] using this)
  have hfr6 := Nat.lt_of_lt_of_le hfw H5.out.upd.size
  have hpr6 := (H5.out.low.2.2 p (by simp)).2
  obtain ⟨iTr6, hiTr6, hz0r6, hz1r6, hz2r6⟩ := info118
  have HSr6 : Hid (LRdSt sReport 81 oW [f, p] B f 118 2 wQ wjr6 kr6 l5 b5 0 ljr6 bjr6 (.slice none 0 0) [] []) := Lib.hid (LRdSt.start h1 (h2.mono (by simp)) (by simp; omega) h3)
  clear h1 h2 h3
  go_wp2_with fail
  go_loopg [5] kr6 (fun g t wr => ∃ (i : Nat) (l' : List Nat) (b' : Bool) (v : Value) (xss : List (List Value)) (xs : List Val), t = .int .i64 i ∧ kr6 - i = g ∧ i ≤ kr6 ∧ Blk wr p 38 (cs5 ++ [v] ++ (tup [sPlan, sConf]).zc) ∧ LRdSt sReport 81 oW [f, p] B f 118 2 wQ wr kr6 l5 b5 i l' b' v xss xs ∧ ∀ y ∈ xs, Sch.wmax sReport y ≤ Sch.most sReport)
  case atStart => exact ⟨0, ljr6, bjr6, _, [], [], rfl, rfl, by omega, HBj.out, HSr6.out, by simp⟩
  case round =>
    obtain ⟨i, l', b', v, xss, xs, rfl, hg, hi, hbk, hS, hmx⟩ := hrel
    have hsz := hS.upd.size
    have hrow := hS.row
    obtain ⟨a, c, rfl⟩ := own_shape' hrow
    have c0 : wr.cell? ⟨p, 18, none⟩ = some (.slice a i c) := by have := hbk.cell (o := cs5.length) mid_at; rwa [cs5l] at this
    have HG := Lib.hid hg
    have HBK := Lib.hid hbk
    have HST := Lib.hid hS
    have HMX := Lib.hid hmx
    have hpn : p ∉ (Value.slice a i c).ownBlock.toList := fun hm => by have := own_lo HST.out.row (g := p) (by simpa using hm); omega
    have hfn : f ∉ (Value.slice a i c).ownBlock.toList := fun hm => by have := own_lo HST.out.row (g := f) (by simpa using hm); omega
    have HPN := Lib.hid hpn
    have HFN := Lib.hid hfn
    clear hg hbk hS hmx hrow hpn hfn
    by_cases hlt : i < kr6
    · have t1 : decide (i < kr6) = true := by simpa using hlt
      have HR : Hid (∀ w', Upd (f :: (Value.slice a i c).ownBlock.toList) wr w' → w'.cell? ⟨p, 18, none⟩ = some (.slice a i c)) := Lib.hid (fun w' u => (u.cell (a := ⟨p, 18, none⟩) (by show p < wr.heap.size; omega) (by simp only [List.mem_cons, not_or]; exact ⟨by omega, HPN.out⟩)).trans c0)
      go_wp2_with fail
      refine wp_region_lex (fun w' => Upd (f :: (Value.slice a i c).ownBlock.toList) wr w') 10 [(0, true), (1, true), (2, true), (4, true), (3, false), (5, false), (6, false), (7, false), (8, false), (9, false), (10, false)] (by kernel_rfl) (by kernel_rfl) (by kernel_rfl) (by kernel_rfl) (fun _ _ d _ _ h => by cases d <;> exact h) ?_
      simp only [lexOps, List.map_cons, List.map_nil, List.getD_cons_zero, List.getD_cons_succ]
      have hU0 : Upd [] wr wr.drew := (Upd.refl _ _).drew
      have hS0 : Upd (f :: (Value.slice a i c).ownBlock.toList) wr wr.drew := (Upd.refl _ _).drew
      iterate 4 (refine lex_read rfl (by exact hS0) (v := ?_) (fun w' hw => ?_) ?_; rotate_left; (focus (have k1 := HR.out w' hw; go_simp; try with_reducible rfl)); simp only [Act.put, List.setIfInBounds_toArray, List.set_cons_zero, List.set_cons_succ])
      have HE0 := Lib.hid ((IRdG.start HST.out.fr (by show f < wr.heap.size; omega) hBf).same hU0)
      have hmon : ∀ {w' : World}, Upd [f] wr w' → Upd (f :: (Value.slice a i c).ownBlock.toList) wr w' := fun u => u.mono (fun x hx => .inl (by simp at hx; simp [hx]))
      refine lex_do rfl (fun K hK => ?_)
      go_simp
      refine (IRd.goNum HE0.out).mono ?_
      rintro e wE1 ⟨nE1, lE1, bE1, rfl, u, h⟩
      have HE1 := Lib.hid h
      refine hK _ _ (fun _ => hmon h.upd) ?_
      clear hK K u h
      try simp only [Act.put, List.setIfInBounds_toArray, List.set_cons_zero, List.set_cons_succ]
      refine lex_do rfl (fun K hK => ?_)
      go_simp
      refine (IRd.goNum HE1.out).mono ?_
      rintro e wE2 ⟨nE2, lE2, bE2, rfl, u, h⟩
      have HE2 := Lib.hid h
      refine hK _ _ (fun _ => hmon h.upd) ?_
      clear hK K u h
      try simp only [Act.put, List.setIfInBounds_toArray, List.set_cons_zero, List.set_cons_succ]
      obtain ⟨us, hus0⟩ : ∃ z : List Value, z = (([] ++ [.int .i64 nE1]) ++ [.int .i64 nE2]) := ⟨_, rfl⟩
      have hus : us.length = 2 := by rw [hus0]; simp
      have HBE : Hid (Tryz.prog.built 118 [(0, .int .i64 nE1), (1, .int .i64 nE2)] = some (us ++ (tup []).zc).toArray) := Lib.hid (by
        have e := built_seq (P := Tryz.prog) (t := 118) [1, 1] sReport.zc (by kernel_rfl) (by kernel_rfl) (by rfl) [.int .i64 nE1, .int .i64 nE2] [[.int .i64 nE1], [.int .i64 nE2]] rfl (by simp [])
        rw [show List.flatten [[.int .i64 nE1], [.int .i64 nE2]] = us from by rw [hus0]; simp, show (sReport.zc).drop us.length = (tup []).zc from by rw [hus]; rfl] at e
        simp only [List.zipIdx_cons, List.zipIdx_nil, List.map_cons, List.map_nil, Nat.reduceAdd] at e
        exact e)
      have HEz := HE2.out
      rw [← hus0] at HEz
      clear hus0
      obtain ⟨x, hx⟩ : ∃ x, x = vtup [.num nE1, .num nE2] := ⟨_, rfl⟩
      have h1 := HEz.fr
      have h2 := HEz.upd
      have h4 : Sch.Rep wE2 (Nw wr.heap.size wE2) sReport us x := by rw [hx]; exact Sch.Rep.mono HEz.rep (fun k hk _ => hk.1)
      have h5 : Sch.Rd sReport l' b' x lE2 bE2 := by rw [hx]; exact RSeq.tup HEz.seq
      have h6 : Sch.wmax sReport x ≤ Sch.most sReport := by rw [hx]; exact tup_most _ HEz.max
      clear HEz hx
      refine lex_run rfl (exec_build (vs := #[(0, .int .i64 nE1), (1, .int .i64 nE2)]) (by rfl) (by simp only [List.map_toArray, List.map_cons, List.map_nil]; rfl) (run_build _ _ _ _ HBE.out)) (fun _ => hmon h2) ?_
      rw [show (tup []).zc = [] from rfl, List.append_nil]
      try simp only [Act.put, List.setIfInBounds_toArray, List.set_cons_zero, List.set_cons_succ]
      have hone := h4.one
      have hbp : Blk wE2 p 38 (cs5 ++ [.slice a i c] ++ (tup [sPlan, sConf]).zc) := h2.blk HBK.out (by simp; omega)
      have hrw : wE2.ownsRow wQ.heap.size 118 2 (.slice a i c) i xss.flatten := h2.row HST.out.row (by intro y hy; have := own_lo HST.out.row hy; simp; omega)
      have s2 := h2.size
      have HUSx := Lib.hid hus
      have HONEx := Lib.hid hone
      have HBPx := Lib.hid hbp
      have HRWx := Lib.hid hrw
      have H1x := Lib.hid h1
      have H2x := Lib.hid h2
      have H4x := Lib.hid h4
      have H5x := Lib.hid h5
      have H6x := Lib.hid h6
      clear hus hone hbp hrw h1 h2 h4 h5 h6
      refine lex_run rfl (exec_buildSlice (by rfl) (by simp [Act.eval]) (run_buildSlice1 _ 30 118 iTr6 _ us 2 Tryz.underlying30 hiTr6 hz0r6 hz1r6 HUSx.out (by decide) (by decide))) (fun _ => hmon (H2x.out.alloc _)) ?_
      try simp only [Act.put, List.setIfInBounds_toArray, List.set_cons_zero, List.set_cons_succ]
      have h64 : kr6 ≤ 64 := hkr6
      refine lex_do rfl (fun K hK => ?_)
      refine wp_append_mine (.tmp 25) (.tmp 31) 30 rfl wQ.heap.size 118 iTr6 _ 2 _ Tryz.underlying30 hiTr6 hz0r6 hz1r6 hz2r6 rfl (by decide) (.slice a i c) i xss.flatten rfl (World.ownsRow.alloc HRWx.out _) ⟨wE2.heap.size, 0, none⟩ 1 1 us rfl (by rw [HUSx.out]) (Blk.news (Blk.new _ 118 us)) HONEx.out (by unfold maxLen; omega) (by omega) (by simp; omega) ?_
      intro v' w3 hown hgr hv
      have uA : Upd [f, p] wr (wE2.alloc (.cells us.toArray 118)) := (H2x.out.alloc _).mono (by simp)
      have hI : Ir B w3 f lE2 bE2 := (H1x.out.upd (F := []) ((Upd.refl [] wE2).alloc _) (by simp)).upd (F := (Value.slice a i c).ownBlock.toList) ((Upd.refl _ _).grown hgr (fun k hk => .inl (by simp [hk]))) (fun k hk => ⟨fun e => HFN.out (e ▸ hk), by have := own_lo HST.out.row (g := k) (by simpa using hk); omega⟩)
      have hbp3 : Blk w3 p 38 (cs5 ++ [.slice a i c] ++ (tup [sPlan, sConf]).zc) := by
        have hb4 : Blk (wE2.alloc (.cells us.toArray 118)) p 38 (cs5 ++ [.slice a i c] ++ (tup [sPlan, sConf]).zc) := HBPx.out.alloc _
        refine (hgr.block p hb4.lt (fun e => HPN.out (by simp [← e]))).trans hb4
      have q1 : w3.cell? ⟨p, 18, none⟩ = some (.slice a i c) := by have := hbp3.cell (o := cs5.length) mid_at; rwa [cs5l] at this
      have q2 := hbp3.frozen 18
      have q3 := hbp3.lt
      have uS : Upd [p] w3 (w3.setCell ⟨p, 18, none⟩ v') := (Upd.refl _ _).setCell (by simp) _
      have HX : Hid (Blk (w3.setCell ⟨p, 18, none⟩ v') p 38 (cs5 ++ [v'] ++ (tup [sPlan, sConf]).zc) ∧ LRdSt sReport 81 oW [f, p] B f 118 2 wQ (w3.setCell ⟨p, 18, none⟩ v') kr6 l5 b5 (i + 1) lE2 bE2 v' (xss ++ [us]) (xs ++ [x])) := by
        refine Lib.hid ⟨?_, LRdSt.next HST.out hlt uA (H4x.out.updN ((Upd.refl [] wE2).alloc _) (by simp)) HUSx.out H5x.out hgr hown (by rcases hv with h | h; exact .inl h; exact .inr h) (uS.mono (by simp)) (hI.upd uS (by simp; omega))⟩
        have := hbp3.set cs5.length v'
        rw [mid_set, cs5l] at this
        exact this
      have hS3 : Upd (f :: (Value.slice a i c).ownBlock.toList) wr w3 := (hmon (H2x.out.alloc _)).grown hgr (fun k hk => .inl (by simp [hk]))
      obtain ⟨a3, c3, rfl⟩ := own_shape' hown
      refine hK _ _ (fun _ => hS3) ?_
      clear hK K hown hgr hv uA hI hbp3 uS hmon
      try simp only [Act.put, List.setIfInBounds_toArray, List.set_cons_zero, List.set_cons_succ]
      refine lex_do rfl (fun K hK => ?_)
      go_simp
      refine hK _ _ (fun _ => hS3) ?_
      clear hK K
      try simp only [Act.put, List.setIfInBounds_toArray, List.set_cons_zero, List.set_cons_succ]
      refine lex_do rfl (fun K hK => ?_)
      go_simp
      refine hK _ _ (fun h => absurd rfl h) ?_
      clear hK K hS3
      refine lex_nil ?_
      go_wp2_with fail
      go_roundg (kr6 - (i + 1))
      case measure => have := HG.out; omega
      case rel => exact ⟨i + 1, lE2, bE2, _, _, _, by go_num, rfl, by omega, HX.out.1, HX.out.2, fun y hy => by
        rcases List.mem_append.1 hy with hy | hy
        · exact HMX.out y hy
        · simp at hy; subst hy; exact H6x.out⟩
    · obtain rfl : i = kr6 := by omega
      have t1 : decide (i < i) = false := by simp
      have hmost : Sch.wmax (.list sReport) (.list xs) ≤ Sch.most (.list sReport) := by
        have h1 := sum_le_mul (l := xs.map (Sch.wmax sReport)) (m := Sch.most sReport) (fun y hy => by
          obtain ⟨z, hz, rfl⟩ := List.mem_map.1 hy
          exact HMX.out z hz)
        rw [List.length_map, HST.out.cnt.2] at h1
        have h2 : i * Sch.most sReport ≤ 64 * Sch.most sReport := Nat.mul_le_mul_right _ hkr6
        simp only [Sch.wmax, Sch.most] at h1 h2 ⊢
        omega
      have hN := H5.out.next (F := [p]) (s := .list sReport) (v := .list xs) (c := [.slice a i c]) HST.out.fr HST.out.upd (by simp) HST.out.isRep (HST.out.rd (.inr rfl)) hmost
      have hA := HST.out.upd.blk HA5.out (by simp; omega)
      have hB := HBK.out
      obtain ⟨csr6, hcc⟩ : ∃ z, z = cs5 ++ [Value.slice a i c] := ⟨_, rfl⟩
      have csr6l : csr6.length = 19 := by rw [hcc, List.length_append, cs5l]; rfl
      rw [← hcc] at hN hB
      obtain ⟨wsr6, hz⟩ : ∃ z, z = wr := ⟨_, rfl⟩
      subst hz
      obtain ⟨lsr6, hz⟩ : ∃ z, z = l' := ⟨_, rfl⟩
      subst hz
      obtain ⟨bsr6, hz⟩ : ∃ z, z = b' := ⟨_, rfl⟩
      subst hz
      have Hr6 := Lib.hid hN
      have HBr6 := Lib.hid hB
      have HAr6 := Lib.hid hA
      clear hN hB hA hcc hmost
      go_wp2_with fail
      refine (IRd.go iplan_reads Hr6.out).mono ?_
      rintro e wr7 ⟨vr7, cr7, lr7, br7, rfl, hl, u, h⟩
      have hlr7 : cr7.length = 6 := hl
      clear hl
      rw [show argOf sPlan cr7 = .agg cr7.toArray from rfl]
      have hb := IRd.blkf Hr6.out u HBr6.out
      have ha := u.blk HAr6.out (by have := hf; simp; omega)
      have hone := Lib.hid h.onec
      have HQb := Lib.hid hb
      have HQh := Lib.hid h
      have HQa := Lib.hid ha
      clear hb h ha u
      go_wp2_with (first | (refine wpList_store_cs rfl 34 _ _ rfl p 19 cr7 rfl rfl HQb.out (by rw [List.length_append, csr6l, hlr7]; decide) (by rw [hlr7]; exact Tryz.size34) hone.out ?_; intro wNr7 hN; have q := IRd.storeN (s := sPlan) (o := 19) HQh.out HQb.out hlr7 csr6l.symm; rw [← hN] at q; have ha2 : Blk wNr7 w.heap.size 38 sCmd.zc := (by rw [hN]; exact (Upd.setCells (F := [p]) _ _ _ _ _ (Upd.refl _ _) (by simp)).blk HQa.out (by simp; omega)); have Hq := Lib.hid q; have Ha2 := Lib.hid ha2; clear q ha2 hN) | fail)
      have q := Hq.out
      obtain ⟨csr7, hcc⟩ : ∃ z, z = csr6 ++ cr7 := ⟨_, rfl⟩
      rw [← hcc] at q
      have csr7l : csr7.length = 25 := by rw [hcc, List.length_append, csr6l, hlr7]
      have Hr7 := Lib.hid q.1
      have HBr7 := Lib.hid q.2
      have HAr7 := Ha2
      clear q hcc Hq
      refine (IRd.go iconf_reads Hr7.out).mono ?_
      rintro e wr8 ⟨vr8, cr8, lr8, br8, rfl, hl, u, h⟩
      have hlr8 : cr8.length = 2 := hl
      clear hl
      rw [show argOf sConf cr8 = .agg cr8.toArray from rfl]
      have hb := IRd.blkf Hr7.out u HBr7.out
      have ha := u.blk HAr7.out (by have := hf; simp; omega)
      have hone := Lib.hid h.onec
      have HQb := Lib.hid hb
      have HQh := Lib.hid h
      have HQa := Lib.hid ha
      clear hb h ha u
      go_wp2_with (first | (refine wpList_store_cs rfl 36 _ _ rfl p 25 cr8 rfl rfl HQb.out (by rw [List.length_append, csr7l, hlr8]; decide) (by rw [hlr8]; exact Tryz.size36) hone.out ?_; intro wNr8 hN; have q := IRd.storeN (s := sConf) (o := 25) HQh.out HQb.out hlr8 csr7l.symm; rw [← hN] at q; have ha2 : Blk wNr8 w.heap.size 38 sCmd.zc := (by rw [hN]; exact (Upd.setCells (F := [p]) _ _ _ _ _ (Upd.refl _ _) (by simp)).blk HQa.out (by simp; omega)); have Hq := Lib.hid q; have Ha2 := Lib.hid ha2; clear q ha2 hN) | (refine wpList_load_blk rfl 38 (.tmp 3) rfl p rfl Hq.out.2 Tryz.underlying38 rfl (by simp only [show (tup []).zc = [] from rfl, List.append_nil, List.length_append, csr7l, hlr8]; exact Tryz.size38) ?_) | (refine wpList_store_blk rfl 38 (.tmp 2) (.tmp 40) rfl w.heap.size (csr7 ++ cr8 ++ (tup []).zc) rfl rfl Ha2.out (by simp only [show (tup []).zc = [] from rfl, List.append_nil, List.length_append, csr7l, hlr8]; exact Tryz.size38) (by simp only [show (tup []).zc = [] from rfl, List.append_nil, List.length_append, csr7l, hlr8]; rfl) (by rw [show (tup []).zc = [] from rfl, List.append_nil]; exact Hq.out.1.one) ?_; intro wz hz uz))
      rw [show (tup []).zc = [] from rfl, List.append_nil] at hz
      have hld := run_loadVar_blk (P := Tryz.prog) hz 38 _ Tryz.underlying38 rfl (by simp only [List.length_append, csr7l, hlr8]; exact Tryz.size38)
      refine bodyPost_ret (v := .agg ((csr7 ++ cr8)).toArray) ?_ rfl (IRd.fin' Hq.out.1 UA.out uz s0 (by omega) (by omega) (Nat.le_refl _) (by simp only [List.map_append, List.map_cons, List.map_nil, List.nil_append, List.append_assoc, List.cons_append]; rfl) (by intro h; cases h) hf)
      simp [results, Tryz.results23, asAddr, Act.put, hld]
end Go.Proofs.YthclnpigplcckaaGreat
/- The reference's Out.Told. -/
namespace Go.Proofs.YthclnpigplcckaaGreat
open Go.RowKit Go.Lb Go.Rc
section
variable {B f : Nat} {X : List Nat} {o : List Nat} {w : World} {v : Value}
theorem told_bad (h : Ow B X w f o true) : Calls Tryz.prog 63 #[.pointer (some ⟨f, 0, none⟩)] w fun e w' => e = .returned (.tuple #[.slice none 0 0, .int .i64 1]) ∧ w' = w := by
  obtain ⟨m1, m2, m3⟩ := ow_mark h
  clear h
  go_enter Tryz.func63, Tryz.ntmps63
  go_wp2_with fail
  go_ret2
  exact ⟨rfl, rfl⟩
theorem told_good (h : Ow B X w f o false) (hv : w.cell? ⟨f, 0, none⟩ = some v) : Calls Tryz.prog 63 #[.pointer (some ⟨f, 0, none⟩)] w fun e w' => e = .returned (.tuple #[v, .int .i64 0]) ∧ w' = w := by
  obtain ⟨m1, m2, m3⟩ := ow_mark h
  clear h
  go_enter Tryz.func63, Tryz.ntmps63
  go_wp2_with fail
  go_ret2
  exact ⟨rfl, rfl⟩
end
end Go.Proofs.YthclnpigplcckaaGreat
/- A record's fields, written by the reference one behind the other: where the writing stands; numbers written out of a new row. -/
namespace Go.Rc
open Go Go.RowKit Go.Lb
theorem rangeAt_split {w : World} {p q : Nat} {c r : List Value} (h : w.rangeAt p q (c ++ r)) : w.rangeAt p q c ∧ w.rangeAt p (q + c.length) r := by
  refine ⟨fun j v hj => h j v ?_, fun j v hj => ?_⟩
  · rw [List.getElem?_append_left (List.getElem?_eq_some_iff.1 hj).1]; exact hj
  · have := h (c.length + j) v (by rw [List.getElem?_append_right (by omega), Nat.add_sub_cancel_left]; exact hj)
    rwa [← Nat.add_assoc] at this
/-- Where a writing stands: done is written, rest stands in block p behind. -/
structure WrG (T U : TypeId) (mk : Value → Bool → List Value) (B : Nat) (X : List Nat) (f p q0 : Nat) (w wc : World) (o : List Nat) (b : Bool) (oc : List Nat) (bc : Bool) (done rest : List (Sch × Val)) : Prop where
  fw : St T U mk B X wc f oc bc
  kp : Kp B X w wc
  seq : WSeq done o b oc bc
  mem : p < B ∨ p ∈ X
  lt : p < w.heap.size
  src : ∃ cr, wc.rangeAt p (q0 + fsize done) cr ∧ RepSeq wc (· < B) rest cr
  len : oc.length + wsum rest ≤ 1099511627776
section
variable {T U : TypeId} {mk : Value → Bool → List Value} {B f p q0 q : Nat} {X : List Nat} {w wc w' : World} {o oc o' : List Nat} {b bc b' : Bool} {done rest m : List (Sch × Val)} {s : Sch} {v : Val}
theorem WrG.start {cs : List Value} (h : St T U mk B X w f o b) (hp : p < B ∨ p ∈ X) (hlt : p < w.heap.size) (hb : w.rangeAt p q0 cs) (hr : RepSeq w (· < B) rest cs) (hl : o.length + wsum rest ≤ 1099511627776) : WrG T U mk B X f p q0 w w o b o b [] rest :=
  ⟨h, Kp.refl _ _ _, ⟨rfl, rfl⟩, hp, hlt, ⟨cs, hb, hr⟩, hl⟩
theorem WrG.upd (h : WrG T U mk B X f p q0 w wc o b oc bc done rest) (u : Upd [] wc w') : WrG T U mk B X f p q0 w w' o b oc bc done rest := by
  obtain ⟨cr, h1, h2⟩ := h.src
  exact ⟨h.fw.same u, h.kp.trans (Kp.of_nil u), h.seq, h.mem, h.lt, ⟨cr, rangeAt_keep h1 (u.block p (Nat.lt_of_lt_of_le h.lt h.kp.size) (by simp)), h2.upd u (by simp)⟩, h.len⟩
/-- What comes next is written. -/
theorem WrG.next (h : WrG T U mk B X f p q0 w wc o b oc bc done (m ++ rest)) (h1 : St T U mk B X w' f o' b') (h2 : Kp B X wc w') (h3 : WSeq m oc bc o' b') : WrG T U mk B X f p q0 w w' o b o' b' (done ++ m) rest := by
  obtain ⟨cr, k1, k3⟩ := h.src
  have hm : ∃ c r, cr = c ++ r ∧ c.length = fsize m ∧ RepSeq wc (· < B) rest r := by
    clear k1 h h3
    induction m generalizing cr with
    | nil => exact ⟨[], cr, rfl, rfl, k3⟩
    | cons x m ih =>
      obtain ⟨c, r, rfl, j1, j2⟩ := RepSeq.open (s := x.1) (v := x.2) k3
      obtain ⟨c', r', rfl, j3, j4⟩ := ih r j2
      exact ⟨c ++ c', r', by simp, by simp [j1.len, j3, fsize], j4⟩
  obtain ⟨c, r, rfl, j1, j2⟩ := hm
  refine ⟨h1, h.kp.trans h2, h.seq.append h3, h.mem, h.lt, ⟨r, ?_, j2.keep (fun k hk hl => ⟨hk, h2.block k hl (.inl hk)⟩) h2.size⟩, ?_⟩
  · have := (rangeAt_split k1).2
    rw [j1] at this
    rw [fsize_append, ← Nat.add_assoc]
    exact rangeAt_keep this (h2.block p (Nat.lt_of_lt_of_le h.lt h.kp.size) h.mem)
  · have := h3.len
    have := h.len
    rw [wsum_append] at this
    omega
/-- What comes next, in memory. -/
theorem WrG.range (h : WrG T U mk B X f p q0 w wc o b oc bc done ((s, v) :: rest)) (hq : q = q0 + fsize done) : ∃ c, s.Rep wc (· < B) c v ∧ wc.rangeAt p q c := by
  subst hq
  obtain ⟨cr, k1, k3⟩ := h.src
  obtain ⟨c, r, rfl, j1, j2⟩ := k3.open
  exact ⟨c, j1, (rangeAt_split k1).1⟩
theorem WrG.numAt {n : Int} (h : WrG T U mk B X f p q0 w wc o b oc bc done ((.num, .num n) :: rest)) (hq : q = q0 + fsize done) : wc.cell? ⟨p, q, none⟩ = some (.int .i64 n) := by
  obtain ⟨c, ⟨k, rfl, hk⟩, hc⟩ := h.range hq
  cases hk
  exact hc 0 _ rfl
theorem WrG.flagAt {t : Bool} (h : WrG T U mk B X f p q0 w wc o b oc bc done ((.flag, .flag t) :: rest)) (hq : q = q0 + fsize done) : wc.cell? ⟨p, q, none⟩ = some (.bool t) := by
  obtain ⟨c, ⟨k, rfl, hk⟩, hc⟩ := h.range hq
  cases hk
  exact hc 0 _ rfl
theorem WrG.listAt {l : List Val} (h : WrG T U mk B X f p q0 w wc o b oc bc done ((.list s, .list l) :: rest)) (hq : q = q0 + fsize done) : ∃ a c, wc.cell? ⟨p, q, none⟩ = some (.slice a l.length c) ∧ (Sch.list s).Rep wc (· < B) [.slice a l.length c] (.list l) := by
  obtain ⟨c, hr, hc⟩ := h.range hq
  have hr' := hr
  obtain ⟨a, k, l', rfl, hl, _⟩ := hr
  cases hl
  exact ⟨a, k, hc 0 _ rfl, hr'⟩
theorem WrG.rawAt {l : List Nat} (h : WrG T U mk B X f p q0 w wc o b oc bc done ((.raw, .raw l) :: rest)) (hq : q = q0 + fsize done) : ∃ a c, wc.cell? ⟨p, q, none⟩ = some (.slice a l.length c) ∧ Sch.raw.Rep wc (· < B) [.slice a l.length c] (.raw l) := by
  obtain ⟨c, hr, hc⟩ := h.range hq
  have hr' := hr
  obtain ⟨a, k, l', rfl, hl, _⟩ := hr
  cases hl
  exact ⟨a, k, hc 0 _ rfl, hr'⟩
/-- The next numbers, in memory. -/
theorem WrG.numsAt {ns : List Int} (h : WrG T U mk B X f p q0 w wc o b oc bc done (nums ns ++ rest)) (hq : q = q0 + fsize done) : wc.rangeAt p q (ns.map fun n => Value.int .i64 n) := by
  subst hq
  obtain ⟨cr, k1, k3⟩ := h.src
  obtain ⟨r, rfl, _⟩ := k3.opn
  exact (rangeAt_split k1).1
theorem list_elems {w : World} {ok : Nat → Prop} {s : Sch} {a : Option Addr} {n c : Nat} {l : List Val} (h : (Sch.list s).Rep w ok [.slice a n c] (.list l)) : n = l.length ∧ Elems w ok s s.size a l := by
  obtain ⟨a', c', l', h1, h2, h3⟩ := h
  cases h2
  cases h1
  exact ⟨rfl, h3⟩
end
/-- Something of the record is written, whatever it is. -/
def Sch.wpos : Sch → Bool
  | .nil => false
  | .pair a b => a.wpos || b.wpos
  | _ => true
theorem Sch.Rep.wpos {w : World} {ok : Nat → Prop} : ∀ {s : Sch} {cs : List Value} {v : Val}, s.wpos = true → s.Rep w ok cs v → 1 ≤ s.wmax v
  | .nil, _, _, h, _ => by cases h
  | .num, _, _, _, h => by obtain ⟨n, _, rfl⟩ := h; simp [Sch.wmax]
  | .flag, _, _, _, h => by obtain ⟨n, _, rfl⟩ := h; simp [Sch.wmax]
  | .raw, _, _, _, h => by obtain ⟨_, _, l, _, rfl, _⟩ := h; simp only [Sch.wmax]; omega
  | .list s, _, _, _, h => by obtain ⟨_, _, l, _, rfl, _⟩ := h; simp only [Sch.wmax]; omega
  | .pair a b, _, _, h, hr => by
    obtain ⟨c1, c2, x, y, _, rfl, h1, h2⟩ := hr
    simp only [Sch.wpos, Bool.or_eq_true] at h
    simp only [Sch.wmax]
    rcases h with h | h
    · have := Sch.Rep.wpos h h1; omega
    · have := Sch.Rep.wpos h h2; omega
theorem sum_pos_len : ∀ (l : List Nat), (∀ x ∈ l, 1 ≤ x) → l.length ≤ l.sum
  | [], _ => by simp
  | x :: l, h => by
    have h1 := sum_pos_len l (fun y hy => h y (by simp [hy]))
    have h2 := h x (by simp)
    simp only [List.length_cons, List.sum_cons]; omega
theorem elems_len {w : World} {ok : Nat → Prop} {s : Sch} {k M m : Nat} {a : Option Addr} {l : List Val} (h : Elems w ok s k a l) (hl : m + (Sch.list s).wmax (.list l) ≤ M) (hs : s.wpos = true) : l.length ≤ M := by
  have h1 := sum_pos_len (l.map s.wmax) (fun x hx => by
    obtain ⟨y, hy, rfl⟩ := List.mem_map.1 hx
    obtain ⟨i, hi⟩ := List.mem_iff_getElem?.1 hy
    obtain ⟨_, _, _, _, _, _, _, hr⟩ := h i y hi
    exact hr.wpos hs)
  rw [List.length_map] at h1
  simp only [Sch.wmax] at hl
  omega
end Go.Rc
namespace Go.Proofs.YthclnpigplcckaaGreat
open Go.RowKit Go.Lb Go.Rc
abbrev OWg (B : Nat) (X : List Nat) (f p q0 : Nat) (w wc : World) (o : List Nat) (b : Bool) (oc : List Nat) (bc : Bool) (done rest : List (Sch × Val)) : Prop := WrG 131 5 oW B X f p q0 w wc o b oc bc done rest
section
variable {tp : TypeId} {B f p q0 q : Nat} {X : List Nat} {w wc wd : World} {o oc : List Nat} {b bc : Bool} {done rest : List (Sch × Val)} {s : Sch} {v : Val}
/-- The record was handed over: it lies in a new block. -/
theorem OWg.start {cs : List Value} (h : Ow B X w f o b) (hr : RepSeq w (· < B) rest cs) (hl : o.length + wsum rest ≤ 1099511627776) (hb : Blk wd w.heap.size tp cs) (u : Upd [] w wd) : OWg B (w.heap.size :: X) f w.heap.size 0 wd wd o b o b [] rest :=
  WrG.start (h.new u (Nat.le_refl _) hb.lt) (.inr (by simp)) hb.lt hb.range (hr.upd u (by simp)) hl
theorem OWg.go {K : Nat} {c : List Value} (C : OWrites K s) (h : OWg B X f p q0 w wc o b oc bc done ((s, v) :: rest)) (hc : s.Rep wc (· < B) c v) :
    Calls Tryz.prog K #[.pointer (some ⟨f, 0, none⟩), argOf s c] wc fun e w' => e = .returned (.tuple #[]) ∧ ∃ o' b', OWg B X f p q0 w w' o b o' b' (done ++ [(s, v)]) rest := by
  have hl := h.len
  rw [wsum_cons] at hl
  refine (C B X f c v oc bc wc h.fw hc (by dsimp only at hl; omega)).mono fun e w' ⟨he, o', b', h1, h2, h3⟩ => ?_
  exact ⟨he, o', b', WrG.next (m := [(s, v)]) h h1 h2 (WSeq.one h3)⟩
theorem OWg.goNum {n : Int} (h : OWg B X f p q0 w wc o b oc bc done ((.num, .num n) :: rest)) :
    Calls Tryz.prog 99 #[.pointer (some ⟨f, 0, none⟩), .int .i64 n] wc fun e w' => e = .returned (.tuple #[]) ∧ ∃ o' b', OWg B X f p q0 w w' o b o' b' (done ++ [(.num, .num n)]) rest :=
  OWg.go (c := [.int .i64 n]) onum_writes h (Sch.Rep.num_mk n)
theorem OWg.goFlag {t : Bool} (h : OWg B X f p q0 w wc o b oc bc done ((.flag, .flag t) :: rest)) :
    Calls Tryz.prog 107 #[.pointer (some ⟨f, 0, none⟩), .bool t] wc fun e w' => e = .returned (.tuple #[]) ∧ ∃ o' b', OWg B X f p q0 w w' o b o' b' (done ++ [(.flag, .flag t)]) rest :=
  OWg.go (c := [.bool t]) oflag_writes h ⟨t, rfl, rfl⟩
/-- How many the next list has is written; the list's things come then. -/
theorem OWg.goCount {l : List Val} (h : OWg B X f p q0 w wc o b oc bc done ((.list s, .list l) :: rest)) :
    Calls Tryz.prog 102 #[.pointer (some ⟨f, 0, none⟩), .int .i64 (l.length : Int)] wc fun e w' => e = .returned (.tuple #[]) ∧ ∃ o' b', Ow B X w' f o' b' ∧ Kp B X wc w' ∧ LWk s l.length [] oc bc o' b' := by
  have hl := h.len
  rw [wsum_cons] at hl
  refine (ocount_w B X f l.length oc bc wc h.fw (by simp only [Sch.wmax] at hl; omega)).mono fun e w' ⟨he, o', b', h1, h2, h3⟩ => ⟨he, o', b', h1, h2, LWk.start h3⟩
theorem OWg.fin (h : OWg B (p :: X) f p 0 wd wc o b oc bc done []) (u : Upd [] w wd) (hs : s = tup (done.map (·.1))) (hv : v = vtup (done.map (·.2))) : OPost s B X f v o b w (.returned (.tuple #[])) wc := by
  subst hs hv
  exact ⟨rfl, oc, bc, h.fw.less, (Kp.of_nil u).trans h.kp.drop, WSeq.tup h.seq⟩
end

def ONumsW (B : Nat) (X : List Nat) (f : Nat) (ns : List Int) (o : List Nat) (b : Bool) (w : World) (e : Ending) (w' : World) : Prop :=
  e = .returned (.tuple #[]) ∧ ∃ o' b', Ow B X w' f o' b' ∧ Kp B X w w' ∧ WSeq (nums ns) o b o' b'

set_option maxRecDepth 20000 in
set_option maxHeartbeats 1000000 in
theorem onums16_w (B : Nat) (X : List Nat) (f ab k : Nat) (ns : List Int) (o : List Nat) (b : Bool) (w : World) (h : Ow B X w f o b) (hk : ns.length = k) (ha : ab ∈ X)
    (hpt : w.rangeAt ab 0 (ns.map iv)) (hl : o.length + 6 * k ≤ 1099511627776) :
    Calls Tryz.prog 106 #[.pointer (some ⟨f, 0, none⟩), .slice (some ⟨ab, 0, none⟩) k k] w (ONumsW B X f ns o b w) := by
  subst hk
  have H := Lib.hid h
  have HA := Lib.hid ha
  have HPT := Lib.hid hpt
  have hal := h.1 ab ha
  clear h ha hpt
  go_enter Tryz.func106, Tryz.ntmps106
  go_wp2_with fail
  go_loopg [4] ns.length (fun g t wr => ∃ (i : Nat) (o' : List Nat) (b' : Bool), t = .int .i64 i ∧ ns.length - i = g ∧ i ≤ ns.length ∧ Ow B X wr f o' b' ∧ Kp B X w wr ∧ WSeq (nums (ns.take i)) o b o' b')
  case atStart => exact ⟨0, o, b, rfl, rfl, by omega, H.out, Kp.refl _ _ _, rfl, rfl⟩
  case round =>
    obtain ⟨i, o', b', rfl, hg, hi, hF, hK, hW⟩ := hrel
    have HG := Lib.hid hg
    have HF := Lib.hid hF
    have HK := Lib.hid hK
    have HW := Lib.hid hW
    clear hg hF hK hW
    by_cases hlt : i < ns.length
    · have t1 : decide (i < ns.length) = true := by simpa using hlt
      obtain ⟨n, hn⟩ : ∃ n, ns[i]? = some n := ⟨_, List.getElem?_eq_getElem hlt⟩
      have HN := Lib.hid hn
      have c0 := HPT.out i (.int .i64 n) (by rw [List.getElem?_map, hn]; rfl)
      rw [Nat.zero_add] at c0
      have c1 : wr.cell? ⟨ab, i, none⟩ = some (.int .i64 n) := (HK.out.cell (o := i) hal (.inr HA.out)).trans c0
      have hwl := HW.out.len
      rw [wsum_nums, List.length_take] at hwl
      have hol : o'.length + 6 ≤ 1099511627776 := by omega
      clear hn c0 hwl
      go_wp2_with fail
      refine (onum_w B X f n o' b' _ HF.out hol).mono ?_
      rintro e w1 ⟨rfl, o2, b2, h1, h2, h3⟩
      have H1 := Lib.hid h1
      have H2 := Lib.hid h2
      have H3 := Lib.hid h3
      clear h1 h2 h3
      go_wp2_with fail
      go_roundg (ns.length - (i + 1))
      case measure => have := HG.out; omega
      case rel => exact ⟨i + 1, o2, b2, by go_num, rfl, by omega, H1.out, HK.out.trans H2.out, by rw [take_snoc HN.out, nums, List.map_append]; exact HW.out.snoc H3.out⟩
    · obtain rfl : i = ns.length := by omega
      go_wp2_with fail
      go_end0
      refine ⟨rfl, o', b', HF.out, HK.out, ?_⟩
      have := HW.out
      rwa [List.take_length] at this
section
variable {tp : TypeId} {B f p q0 q : Nat} {X : List Nat} {w wc wd : World} {o oc : List Nat} {b bc : Bool} {done rest : List (Sch × Val)} {s : Sch} {v : Val}
/-- The next numbers are written, out of a new row. -/
theorem OWg.goNums {ns : List Int} {ab k : Nat} {t : TypeId} {vs : List Value} (h : OWg B X f p q0 w wc o b oc bc done (nums ns ++ rest)) (hk : ns.length = k) (u : Upd [] wc wd) (ha : wc.heap.size ≤ ab) (hv : Blk wd ab t vs) (hvs : vs = ns.map iv) :
    Calls Tryz.prog 106 #[.pointer (some ⟨f, 0, none⟩), .slice (some ⟨ab, 0, none⟩) k k] wd fun e w' => e = .returned (.tuple #[]) ∧ ∃ o' b', OWg B X f p q0 w w' o b o' b' (done ++ nums ns) rest := by
  have h' := h.upd u
  have hl := h.len
  rw [wsum_append, wsum_nums] at hl
  subst hvs
  refine (onums16_w B (ab :: X) f ab k ns oc bc wd (h.fw.new u ha hv.lt) hk (by simp) hv.range (by omega)).mono ?_
  rintro e w' ⟨he, o', b', h1, h2, h3⟩
  exact ⟨he, o', b', h'.next h1.less h2.drop h3⟩
end
end Go.Proofs.YthclnpigplcckaaGreat
/- The reference's Out.Bytes. -/
namespace Go.Proofs.YthclnpigplcckaaGreat
open Go.RowKit Go.Lb Go.Rc

set_option maxRecDepth 20000 in
set_option maxHeartbeats 2000000 in
theorem obytes_writes : OWrites 108 .raw := fun B X f cs v o b w h hr hl => by
  obtain ⟨i5, hi5, hz0, hz1, hz2⟩ := infoU8
  obtain ⟨a, c, l, rfl, rfl, hby⟩ := hr
  have hl2 : o.length + (6 + l.length) ≤ 1099511627776 := hl
  obtain ⟨m1, m2, m3⟩ := ow_mark h
  obtain ⟨tt, htt⟩ : ∃ tt, decide ((65536 : Int) < (l.length : Int)) = tt := ⟨_, rfl⟩
  obtain ⟨b1, hb1⟩ : ∃ b1 : Bool, b1 = (b || tt) := ⟨_, rfl⟩
  have HM := Lib.hid (out_mark (i := 1) (fun _ _ _ => rfl) h b1)
  have HBY := Lib.hid hby
  have hB := h.base
  have fin : ∀ (o' : List Nat) (b' : Bool), Sch.num.Wr (.num (l.length : Int)) o b1 o' b' → Sch.raw.Wr (.raw l) o b (o' ++ l) b' := fun o' b' h => by
    refine ⟨?_, ?_, ?_⟩
    · rw [h.bad, hb1, ← htt]
      simp only [Bool.or_eq_false_iff, decide_eq_false_iff_not, Sch.good, maxN, and_assoc]
      constructor
      · rintro ⟨h1, h2, _⟩
        exact ⟨h1, by omega, fun x hx => by
          obtain ⟨i, hi⟩ := List.mem_iff_getElem?.1 hx
          exact (hby i x hi).1⟩
      · rintro ⟨h1, h2, _⟩
        exact ⟨h1, by omega, by omega, by omega⟩
    · intro e
      rw [h.out e, List.append_assoc]; rfl
    · have := h.len
      simp only [List.length_append, Sch.wmax] at this ⊢
      omega
  have HFIN := Lib.hid fin
  clear fin h hby hl
  show Calls Tryz.prog _ #[_, .slice a l.length c] _ _
  cases b
  all_goals
    simp only [Bool.false_or, Bool.true_or] at hb1
    subst hb1
    go_enter Tryz.func108, Tryz.ntmps108
    go_wp2_with fail
    refine (onum_w B X f _ o _ _ HM.out.1 (by omega)).mono ?_
    rintro e w1 ⟨rfl, o1, b1, h1, h2, h3⟩
    have ho1 := h3.len
    simp only [Sch.wmax] at ho1
    have H2 := Lib.hid (HM.out.2.trans h2)
    have HB1 : Hid (Bytes w1 (· < B) a l) := Lib.hid (HBY.out.keep (fun k hk hl => ⟨hk, (HM.out.2.trans h2).block k hl (.inl hk)⟩) (HM.out.2.trans h2).size)
    have H3 := Lib.hid (HFIN.out _ _ h3)
    obtain ⟨hX1, vb, hO, hs⟩ := h1
    obtain ⟨ga, gc, rfl⟩ := own_shape hO.row
    have e3 := hO.blk.cell (o := 0) rfl
    obtain ⟨v', w3, hrun, hown, hg, hv⟩ := append_bytes (P := Tryz.prog) (ty := 22) (c := c) Tryz.underlying22 hi5 hz0 hz1 hz2 rfl hO.row HB1.out (by omega) (Nat.zero_le _)
    have HF := Lib.hid (out_step (mk := oW) (B := B) (X := X) (news := l) (fun _ _ _ => rfl) (fun _ _ => rfl) hO hs hX1 (Upd.refl [] w1) (fun x hx => by
      obtain ⟨i, hi⟩ := List.mem_iff_getElem?.1 hx
      exact (HB1.out i x hi).1) hown hg hv)
    obtain ⟨va', vc', rfl⟩ := own_shape hown
    have e0 := HF.out.2.1
    have e1 := HF.out.2.2.1
    have e2 := HF.out.2.2.2
    have HRUN := Lib.hid hrun
    clear h2 h3 hO hs hX1 hrun hown hg hv
    go_wp2_with (at_builtin; refine wpList_run rfl (exec_append (by rfl) (by rfl) (by rfl) HRUN.out) ?_)
    go_end0
    exact ⟨rfl, o1 ++ l, b1, HF.out.1.1, H2.out.trans HF.out.1.2, H3.out⟩
end Go.Proofs.YthclnpigplcckaaGreat
/- The reference's res, written. -/
namespace Go.Proofs.YthclnpigplcckaaGreat
open Go.RowKit Go.Lb Go.Rc

set_option maxRecDepth 20000 in
set_option maxHeartbeats 4000000 in
theorem ores_writes : OWrites 114 sRes := fun B X f cs v o b w h hr hl => by
  have hlen : cs.length = 2 := hr.len
  have k0 : (tup [.num, .num]).Rep w (· < B) cs v := hr
  obtain ⟨_, _, v0, y1, -, rfl, ⟨n0, -, rfl⟩, k1⟩ := Sch.Rep.tup_cons k0
  obtain ⟨_, _, v1, y2, -, rfl, ⟨n1, -, rfl⟩, k2⟩ := Sch.Rep.tup_cons k1
  obtain ⟨-, rfl⟩ := Sch.Rep.tup_nil k2
  clear k1 k2
  have H0 := Lib.hid (OWg.start (tp := 27) (rest := [(.num, .num n0), (.num, .num n1)]) h hr (by have := tup_wmax [(.num, .num n0), (.num, .num n1)]; rw [← this]; exact hl) (Blk.new w 27 cs) ((Upd.refl _ _).alloc _))
  have hB := h.base
  clear h hr hl k0
  show Calls Tryz.prog _ #[_, .agg cs.toArray] _ _
  go_enter Tryz.func114, Tryz.ntmps114
  have e0 := WrG.numAt (q := 0) H0.out rfl
  go_wp2_with fail
  refine (OWg.goNum H0.out).mono ?_
  rintro e w1 ⟨rfl, o1, b1, h⟩
  have H1 := Lib.hid h
  clear h e0
  have e1 := WrG.numAt (q := 1) H1.out rfl
  go_wp2_with fail
  refine (OWg.goNum H1.out).mono ?_
  rintro e w2 ⟨rfl, o2, b2, h⟩
  have H2 := Lib.hid h
  clear h e1
  go_wp2_with fail
  go_end0
  exact OWg.fin H2.out ((Upd.refl _ _).alloc _) rfl rfl
end Go.Proofs.YthclnpigplcckaaGreat
