/- A part of the proof of CodecReadsSaid: the texts that it leans on, one behind the other. No condition but those that each theorem states. -/
import Derived.Test.YthclnpigplcckaaGreatCodecReadsSaidZb
import Derived.Stop.BytesEq
set_option linter.unusedVariables false
set_option linter.unusedSimpArgs false
/- The sum of a frame (CRC32C), in plain numbers: a change in up to 32 bits side by side is seen. -/
namespace Go.Crc
def poly : Nat := 0x82F63B78
theorem xlc (a b c : Nat) : a ^^^ (b ^^^ c) = b ^^^ (a ^^^ c) := by rw [← Nat.xor_assoc, Nat.xor_comm a b, Nat.xor_assoc]
theorem xz {a b : Nat} (h : a ^^^ b = 0) : a = b := by
  have h1 : a ^^^ (b ^^^ b) = b := by rw [← Nat.xor_assoc, h, Nat.zero_xor]
  rwa [Nat.xor_self, Nat.xor_zero] at h1
def step (s : Nat) : Nat := (s / 2) ^^^ ((s % 2) * poly)
def steps : Nat → Nat → Nat
  | 0, s => s
  | n + 1, s => steps n (step s)
theorem step_zero : step 0 = 0 := by decide
theorem mul_bit (a b : Nat) : ((a ^^^ b) % 2) * poly = ((a % 2) * poly) ^^^ ((b % 2) * poly) := by
  have h : (a ^^^ b) % 2 = (a % 2) ^^^ (b % 2) := by
    have := Nat.xor_mod_two_pow (a := a) (b := b) (n := 1); simpa using this
  rw [h]
  rcases Nat.mod_two_eq_zero_or_one a with ha | ha <;> rcases Nat.mod_two_eq_zero_or_one b with hb | hb <;> rw [ha, hb] <;> simp
theorem step_xor (a b : Nat) : step (a ^^^ b) = step a ^^^ step b := by
  unfold step
  rw [mul_bit]
  have h : (a ^^^ b) / 2 = (a / 2) ^^^ (b / 2) := by
    have := Nat.xor_div_two_pow (a := a) (b := b) (n := 1); simpa using this
  rw [h]
  simp only [Nat.xor_assoc, xlc]
theorem steps_xor : ∀ (n a b : Nat), steps n (a ^^^ b) = steps n a ^^^ steps n b
  | 0, _, _ => rfl
  | n + 1, a, b => by simp only [steps, step_xor, steps_xor n]
theorem steps_zero : ∀ n, steps n 0 = 0
  | 0 => rfl
  | n + 1 => by rw [steps, step_zero, steps_zero n]
theorem steps_add : ∀ (n m s : Nat), steps (n + m) s = steps m (steps n s)
  | 0, m, s => by rw [Nat.zero_add]; rfl
  | n + 1, m, s => by rw [show n + 1 + m = (n + m) + 1 by omega, steps, steps_add n m]; rfl
theorem step_lt {s : Nat} (h : s < 2 ^ 32) : step s < 2 ^ 32 := by
  unfold step
  refine Nat.xor_lt_two_pow (by omega) ?_
  rcases Nat.mod_two_eq_zero_or_one s with ha | ha <;> rw [ha] <;> decide
theorem step_ne {s : Nat} (h : s < 2 ^ 32) (h0 : s ≠ 0) : step s ≠ 0 := by
  unfold step
  rcases Nat.mod_two_eq_zero_or_one s with ha | ha <;> rw [ha]
  · rw [Nat.zero_mul, Nat.xor_zero]; omega
  · rw [Nat.one_mul]
    intro e
    have := xz e
    unfold poly at this
    omega
theorem steps_lt : ∀ (n : Nat) {s : Nat}, s < 2 ^ 32 → steps n s < 2 ^ 32
  | 0, _, h => h
  | n + 1, _, h => steps_lt n (step_lt h)
theorem steps_ne : ∀ (n : Nat) {s : Nat}, s < 2 ^ 32 → s ≠ 0 → steps n s ≠ 0
  | 0, _, _, h0 => h0
  | n + 1, _, h, h0 => steps_ne n (step_lt h) (step_ne h h0)
theorem steps_inj {n a b : Nat} (ha : a < 2 ^ 32) (hb : b < 2 ^ 32) (h : steps n a = steps n b) : a = b := by
  have h1 : steps n (a ^^^ b) = 0 := by rw [steps_xor, h, Nat.xor_self]
  rcases Nat.eq_zero_or_pos (a ^^^ b) with h2 | h2
  · exact xz h2
  · exact absurd h1 (steps_ne n (Nat.xor_lt_two_pow ha hb) (by omega))
theorem steps_shift : ∀ (n s : Nat), steps n (s * 2 ^ n) = s
  | 0, s => by simp [steps]
  | n + 1, s => by
    rw [steps, show step (s * 2 ^ (n + 1)) = s * 2 ^ n by
      unfold step
      rw [Nat.pow_succ, ← Nat.mul_assoc, Nat.mul_mod_left, Nat.zero_mul, Nat.xor_zero, Nat.mul_div_cancel _ (by decide)]]
    exact steps_shift n s

/-- Bytes go in. -/
def feed (s : Nat) (l : List Nat) : Nat := l.foldl (fun s b => steps 8 (s ^^^ b)) s
/-- Bytes as one number, the first the lowest. -/
def num : List Nat → Nat
  | [] => 0
  | b :: l => b ^^^ (num l * 2 ^ 8)
theorem feed_num : ∀ (l : List Nat) (s : Nat), feed s l = steps (8 * l.length) (s ^^^ num l)
  | [], s => by simp [feed, num, steps]
  | b :: l, s => by
    have h := feed_num l (steps 8 (s ^^^ b))
    unfold feed at h ⊢
    rw [List.foldl_cons, h, num, List.length_cons, show 8 * (l.length + 1) = 8 + 8 * l.length by omega, steps_add]
    congr 1
    rw [← Nat.xor_assoc, steps_xor 8 (s ^^^ b), steps_shift]
theorem feed_append (s : Nat) (l m : List Nat) : feed s (l ++ m) = feed (feed s l) m := by simp [feed]
theorem feed_lt : ∀ (l : List Nat) {s : Nat}, s < 2 ^ 32 → (∀ b ∈ l, b < 256) → feed s l < 2 ^ 32
  | [], _, h, _ => h
  | b :: l, s, h, hl => by
    unfold feed
    rw [List.foldl_cons]
    have hb : b < 2 ^ 32 := Nat.lt_trans (hl b (by simp)) (by decide)
    exact feed_lt l (steps_lt 8 (Nat.xor_lt_two_pow h hb)) (fun x hx => hl x (by simp [hx]))

/-- What differs, byte for byte. -/
def diff (l m : List Nat) : List Nat := List.zipWith (· ^^^ ·) l m
theorem num_diff : ∀ (l m : List Nat), l.length = m.length → num (diff l m) = num l ^^^ num m
  | [], [], _ => rfl
  | a :: l, b :: m, h => by
    have ih := num_diff l m (by simpa using h)
    unfold diff at ih ⊢
    rw [List.zipWith_cons_cons, num, num, num, ih]
    have : (num l ^^^ num m) * 2 ^ 8 = (num l * 2 ^ 8) ^^^ (num m * 2 ^ 8) := by
      simp only [← Nat.shiftLeft_eq, Nat.shiftLeft_xor_distrib]
    rw [this]
    simp only [Nat.xor_assoc, xlc]
/-- Rows of one length that differ in up to 32 bits side by side leave different states. -/
theorem feed_burst {l m : List Nat} {s c k : Nat} (h : l.length = m.length) (hc : c < 2 ^ 32) (h0 : c ≠ 0) (hk : k ≤ 8 * l.length) (hd : num (diff l m) = c * 2 ^ k) : feed s l ≠ feed s m := by
  intro e
  rw [feed_num, feed_num, ← h] at e
  have h1 : steps (8 * l.length) ((s ^^^ num l) ^^^ (s ^^^ num m)) = 0 := by rw [steps_xor, e, Nat.xor_self]
  have h2 : (s ^^^ num l) ^^^ (s ^^^ num m) = c * 2 ^ k := by
    rw [← hd, num_diff l m h, Nat.xor_comm s, Nat.xor_assoc, ← Nat.xor_assoc s s, Nat.xor_self, Nat.zero_xor]
  rw [h2, show 8 * l.length = k + (8 * l.length - k) by omega, steps_add, steps_shift] at h1
  exact steps_ne _ hc h0 h1
/-- Bytes that are a number, the highest first. -/
def be : Nat → Nat → List Nat
  | 0, _ => []
  | k + 1, n => n / 256 ^ k % 256 :: be k n
def unb (l : List Nat) : Nat := l.foldl (fun n b => 256 * n + b) 0
theorem be_len : ∀ k n, (be k n).length = k
  | 0, _ => rfl
  | k + 1, n => by simp [be, be_len k]
theorem be_byte : ∀ k n, ∀ b ∈ be k n, b < 256
  | 0, _, b, h => by simp [be] at h
  | k + 1, n, b, h => by
    rcases List.mem_cons.1 h with rfl | h
    · exact Nat.mod_lt _ (by decide)
    · exact be_byte k n b h
theorem be_at : ∀ k n i, i < k → (be k n)[i]? = some (n / 256 ^ (k - 1 - i) % 256)
  | 0, _, _, h => by omega
  | k + 1, n, 0, _ => by simp [be]
  | k + 1, n, i + 1, h => by
    rw [be, List.getElem?_cons_succ, be_at k n i (by omega)]
    congr 3; congr 1; omega
theorem unb_snoc (l : List Nat) (b : Nat) : unb (l ++ [b]) = 256 * unb l + b := by simp [unb]
theorem unb_from : ∀ (l : List Nat) (s : Nat), l.foldl (fun n b => 256 * n + b) s = s * 256 ^ l.length + unb l
  | [], s => by simp [unb]
  | b :: l, s => by
    have h1 := unb_from l (256 * s + b)
    have h2 := unb_from l (256 * 0 + b)
    simp only [unb, List.foldl_cons, List.length_cons] at h1 h2 ⊢
    rw [h1, h2, Nat.pow_succ, Nat.add_mul, Nat.mul_comm 256 s, Nat.mul_assoc, Nat.mul_comm 256 (256 ^ l.length)]
    simp [Nat.add_assoc, unb]
theorem unb_cons (b : Nat) (l : List Nat) : unb (b :: l) = b * 256 ^ l.length + unb l := by
  have := unb_from l (256 * 0 + b)
  simpa [unb] using this
theorem unb_lt : ∀ (l : List Nat), (∀ b ∈ l, b < 256) → unb l < 256 ^ l.length
  | [], _ => by simp [unb]
  | b :: l, h => by
    have h1 := unb_lt l (fun x hx => h x (by simp [hx]))
    have h2 := h b (by simp)
    rw [unb_cons, List.length_cons, Nat.pow_succ, Nat.mul_comm _ 256]
    have : b * 256 ^ l.length ≤ 255 * 256 ^ l.length := Nat.mul_le_mul_right _ (by omega)
    omega
theorem be_mod : ∀ k n, be k n = be k (n % 256 ^ k)
  | 0, _ => rfl
  | k + 1, n => by
    have h1 : n % 256 ^ (k + 1) / 256 ^ k = n / 256 ^ k % 256 := by
      rw [Nat.pow_succ, Nat.mod_mul_right_div_self]
    have h2 : n % 256 ^ (k + 1) % 256 ^ k = n % 256 ^ k := Nat.mod_mod_of_dvd _ (Nat.pow_dvd_pow 256 (by omega))
    rw [be, be, h1, Nat.mod_mod, be_mod k n, be_mod k (n % 256 ^ (k + 1)), h2]
theorem unb_be : ∀ k n, n < 256 ^ k → unb (be k n) = n
  | 0, n, h => by simp at h; simp [be, unb, h]
  | k + 1, n, h => by
    rw [be, unb_cons, be_len, be_mod, unb_be k _ (Nat.mod_lt _ (Nat.pow_pos (by decide)))]
    have h1 : n / 256 ^ k < 256 := Nat.div_lt_of_lt_mul (by rwa [← Nat.pow_succ])
    rw [Nat.mod_eq_of_lt h1, Nat.mul_comm]
    exact Nat.div_add_mod n (256 ^ k)
theorem be_unb : ∀ l : List Nat, (∀ b ∈ l, b < 256) → be l.length (unb l) = l
  | [], _ => rfl
  | b :: l, h => by
    have h1 := unb_lt l (fun x hx => h x (by simp [hx]))
    have h2 := h b (by simp)
    have hp : 0 < 256 ^ l.length := Nat.pow_pos (by decide)
    rw [List.length_cons, be, unb_cons, be_mod, show (b * 256 ^ l.length + unb l) / 256 ^ l.length = b by
      rw [Nat.mul_comm, Nat.mul_add_div hp, Nat.div_eq_of_lt h1]; omega, Nat.mod_eq_of_lt h2, show (b * 256 ^ l.length + unb l) % 256 ^ l.length = unb l by
      rw [Nat.mul_comm, Nat.mul_add_mod, Nat.mod_eq_of_lt h1], be_unb l (fun x hx => h x (by simp [hx]))]

/-- The sum, and its bytes, the lowest first. -/
def F32 : Nat := 4294967295
def crc (l : List Nat) : Nat := F32 ^^^ feed F32 l
def le4 (s : Nat) : List Nat := [s % 256, s / 256 % 256, s / 65536 % 256, s / 16777216 % 256]
theorem le4_byte (s : Nat) : ∀ b ∈ le4 s, b < 256 := by
  intro b hb
  simp [le4] at hb
  omega
theorem le4_inj {a b : Nat} (ha : a < 4294967296) (hb : b < 4294967296) (h : le4 a = le4 b) : a = b := by
  simp [le4] at h
  omega
theorem xor_shl {a b : Nat} (h : a < 256) : a ^^^ (b * 2 ^ 8) = a + b * 256 := by
  have h1 := Nat.shiftLeft_add_eq_or_of_lt (b := a) (i := 8) (by simpa using h) b
  rw [Nat.shiftLeft_eq] at h1
  have h2 : a ^^^ b * 2 ^ 8 = b * 2 ^ 8 ||| a := by
    apply Nat.eq_of_testBit_eq
    intro i
    rw [Nat.testBit_xor, Nat.testBit_or, Nat.testBit_mul_two_pow]
    by_cases hi : 8 ≤ i
    · have : a.testBit i = false := Nat.testBit_lt_two_pow (Nat.lt_of_lt_of_le (by simpa using h) (Nat.pow_le_pow_right (by decide) hi))
      rw [this]; simp
    · simp [hi]
  rw [h2, ← h1]; omega
theorem num_le4 {s : Nat} (h : s < 4294967296) : num (le4 s) = s := by
  have e : num (le4 s) = s % 256 ^^^ ((s / 256 % 256 ^^^ ((s / 65536 % 256 ^^^ ((s / 16777216 % 256 ^^^ (0 * 2 ^ 8)) * 2 ^ 8)) * 2 ^ 8)) * 2 ^ 8) := rfl
  rw [e, xor_shl (by omega), xor_shl (by omega), xor_shl (by omega), xor_shl (by omega)]
  omega
theorem le4_num {a b c d : Nat} (ha : a < 256) (hb : b < 256) (hc : c < 256) (hd : d < 256) : le4 (num [a, b, c, d]) = [a, b, c, d] := by
  have e : num [a, b, c, d] = a ^^^ ((b ^^^ ((c ^^^ ((d ^^^ (0 * 2 ^ 8)) * 2 ^ 8)) * 2 ^ 8)) * 2 ^ 8) := rfl
  rw [e, xor_shl hd, xor_shl hc, xor_shl hb, xor_shl ha]
  simp only [le4, List.cons.injEq, and_true]
  omega
theorem crc_lt {l : List Nat} (h : ∀ b ∈ l, b < 256) : crc l < 4294967296 := by
  have := feed_lt l (s := F32) (by decide) h
  exact Nat.xor_lt_two_pow (n := 32) (by decide) (by simpa using this)
/-- Behind the right sum the state is always the same. -/
theorem feed_crc {l : List Nat} (h : ∀ b ∈ l, b < 256) : feed F32 (l ++ le4 (crc l)) = steps 32 F32 := by
  rw [feed_append, feed_num, num_le4 (crc_lt h)]
  congr 1
  unfold crc
  rw [Nat.xor_comm F32, ← Nat.xor_assoc, Nat.xor_self, Nat.zero_xor]

/-- A frame, but for its sum. -/
def frm (kind place : Nat) (body : List Nat) : List Nat := be 4 body.length ++ kind :: be 6 place ++ body
def frame (kind place : Nat) (body : List Nat) : List Nat := frm kind place body ++ le4 (crc (frm kind place body))
structure Fits (kind place : Nat) (body : List Nat) : Prop where
  kind : kind ≤ 255
  place : place ≤ 1099511627776
  len : body.length ≤ 1048576
  byte : ∀ b ∈ body, b < 256
theorem frm_len (kind place : Nat) (body : List Nat) : (frm kind place body).length = 11 + body.length := by simp [frm, be_len]; omega
theorem frame_len (kind place : Nat) (body : List Nat) : (frame kind place body).length = 15 + body.length := by simp [frame, frm_len, le4]; omega
theorem frm_byte {kind place : Nat} {body : List Nat} (h : Fits kind place body) : ∀ b ∈ frm kind place body, b < 256 := by
  intro b hb
  simp only [frm, List.mem_append, List.mem_cons] at hb
  rcases hb with (hb | rfl | hb) | hb
  · exact be_byte _ _ b hb
  · have := h.kind; omega
  · exact be_byte _ _ b hb
  · exact h.byte b hb
theorem frame_byte {kind place : Nat} {body : List Nat} (h : Fits kind place body) : ∀ b ∈ frame kind place body, b < 256 := by
  intro b hb
  rcases List.mem_append.1 hb with hb | hb
  · exact frm_byte h b hb
  · exact le4_byte _ b hb
/-- What is found in front: nothing yet, what is none, or a frame. -/
inductive Found
  | torn
  | wrong
  | whole (kind place : Nat) (body : List Nat)
def nOf (l : List Nat) : Nat := unb (l.take 4)
def pOf (l : List Nat) : Nat := unb ((l.drop 5).take 6)
def kOf (l : List Nat) : Nat := l.getD 4 0
def find (l : List Nat) : Found :=
  if l.length < 11 then .torn else
  if 1048576 < nOf l ∨ 1099511627776 < pOf l then .wrong else
  if l.length < 15 + nOf l then .torn else
  if (l.drop (11 + nOf l)).take 4 = le4 (crc (l.take (11 + nOf l))) then .whole (kOf l) (pOf l) ((l.drop 11).take (nOf l)) else .wrong
theorem head_of {l : List Nat} (h : 11 ≤ l.length) (hb : ∀ b ∈ l, b < 256) (hn : 11 + nOf l ≤ l.length) : frm (kOf l) (pOf l) ((l.drop 11).take (nOf l)) = l.take (11 + nOf l) := by
  have h4 : (l.take 4).length = 4 := by simp; omega
  have h6 : ((l.drop 5).take 6).length = 6 := by simp; omega
  have hl : ((l.drop 11).take (nOf l)).length = nOf l := by simp; omega
  have e1 : be 4 (nOf l) = l.take 4 := by
    have := be_unb (l.take 4) (fun b h => hb b (List.mem_of_mem_take h))
    rwa [h4] at this
  have e2 : be 6 (pOf l) = (l.drop 5).take 6 := by
    have := be_unb ((l.drop 5).take 6) (fun b h => hb b (List.mem_of_mem_drop (List.mem_of_mem_take h)))
    rwa [h6] at this
  have e3 : [kOf l] = (l.drop 4).take 1 := by
    rw [List.drop_eq_getElem_cons (show 4 < l.length by omega)]
    simp only [kOf, List.getD, List.getElem?_eq_getElem (show 4 < l.length by omega), Option.getD_some, List.take_succ_cons, List.take_zero]
  unfold frm
  rw [hl, e1, e2, ← List.singleton_append, e3]
  have t : ∀ a b : Nat, l.take (a + b) = l.take a ++ (l.drop a).take b := fun a b => List.take_add
  rw [show 11 + nOf l = 4 + (1 + (6 + nOf l)) by omega, List.take_add, List.take_add, List.take_add]
  simp only [List.drop_drop, List.append_assoc]
theorem find_whole {l : List Nat} {k p : Nat} {body : List Nat} (hb : ∀ b ∈ l, b < 256) (h : find l = .whole k p body) : Fits k p body ∧ ∃ r, l = frame k p body ++ r := by
  unfold find at h
  split at h
  · cases h
  split at h
  · cases h
  split at h
  · cases h
  split at h
  · rename_i h1 h2 h3 h4
    simp only [Found.whole.injEq] at h
    obtain ⟨rfl, rfl, rfl⟩ := h
    have hh := head_of (by omega) hb (by omega)
    have hl : ((l.drop 11).take (nOf l)).length = nOf l := by simp; omega
    refine ⟨⟨?_, by omega, by omega, fun b h => hb b (List.mem_of_mem_drop (List.mem_of_mem_take h))⟩, l.drop (15 + nOf l), ?_⟩
    · have : kOf l < 256 := by
        unfold kOf
        rw [List.getD_eq_getElem?_getD, List.getElem?_eq_getElem (show 4 < l.length by omega), Option.getD_some]
        exact hb _ (List.getElem_mem _)
      omega
    · unfold frame
      rw [hh, ← h4, ← List.take_add, show 11 + nOf l + 4 = 15 + nOf l by omega, List.take_append_drop]
  · cases h
theorem nOf_frame {k p : Nat} {body : List Nat} (hf : Fits k p body) (r : List Nat) : nOf (frm k p body ++ r) = body.length := by
  have := hf.len
  unfold nOf frm
  rw [show be 4 body.length ++ k :: be 6 p ++ body ++ r = be 4 body.length ++ (k :: be 6 p ++ body ++ r) by simp, List.take_append_of_le_length (by simp [be_len]), List.take_of_length_le (by simp [be_len]), unb_be _ _ (by omega)]
theorem pOf_frame {k p : Nat} {body : List Nat} (hf : Fits k p body) (r : List Nat) : pOf (frm k p body ++ r) = p := by
  have := hf.place
  unfold pOf frm
  rw [show be 4 body.length ++ k :: be 6 p ++ body ++ r = (be 4 body.length ++ [k]) ++ (be 6 p ++ (body ++ r)) by simp, List.drop_append, List.drop_of_length_le (by simp [be_len]), List.nil_append]
  simp only [List.length_append, be_len, List.length_singleton, Nat.sub_self, List.drop_zero]
  rw [List.take_append_of_le_length (by simp [be_len]), List.take_of_length_le (by simp [be_len]), unb_be _ _ (by omega)]
theorem kOf_frame (k p : Nat) (body r : List Nat) : kOf (frm k p body ++ r) = k := by
  unfold kOf frm
  rw [List.getD_eq_getElem?_getD, show be 4 body.length ++ k :: be 6 p ++ body ++ r = be 4 body.length ++ (k :: be 6 p ++ body ++ r) by simp, List.getElem?_append_right (by simp [be_len]), be_len]
  rfl
theorem drop11 (k p : Nat) (body r : List Nat) : (frm k p body ++ r).drop 11 = body ++ r := by
  unfold frm
  rw [show be 4 body.length ++ k :: be 6 p ++ body ++ r = (be 4 body.length ++ k :: be 6 p) ++ (body ++ r) by simp, List.drop_append, List.drop_of_length_le (by simp [be_len]), List.nil_append]
  simp [be_len]
theorem find_frame {k p : Nat} {body : List Nat} (hf : Fits k p body) (r : List Nat) : find (frame k p body ++ r) = .whole k p body := by
  have e : frame k p body ++ r = frm k p body ++ (le4 (crc (frm k p body)) ++ r) := by simp [frame]
  have hl := frm_len k p body
  have h1 := hf.len
  have h2 := hf.place
  unfold find
  rw [e, nOf_frame hf, pOf_frame hf, kOf_frame, drop11]
  have hll : (frm k p body ++ (le4 (crc (frm k p body)) ++ r)).length = 15 + body.length + r.length := by simp [hl, le4]; omega
  rw [if_neg (by omega), if_neg (by omega), if_neg (by omega)]
  rw [show (frm k p body ++ (le4 (crc (frm k p body)) ++ r)).take (11 + body.length) = frm k p body by rw [List.take_append_of_le_length (by omega), List.take_of_length_le (by omega)]]
  rw [show (frm k p body ++ (le4 (crc (frm k p body)) ++ r)).drop (11 + body.length) = le4 (crc (frm k p body)) ++ r by rw [List.drop_append, List.drop_of_length_le (by omega), hl]; simp]
  rw [if_pos (by simp [le4])]
  simp
/-- A frame that is cut. -/
theorem find_cut {k p : Nat} {body : List Nat} (hf : Fits k p body) {c : Nat} (hc : c < 15 + body.length) : find ((frame k p body).take c) = .torn := by
  have hl := frm_len k p body
  have hlc : ((frame k p body).take c).length = c := by simp [frame_len]; omega
  unfold find
  by_cases h11 : c < 11
  · rw [if_pos (by omega)]
  · have e : ∀ (a b : Nat), a + b ≤ 11 → (((frame k p body).take c).drop a).take b = ((frame k p body).drop a).take b := fun a b h => by
      rw [List.drop_take, List.take_take, Nat.min_eq_left (by omega)]
    have hn : nOf ((frame k p body).take c) = body.length := by
      have := e 0 4 (by omega)
      simp only [List.drop_zero] at this
      unfold nOf
      rw [this]; exact nOf_frame hf _
    have hp : pOf ((frame k p body).take c) = p := by
      unfold pOf
      rw [e 5 6 (by omega)]; exact pOf_frame hf _
    have h1 := hf.len
    have h2 := hf.place
    rw [if_neg (by omega), hn, hp, if_neg (by omega), if_pos (by omega)]
/-- A frame of which up to 32 bits side by side were changed, behind its length. -/
theorem find_burst {k p : Nat} {body l : List Nat} (hf : Fits k p body) (hb : ∀ b ∈ l, b < 256) (hlen : l.length = 15 + body.length) (h4 : l.take 4 = (frame k p body).take 4)
    {c n : Nat} (hc : c < 2 ^ 32) (h0 : c ≠ 0) (hk : n ≤ 8 * (15 + body.length)) (hd : num (diff (frame k p body) l) = c * 2 ^ n) : find l = .wrong := by
  have hn : nOf l = body.length := by
    unfold nOf
    rw [h4]; exact nOf_frame hf _
  have h1 := hf.len
  have hne : feed F32 (frame k p body) ≠ feed F32 l := feed_burst (by rw [frame_len, hlen]) hc h0 (by rw [frame_len]; exact hk) hd
  unfold find
  rw [if_neg (by omega), hn]
  split
  · rfl
  · rw [if_neg (by omega), if_neg]
    intro e
    apply hne
    have e2 : l = l.take (11 + body.length) ++ le4 (crc (l.take (11 + body.length))) := by
      rw [← e, ← List.take_add, List.take_of_length_le (by omega)]
    rw [frame, feed_crc (frm_byte hf), e2, feed_crc (fun b h => hb b (List.mem_of_mem_take h))]
/-- One bit is turned. -/
theorem num_flip : ∀ (l : List Nat) (i j x : Nat), l[i]? = some x → num (l.set i (x ^^^ 2 ^ j)) = num l ^^^ 2 ^ (8 * i + j)
  | [], i, j, x, h => by simp at h
  | b :: l, 0, j, x, h => by
    obtain rfl : b = x := by simpa using h
    simp only [List.set_cons_zero, num, Nat.mul_zero, Nat.zero_add, Nat.xor_assoc]
    congr 1
    exact Nat.xor_comm _ _
  | b :: l, i + 1, j, x, h => by
    have ih := num_flip l i j x (by simpa using h)
    simp only [List.set_cons_succ, num, ih, Nat.xor_assoc]
    congr 1
    rw [← Nat.shiftLeft_eq, Nat.shiftLeft_xor_distrib, Nat.shiftLeft_eq, Nat.shiftLeft_eq, ← Nat.pow_add]
    congr 2; omega
end Go.Crc
/- The sum of some bytes: codec's sum and the reference's Sum. -/
namespace Go.Crc
open Go
theorem wrap32 (n : Int) : IntKind.u32.wrap n = n % 4294967296 := by simp [IntKind.wrap, IntKind.bits, IntKind.signed]
theorem step_bits {s : Nat} (h : s < 4294967296) : bits .xor .u32 ((s : Int) / 2) (bits .and .u32 (s : Int) 1 * 2197175160 % 4294967296) = ((step s : Nat) : Int) := by
  have e1 : (1 : Int) = ((1 : Nat) : Int) := rfl
  have e2 : bits .and .u32 (s : Int) 1 = ((s % 2 : Nat) : Int) := by
    rw [e1, u32_and_nat _ _ h (by decide)]
    congr 1
    exact Nat.and_two_pow_sub_one_eq_mod s 1
  have e3 : bits .and .u32 (s : Int) 1 * 2197175160 % 4294967296 = ((s % 2 * poly : Nat) : Int) := by
    rw [e2]; unfold poly; omega
  have e4 : (s : Int) / 2 = ((s / 2 : Nat) : Int) := by omega
  rw [e3, e4, u32_xor_nat _ _ (by omega) (by unfold poly; omega)]
  rfl
theorem xor_bits {s x : Nat} (h : s < 4294967296) (hx : x < 256) : bits .xor .u32 (s : Int) (x : Int) = ((s ^^^ x : Nat) : Int) := u32_xor_nat _ _ h (by omega)
theorem not_bits {s : Nat} (h : s < 4294967296) : bits .xor .u32 IntKind.u32.max (s : Int) = ((F32 ^^^ s : Nat) : Int) := by
  have e1 : IntKind.u32.max = ((4294967295 : Nat) : Int) := by decide
  rw [e1, u32_xor_nat _ _ (by decide) h]
  rfl
theorem feed_snoc (s : Nat) (l : List Nat) (x : Nat) : feed s (l ++ [x]) = steps 8 (feed s l ^^^ x) := by simp [feed]
theorem steps_succ' : ∀ (n s : Nat), steps (n + 1) s = step (steps n s)
  | 0, s => rfl
  | n + 1, s => by rw [steps, steps_succ' n (step s), steps]
theorem xor_lt32 {a b : Nat} (ha : a < 4294967296) (hb : b < 4294967296) : a ^^^ b < 4294967296 := Nat.xor_lt_two_pow (n := 32) (by simpa using ha) (by simpa using hb)
end Go.Crc
namespace Go.Proofs.YthclnpigplcckaaGreat
open Go.RowKit Go.Lb Go.Rc Go.Crc

theorem le4_vals (n : Nat) : Value.agg ((le4 n).map bv).toArray = .agg #[.int .u8 ((n : Int) % 256), .int .u8 ((n : Int) / 256 % 256), .int .u8 ((n : Int) / 65536 % 256), .int .u8 ((n : Int) / 16777216 % 256)] := by simp [le4, bv]
theorem le4_one (n : Nat) : ∀ u ∈ (le4 n).map bv, u.oneCell' = true := by
  intro u hu
  obtain ⟨y, _, rfl⟩ := List.mem_map.1 hu
  rfl
theorem sum4 : (Tryz.prog.info? 135).map (·.size) = some 4 := by kernel_rfl
theorem zero4 (w : World) : (zeroValue 135).run Tryz.prog w = .ok (.agg [bv 0, bv 0, bv 0, bv 0].toArray) w := by kernel_rfl
set_option maxRecDepth 20000 in
set_option maxHeartbeats 2000000 in
theorem sum_any (ok : Nat → Prop) (a : Option Addr) (c : Nat) (l : List Nat) (w : World) (hb : Bytes w ok a l) (hl : l.length ≤ 1099511627776) :
    Calls Tryz.prog 64 #[.slice a l.length c] w fun e w' => e = .returned (.agg ((le4 (crc l)).map bv).toArray) ∧ Upd [] w w' := by
  have HB := Lib.hid hb
  have HL : Hid (∀ x ∈ l, x < 256) := Lib.hid (fun x hx => by
    obtain ⟨i, hi⟩ := List.mem_iff_getElem?.1 hx
    exact (hb i x hi).1)
  clear hb
  go_enter Tryz.func64, Tryz.ntmps64
  go_wp2_with (refine wpList_alloc_blk rfl 135 rfl [bv 0, bv 0, bv 0, bv 0] (zero4 _) ?_; intro wA hA uA)
  have HUA := Lib.hid uA
  have HA := Lib.hid hA
  have hAl := hA.lt
  have hAs := uA.size
  clear uA hA
  go_loopg [3, 5, 8, 16] l.length (fun g s u t v wr => ∃ (i : Nat), t = .int .i64 i ∧ l.length - i = g ∧ i ≤ l.length ∧ s = .int .u32 (feed F32 (l.take i) : Nat) ∧ Upd [] wA wr)
  case atStart => exact ⟨0, rfl, rfl, by omega, rfl, Upd.refl _ _⟩
  case round =>
    obtain ⟨i, rfl, hg, hi, rfl, hU⟩ := hrel
    have HG := Lib.hid hg
    have HU := Lib.hid hU
    clear hg hU
    have hs : feed F32 (l.take i) < 4294967296 := feed_lt _ (by decide) (fun b hb => HL.out b (List.mem_of_mem_take hb))
    by_cases hlt : i < l.length
    · have t1 : decide (i < l.length) = true := by simpa using hlt
      obtain ⟨x, hx⟩ : ∃ x, l[i]? = some x := ⟨_, List.getElem?_eq_getElem hlt⟩
      obtain ⟨hx2, d, o, rfl, hdB, hdl, hcell⟩ := HB.out i x hx
      have HX := Lib.hid hx
      have hc : wr.cell? ⟨d, o + i, none⟩ = some (.int .u8 x) := (HU.out.cell (a := ⟨d, o + i, none⟩) (Nat.lt_of_lt_of_le hdl hAs) (by simp)).trans ((HUA.out.cell (a := ⟨d, o + i, none⟩) hdl (by simp)).trans hcell)
      clear hx hcell
      have hxb := xor_bits hs hx2
      obtain ⟨s0, hs0⟩ : ∃ s0, s0 = feed F32 (l.take i) ^^^ x := ⟨_, rfl⟩
      have hs0l : s0 < 4294967296 := by rw [hs0]; exact xor_lt32 hs (by omega)
      rw [← hs0] at hxb
      have HS0 := Lib.hid hs0
      clear hs0
      go_wp2_with fail
      go_loopg [3, 16] 8 (fun g s v wr => ∃ (j : Nat), v = .int .i64 j ∧ 8 - j = g ∧ j ≤ 8 ∧ s = .int .u32 (steps j s0 : Nat) ∧ Upd [] wA wr)
      case atStart => exact ⟨0, rfl, rfl, by omega, rfl, HU.out⟩
      case round =>
        obtain ⟨j, rfl, hgj, hj, rfl, hU2⟩ := hrel
        have HGJ := Lib.hid hgj
        have HU2 := Lib.hid hU2
        clear hgj hU2
        have hsj : steps j s0 < 4294967296 := steps_lt j (by simpa using hs0l)
        have hst := step_bits hsj
        by_cases hj8 : j < 8
        · have t2 : decide ((j : Int) < 8) = true := by simp; omega
          go_wp2_with fail
          go_roundg (8 - (j + 1))
          case measure => have := HGJ.out; omega
          case rel => exact ⟨j + 1, by go_num, rfl, by omega, by rw [steps_succ'], HU2.out⟩
        · obtain rfl : j = 8 := by omega
          go_wp2_with fail
          go_roundg (l.length - (i + 1))
          case measure => have := HG.out; omega
          case rel => exact ⟨i + 1, by go_num, rfl, by omega, by rw [take_snoc HX.out, feed_snoc, ← HS0.out], HU2.out⟩
    · obtain rfl : i = l.length := by omega
      rw [List.take_length] at hs
      rw [List.take_length]
      obtain ⟨n, hn⟩ : ∃ n, n = crc l := ⟨_, rfl⟩
      have hnb : bits .xor .u32 IntKind.u32.max ((feed F32 l : Nat) : Int) = (n : Int) := by rw [hn]; exact not_bits hs
      have HN := Lib.hid hn
      clear hn
      have HT := Lib.hid (HU.out.blk HA.out (by simp))
      go_wp2_with (refine wpList_store_blk (t := 135) (vs := [bv 0, bv 0, bv 0, bv 0]) (o := ⟨none, .store 135 (.tmp 2) (.tmp 39), _, _, _, _⟩) ?_ 135 (.tmp 2) (.tmp 39) ?_ w.heap.size ((le4 n).map bv) ?_ ?_ ?_ ?_ ?_ ?_ ?_)
      all_goals first | rfl | exact HT.out | exact le4_one n | skip
      intro w3 hb3 hu3
      go_wp2_with fail
      have hl := run_loadVar_blk (P := Tryz.prog) hb3 135 _ Tryz.underlying135 rfl sum4
      refine bodyPost_ret (v := .agg ((le4 n).map bv).toArray) ?_ rfl ⟨by rw [HN.out], (HUA.out.trans HU.out (by simp)).trans hu3 (by simp)⟩
      first | (rw [results_cell1 Tryz.results64]; simp [asAddr, hl]) | (rw [results_cell_one Tryz.results64]; simp [asAddr, hl]) | simp [results, Tryz.results64, asAddr, hl]
end Go.Proofs.YthclnpigplcckaaGreat
/- Numbers in bytes, the highest first: codec's number, the reference's number and put; Same. -/
namespace Go.Crc
open Go
theorem or_i64_nat (a b : Nat) (ha : a < 2 ^ 62) (hb : b < 2 ^ 62) : bits .or .i64 (a : Int) (b : Int) = ((a ||| b : Nat) : Int) := by
  have h1 : ∀ c : Nat, c < 2 ^ 62 → (BitVec.ofInt 64 (c : Int)).toNat = c := fun c hc => by
    rw [BitVec.ofInt_natCast, BitVec.toNat_ofNat]; exact Nat.mod_eq_of_lt (by omega)
  show IntKind.i64.wrap ((BitVec.ofInt 64 (a : Int) ||| BitVec.ofInt 64 (b : Int)).toNat : Int) = _
  have h3 := Nat.or_lt_two_pow ha hb
  rw [BitVec.toNat_or, h1 a ha, h1 b hb, IntKind.wrap_i64]
  omega
theorem or256 {n x : Nat} (hx : x < 256) (hn : n < 1099511627776) : bits .or .i64 (((n : Int) * 256)) (x : Int) = ((256 * n + x : Nat) : Int) := by
  have e1 : (n : Int) * 256 = ((n * 256 : Nat) : Int) := by omega
  rw [e1, or_i64_nat _ _ (by omega) (by omega)]
  congr 1
  have := Nat.shiftLeft_add_eq_or_of_lt (b := x) (i := 8) (by simpa using hx) n
  rw [Nat.shiftLeft_eq] at this
  rw [show n * 256 = n * 2 ^ 8 by rfl, ← this]
  omega
end Go.Crc
namespace Go.Proofs.YthclnpigplcckaaGreat
open Go.RowKit Go.Lb Go.Rc Go.Crc

set_option maxRecDepth 20000 in
set_option maxHeartbeats 2000000 in
theorem number_any (ok : Nat → Prop) (a : Option Addr) (c : Nat) (l : List Nat) (w : World) (hb : Bytes w ok a l) (hl : l.length ≤ 6) :
    Calls Tryz.prog 65 #[.slice a l.length c] w fun e w' => e = .returned (.int .i64 (unb l : Nat)) ∧ w' = w := by
  have HB := Lib.hid hb
  have HL : Hid (∀ x ∈ l, x < 256) := Lib.hid (fun x hx => by
    obtain ⟨i, hi⟩ := List.mem_iff_getElem?.1 hx
    exact (hb i x hi).1)
  clear hb
  go_enter Tryz.func65, Tryz.ntmps65
  go_wp2_with fail
  go_loopg [3, 5, 8] l.length (fun g s u t wr => ∃ (i : Nat), t = .int .i64 i ∧ l.length - i = g ∧ i ≤ l.length ∧ s = .int .i64 (unb (l.take i) : Nat) ∧ wr = w)
  case atStart => exact ⟨0, rfl, rfl, by omega, rfl, rfl⟩
  case round =>
    obtain ⟨i, rfl, hg, hi, rfl, rfl⟩ := hrel
    have HG := Lib.hid hg
    clear hg
    by_cases hlt : i < l.length
    · have t1 : decide (i < l.length) = true := by simpa using hlt
      obtain ⟨x, hx⟩ : ∃ x, l[i]? = some x := ⟨_, List.getElem?_eq_getElem hlt⟩
      obtain ⟨hx2, d, o, rfl, hdB, hdl, hcell⟩ := HB.out i x hx
      have HX := Lib.hid hx
      have hc : wr.cell? ⟨d, o + i, none⟩ = some (.int .u8 x) := hcell
      have hs : unb (l.take i) < 1099511627776 := by
        have h1 := unb_lt (l.take i) (fun b hb => HL.out b (List.mem_of_mem_take hb))
        have h2 : 256 ^ (l.take i).length ≤ 256 ^ 5 := Nat.pow_le_pow_right (by decide) (by simp; omega)
        have h3 : 256 ^ 5 = 1099511627776 := by decide
        omega
      clear hx hcell
      obtain ⟨s1, hs1⟩ : ∃ s1, s1 = unb (l.take i) := ⟨_, rfl⟩
      rw [← hs1] at hs ⊢
      have HS1 := Lib.hid hs1
      have hor := or256 hx2 hs
      clear hs1
      go_wp2_with fail
      go_roundg (l.length - (i + 1))
      case measure => have := HG.out; omega
      case rel => exact ⟨i + 1, by go_num, rfl, by omega, by rw [take_snoc HX.out, unb_snoc, ← HS1.out]; go_num, rfl⟩
    · obtain rfl : i = l.length := by omega
      rw [List.take_length]
      go_wp2_with fail
      go_ret
      exact ⟨rfl, rfl⟩

/-- The reference's Same. -/
theorem beq_neg {l m : List Nat} {i : Nat} {x y : Nat} (hx : l[i]? = some x) (hy : m[i]? = some y) (h : x ≠ y) : (l == m) = false := by
  rw [beq_eq_false_iff_ne]
  rintro rfl
  rw [hx] at hy
  exact h (Option.some.inj hy)
set_option maxRecDepth 20000 in
set_option maxHeartbeats 2000000 in
theorem same_any (ok ok2 : Nat → Prop) (a b : Option Addr) (c d : Nat) (l m : List Nat) (w : World) (hb : Bytes w ok a l) (hm : Bytes w ok2 b m) (hl : l.length ≤ 1099511627776) :
    Calls Tryz.prog 7 #[.slice a l.length c, .slice b m.length d] w fun e w' => e = .returned (.bool (l == m)) ∧ Upd [] w w' := by
  have HB := Lib.hid hb
  have HM := Lib.hid hm
  clear hb hm
  go_enter Tryz.func7, Tryz.ntmps7
  by_cases hlm : l.length = m.length
  · have t0 : ((l.length : Int) == (m.length : Int)) = true := by rw [beq_iff_eq]; omega
    go_wp2_with fail
    go_loopg [5] l.length (fun g t wr => ∃ (i : Nat), t = .int .i64 i ∧ l.length - i = g ∧ i ≤ l.length ∧ l.take i = m.take i ∧ Upd [] w wr)
    case atStart => exact ⟨0, rfl, rfl, by omega, by simp, Upd.refl _ _⟩
    case round =>
      obtain ⟨i, rfl, hg, hi, he, hU⟩ := hrel
      have HG := Lib.hid hg
      have HE := Lib.hid he
      have HU := Lib.hid hU
      have HLM := Lib.hid hlm
      clear hg he hU t0 hlm
      by_cases hlt : i < l.length
      · have t1 : decide (i < l.length) = true := by simpa using hlt
        have hlt2 : i < m.length := by have := HLM.out; omega
        obtain ⟨x, hx⟩ : ∃ x, l[i]? = some x := ⟨_, List.getElem?_eq_getElem hlt⟩
        obtain ⟨y, hy⟩ : ∃ y, m[i]? = some y := ⟨_, List.getElem?_eq_getElem hlt2⟩
        obtain ⟨hx2, d1, o1, rfl, _, hdl1, hcell1⟩ := HB.out i x hx
        obtain ⟨hy2, d2, o2, rfl, _, hdl2, hcell2⟩ := HM.out i y hy
        have HX := Lib.hid hx
        have HY := Lib.hid hy
        have k1 : wr.cell? ⟨d1, o1 + i, none⟩ = some (.int .u8 x) := (HU.out.cell (a := ⟨d1, o1 + i, none⟩) hdl1 (by simp)).trans hcell1
        have k2 : wr.cell? ⟨d2, o2 + i, none⟩ = some (.int .u8 y) := (HU.out.cell (a := ⟨d2, o2 + i, none⟩) hdl2 (by simp)).trans hcell2
        have hmm : l.length = m.length := HLM.out
        have hmi : (i : Int) < (m.length : Int) := by omega
        clear hx hy hcell1 hcell2
        by_cases hxy : x = y
        · subst hxy
          clear hmm
          go_wp2_with fail
          go_quiet (fail)
          go_wp2_with fail
          go_roundg (l.length - (i + 1))
          case measure => have := HG.out; omega
          case rel => exact ⟨i + 1, by go_num, rfl, by omega, by rw [take_snoc HX.out, take_snoc HY.out, HE.out], HU.out.drewN _⟩
        · have tx : ((x : Int) == (y : Int)) = false := by rw [beq_eq_false_iff_ne]; omega
          have HF := Lib.hid (beq_neg HX.out HY.out hxy)
          clear hmm hxy
          go_wp2_with fail
          go_quiet (fail)
          go_wp2_with fail
          go_ret
          exact ⟨by rw [HF.out]; rfl, HU.out.drewN _⟩
      · obtain rfl : i = l.length := by omega
        have HF : Hid ((l == m) = true) := Lib.hid (by
          rw [beq_iff_eq]
          have := HE.out
          rwa [List.take_length, HLM.out, List.take_length] at this)
        go_wp2_with fail
        go_ret
        exact ⟨by rw [HF.out]; rfl, HU.out⟩
  · have t0 : ((l.length : Int) == (m.length : Int)) = false := by rw [beq_eq_false_iff_ne]; omega
    have HF : Hid ((l == m) = false) := Lib.hid (by
      rw [beq_eq_false_iff_ne]
      rintro rfl
      exact hlm rfl)
    clear hlm
    go_wp2_with fail
    go_ret
    exact ⟨by rw [HF.out]; rfl, Upd.refl _ _⟩
end Go.Proofs.YthclnpigplcckaaGreat
/- The reference's put: a number's bytes behind a row. bytes.Clone. -/
namespace Go.Proofs.YthclnpigplcckaaGreat
open Go.RowKit Go.Lb Go.Rc Go.Crc
/-- Bytes in a row of one's own that lies at B or behind. -/
abbrev Row (B : Nat) (w : World) (v : Value) (o : List Nat) : Prop := w.ownsRow B 5 1 v o.length (o.map bv)
theorem Row.nil (B : Nat) (w : World) : Row B w (.slice none 0 0) [] := ⟨rfl, .inl ⟨rfl, rfl⟩⟩
theorem Row.grow {B : Nat} {w w' : World} {v : Value} {o : List Nat} (h : Row B w v o) (g : w.grownBy w' v.ownBlock) : Kp B [] w w' :=
  ⟨g.os, g.tape, g.output, g.size, fun k hk hx => g.block k hk (fun e => by
    have := own_lo h e.symm
    simp at hx; omega)⟩
theorem Row.mk {B : Nat} {w : World} {v : Value} {o news : List Nat} (h : w.ownsRow B 5 1 v (o.length + news.length) (o.map bv ++ news.map bv)) : Row B w v (o ++ news) := by
  rw [Row, List.length_append, List.map_append]; exact h
theorem Row.bytes {B : Nat} {w : World} {a : Option Addr} {c n : Nat} {o : List Nat} (h : Row B w (.slice a n c) o) (ho : ∀ x ∈ o, x < 256) (hn : n = o.length) : Bytes w (B ≤ ·) a o := by
  subst hn
  obtain ⟨a', c', e, hb⟩ := bytes_own (n := 0) (ok := fun k => B ≤ k) h ho (fun b hb _ => hb)
  cases e
  exact hb
theorem Row.bytesN {B : Nat} {w : World} {a : Option Addr} {c n : Nat} {o : List Nat} (h : Row B w (.slice a n c) o) (ho : ∀ x ∈ o, x < 256) (hn : n = o.length) : Bytes w (Nw B w) a o := by
  subst hn
  obtain ⟨a', c', e, hb⟩ := bytes_own (n := 0) (ok := Nw B w) h ho (fun b hb hs => ⟨hb, hs⟩)
  cases e
  exact hb
theorem Row.shape {B : Nat} {w : World} {v : Value} {o : List Nat} (h : Row B w v o) : ∃ a c, v = .slice a o.length c := own_shape h
theorem Row.cap {B : Nat} {w : World} {a : Option Addr} {n c : Nat} {o : List Nat} (h : Row B w (.slice a n c) o) : n ≤ c ∧ c ≤ maxLen := by
  rcases own_is h with ⟨e, h0⟩ | ⟨g, c', e, _, _, h1, h2⟩
  · cases e; exact ⟨by omega, by decide⟩
  · cases e; exact ⟨by omega, h2⟩

theorem eql_nil {P : Program} (w : World) {t e : TypeId} (a : Option Addr) (n c : Nat) (ht : P.underlying t = some (.slice e)) :
    (binOp .eql t (.slice a n c) (.slice none 0 0)).run P w = .ok (.bool a.isNone) w := by
  cases a with
  | none =>
    have h : ∀ d : Nat, (Op.equalIn (d + 1) t (.slice none n c) (.slice none 0 0)).run P w = .ok true w := fun d => by
      simp [Op.equalIn, run_underlying ht]
    simp only [binOp]
    simp [Op.equal, Op.maxDepth, h 9999]
  | some a =>
    have h : ∀ d : Nat, (Op.equalIn (d + 1) t (.slice (some a) n c) (.slice none 0 0)).run P w = .ok false w := fun d => by
      simp [Op.equalIn, run_underlying ht]
    simp only [binOp]
    simp [Op.equal, Op.maxDepth, h 9999]
set_option maxRecDepth 20000 in
set_option maxHeartbeats 2000000 in
theorem clone_any (ok : Nat → Prop) (a : Option Addr) (c : Nat) (l : List Nat) (w : World) (hb : Bytes w ok a l) (hl : l.length ≤ 1099511627776) :
    Calls Tryz.prog 66 #[.slice a l.length c] w fun e w' => ∃ v', e = .returned v' ∧ Row w.heap.size w' v' l ∧ Upd [] w w' := by
  obtain ⟨i5, hi5, hz0, hz1, hz2⟩ := infoU8
  have HB := Lib.hid hb
  clear hb
  go_enter Tryz.func66, Tryz.ntmps66
  cases a with
  | none =>
    have hl0 : l = [] := by
      cases l with
      | nil => rfl
      | cons x l => obtain ⟨_, b, o, e, _⟩ := HB.out 0 x rfl; cases e
    subst hl0
    have e0 := eql_nil (P := Tryz.prog) w none 0 c Tryz.underlying22
    simp only [Option.isNone_none] at e0
    go_wp2_with fail
    go_ret
    exact ⟨_, rfl, Row.nil _ _, Upd.refl _ _⟩
  | some ad =>
    have hrow : Row w.heap.size (w.alloc (.cells #[] 5)) (.slice (some ⟨w.heap.size, 0, none⟩) 0 0) [] := ⟨rfl, .inr ⟨w.heap.size, 0, #[], rfl, Nat.le_refl _, heap_alloc_new _ _, by decide, by decide, rfl, rfl⟩⟩
    have u0 : Upd [] w (w.alloc (.cells #[] 5)) := (Upd.refl _ _).alloc _
    obtain ⟨v', w3, hrun, hown, hg, hv⟩ := append_bytes (P := Tryz.prog) (ty := 22) (c := c) (n := 0) (xs := []) Tryz.underlying22 hi5 hz0 hz1 hz2 rfl hrow (HB.out.upd u0 (by simp)) (by show 0 + l.length ≤ 100000000000000; omega) u0.size
    have HR : Hid (Row w.heap.size w3 v' l) := Lib.hid (by simpa using Row.mk (o := []) (news := l) hown)
    have HU : Hid (Upd [] w w3) := Lib.hid (u0.grown hg (fun k hk => by simp [Value.ownBlock] at hk; right; omega))
    have HRUN := Lib.hid hrun
    clear hrow u0 hrun hown hg hv
    have e0 := eql_nil (P := Tryz.prog) w (some ad) l.length c Tryz.underlying22
    simp only [Option.isNone_some] at e0
    go_wp2_with (first | (refine wpList_run (o := ⟨some 5, .buildSlice 22 0 #[], _, _, _, _⟩) rfl (exec_buildSlice (by rfl) (by rfl) (show _ = Result.ok (.slice (some ⟨w.heap.size, 0, none⟩) 0 0) (w.alloc (.cells #[] 5)) by kernel_rfl)) ?_) | (at_builtin; refine wpList_run rfl (exec_append (by rfl) (by rfl) (by rfl) HRUN.out) ?_))
    go_ret
    exact ⟨_, rfl, HR.out, HU.out⟩
end Go.Proofs.YthclnpigplcckaaGreat
/- The reference's Sum. -/
namespace Go.Crc
open Go
theorem step_odd {s : Nat} (h : s < 4294967296) (h1 : (s : Int) % 2 = 1) : bits .xor .u32 ((s : Int) / 2) 2197175160 = ((step s : Nat) : Int) := by
  have e1 : (2197175160 : Int) = ((2197175160 : Nat) : Int) := rfl
  have e4 : (s : Int) / 2 = ((s / 2 : Nat) : Int) := by omega
  have e5 : s % 2 = 1 := by omega
  rw [e1, e4, u32_xor_nat _ _ (by omega) (by decide)]
  unfold step poly
  rw [e5, Nat.one_mul]
theorem step_even {s : Nat} (h1 : (s : Int) % 2 = 0) : (s : Int) / 2 = ((step s : Nat) : Int) := by
  have e5 : s % 2 = 0 := by omega
  unfold step
  rw [e5, Nat.zero_mul, Nat.xor_zero]
  omega
end Go.Crc
namespace Go.Proofs.YthclnpigplcckaaGreat
open Go.RowKit Go.Lb Go.Rc Go.Crc

end Go.Proofs.YthclnpigplcckaaGreat
/- A frame is made: codec's Frame and the reference's. -/
namespace Go.Proofs.YthclnpigplcckaaGreat
open Go.RowKit Go.Lb Go.Rc Go.Crc
/-- May it be framed? -/
def MayFrame (kind place : Int) (body : List Nat) : Prop := 0 ≤ kind ∧ kind ≤ 255 ∧ 0 ≤ place ∧ place ≤ 1099511627776 ∧ body.length ≤ 1048576
instance (kind place : Int) (body : List Nat) : Decidable (MayFrame kind place body) := by unfold MayFrame; exact inferInstance
def FrameIs (kind place : Int) (body : List Nat) (w : World) (e : Ending) (w' : World) : Prop := Upd [] w w' ∧
  ((MayFrame kind place body ∧ ∃ v, e = .returned (.tuple #[v, .int .i64 0]) ∧ Row w.heap.size w' v (frame kind.toNat place.toNat body)) ∨
   (¬ MayFrame kind place body ∧ e = .returned (.tuple #[.slice none 0 0, .int .i64 1])))
theorem may_not {kind place : Int} {body : List Nat} (h : ¬ MayFrame kind place body) : kind < 0 ∨ (¬ kind < 0 ∧ 255 < kind) ∨ (¬ kind < 0 ∧ ¬ 255 < kind ∧ place < 0) ∨ (¬ kind < 0 ∧ ¬ 255 < kind ∧ ¬ place < 0 ∧ 1099511627776 < place) ∨ (¬ kind < 0 ∧ ¬ 255 < kind ∧ ¬ place < 0 ∧ ¬ 1099511627776 < place ∧ (1048576 : Int) < (body.length : Int)) := by
  unfold MayFrame at h
  omega

set_option maxRecDepth 20000 in
set_option maxHeartbeats 2000000 in
theorem frame_no (kind place : Int) (a : Option Addr) (c : Nat) (body : List Nat) (w : World) (h : ¬ MayFrame kind place body) :
    Calls Tryz.prog 27 #[.int .i64 kind, .int .i64 place, .slice a body.length c] w (FrameIs kind place body w) := by
  have HF : Hid (FrameIs kind place body w (.returned (.tuple #[.slice none 0 0, .int .i64 1])) w) := Lib.hid ⟨Upd.refl _ _, .inr ⟨h, rfl⟩⟩
  rcases may_not h with h1 | ⟨h1, h2⟩ | ⟨h1, h2, h3⟩ | ⟨h1, h2, h3, h4⟩ | ⟨h1, h2, h3, h4, h5⟩
  all_goals
    clear h
    try rw [← decide_eq_true_eq (p := kind < 0)] at h1
    try rw [← decide_eq_true_eq (p := 255 < kind)] at h2
    try rw [← decide_eq_true_eq (p := place < 0)] at h3
    try rw [← decide_eq_true_eq (p := 1099511627776 < place)] at h4
    try rw [← decide_eq_true_eq (p := (1048576 : Int) < (body.length : Int))] at h5
    try rw [Bool.not_eq_true] at h1
    try rw [Bool.not_eq_true] at h2
    try rw [Bool.not_eq_true] at h3
    try rw [Bool.not_eq_true] at h4
    go_enter Tryz.func27, Tryz.ntmps27
    go_wp2_with fail
    go_ret2
    exact HF.out

set_option maxRecDepth 20000 in
set_option maxHeartbeats 4000000 in
theorem frame_yes (ok : Nat → Prop) (kind place : Nat) (a0 : Option Addr) (c0 : Nat) (body : List Nat) (w : World) (hb : Bytes w ok a0 body) (h : MayFrame kind place body) :
    Calls Tryz.prog 27 #[.int .i64 kind, .int .i64 place, .slice a0 body.length c0] w (FrameIs kind place body w) := by
  obtain ⟨i5, hi5, hz0, hz1, hz2⟩ := infoU8
  have HM := Lib.hid h
  have HB := Lib.hid hb
  obtain ⟨g1, g2, g3, g4, g5⟩ := h
  clear hb
  have HBY : Hid (∀ x ∈ body, x < 256) := Lib.hid (fun x hx => by
    obtain ⟨i, hi⟩ := List.mem_iff_getElem?.1 hx
    exact (HB.out i x hi).1)
  have d1 : decide ((kind : Int) < 0) = false := by rw [decide_eq_false_iff_not]; omega
  have d2 : decide ((255 : Int) < (kind : Int)) = false := by rw [decide_eq_false_iff_not]; omega
  have d3 : decide ((place : Int) < 0) = false := by rw [decide_eq_false_iff_not]; omega
  have d4 : decide ((1099511627776 : Int) < (place : Int)) = false := by rw [decide_eq_false_iff_not]; omega
  have d5 : decide ((1048576 : Int) < (body.length : Int)) = false := by rw [decide_eq_false_iff_not]; omega
  obtain ⟨w1, hmk, hrow, hgr⟩ := run_make_own (P := Tryz.prog) w w.heap.size 22 5 i5 (.int .u8 0) 1 Tryz.underlying22 hi5 hz0 hz1 .i64 .i64 (11 + body.length + 4) (by rw [hz2]; omega) (by unfold maxLen; omega) (Nat.le_refl _)
  have e1 : (Instr.makeSlice 22 (.int .i64 0) (.int .i64 (11 + (body.length : Int) + 4))).run Tryz.prog w = .ok (.slice (some ⟨w.heap.size, 0, none⟩) 0 (11 + body.length + 4)) w1 := hmk
  have R1 : Hid (Row w.heap.size w1 (.slice (some ⟨w.heap.size, 0, none⟩) 0 (11 + body.length + 4)) []) := Lib.hid hrow
  have K1 : Hid (Kp w.heap.size [] w w1) := Lib.hid (Kp.of_nil ((Upd.refl _ _).grown hgr (by simp)))
  have s1 := K1.out.size
  clear hmk hrow hgr
  obtain ⟨y3, hy3⟩ : ∃ y, y = body.length / 256 ^ 3 % 256 := ⟨_, rfl⟩
  obtain ⟨y2, hy2⟩ : ∃ y, y = body.length / 256 ^ 2 % 256 := ⟨_, rfl⟩
  obtain ⟨y1, hy1⟩ : ∃ y, y = body.length / 256 ^ 1 % 256 := ⟨_, rfl⟩
  obtain ⟨y0, hy0⟩ : ∃ y, y = body.length / 256 ^ 0 % 256 := ⟨_, rfl⟩
  have q3 : (body.length : Int) / 16777216 = (y3 : Int) := by omega
  have q2 : (body.length : Int) / 65536 = (y2 : Int) := by omega
  have q1 : (body.length : Int) / 256 % 256 = (y1 : Int) := by omega
  have q0 : (body.length : Int) % 256 = (y0 : Int) := by omega
  have qk : (kind : Int) % 256 = (kind : Int) := by omega
  have HBE : Hid ([y3, y2, y1, y0] = be 4 body.length) := Lib.hid (by rw [hy3, hy2, hy1, hy0]; rfl)
  clear hy3 hy2 hy1 hy0
  go_enter Tryz.func27, Tryz.ntmps27
  go_wp2_with (at_builtin; refine wpList_append_mine rfl (.tmp 37) (.tmp 51) 22 rfl w.heap.size 5 i5 (.int .u8 0) 1 1 Tryz.underlying22 hi5 hz0 hz1 hz2 rfl (by decide) (.slice (some ⟨w.heap.size, 0, none⟩) 0 (11 + body.length + 4)) 0 [] rfl (World.ownsRow.alloc R1.out _) ⟨w1.heap.size, 0, none⟩ 5 5 ([y3, y2, y1, y0, kind].map bv) rfl rfl (Blk.news (Blk.new _ 5 ([y3, y2, y1, y0, kind].map bv))) (by simp [bv, Value.oneCell']) (by unfold maxLen; omega) (by omega) (by simp; omega) ?_; intro v2 w2 ho hg hgb; have R2 : Hid (Row w.heap.size w2 v2 [y3, y2, y1, y0, kind]) := Lib.hid (by simpa using Row.mk (o := []) (news := [y3, y2, y1, y0, kind]) ho); have K2 : Hid (Kp w.heap.size [] w w2) := Lib.hid ((K1.out.trans (Kp.of_nil ((Upd.refl _ _).alloc _))).trans (Row.grow (World.ownsRow.alloc R1.out _) hg)); clear ho hg hgb)
  clear q3 q2 q1 q0 qk e1
  go_loopg [9, 10] 6 (fun g s t wr => ∃ (i : Nat) (o' : List Nat), t = .int .i64 (8 * (i : Int) - 8) ∧ i = g ∧ i ≤ 6 ∧ o' ++ be i place = [y3, y2, y1, y0, kind] ++ be 6 place ∧ Row w.heap.size wr s o' ∧ Kp w.heap.size [] w wr)
  case atStart => exact ⟨6, _, rfl, rfl, by omega, rfl, R2.out, K2.out⟩
  case round =>
    obtain ⟨i, o', rfl, hg, hi, he, hR, hK⟩ := hrel
    have HG := Lib.hid hg
    have HE := Lib.hid he
    have HR := Lib.hid hR
    have HK := Lib.hid hK
    have hlen : o'.length ≤ 100 := by
      have := congrArg List.length he
      simp only [List.length_append, be_len] at this
      simp at this
      omega
    obtain ⟨a, c, rfl⟩ := hR.shape
    clear hg he hR hK
    have hsz := HK.out.size
    cases i with
    | succ m =>
      rw [show 8 * ((m + 1 : Nat) : Int) - 8 = 8 * (m : Int) by omega]
      obtain ⟨x, hx⟩ : ∃ x, x = place / 256 ^ m % 256 := ⟨_, rfl⟩
      have hx2 : x < 256 := by omega
      have hsh : (place : Int) / 2 ^ (8 * m) % 256 = (x : Int) := by
        rw [hx, show (2 : Int) ^ (8 * m) = ((256 ^ m : Nat) : Int) by rw [show (256 : Nat) = 2 ^ 8 by rfl, ← Nat.pow_mul]; simp]
        omega
      have HX := Lib.hid hx
      clear hx
      go_wp2_with (at_builtin; refine wpList_append_mine rfl (.tmp 57) (.tmp 62) 22 rfl w.heap.size 5 i5 (.int .u8 0) 1 1 Tryz.underlying22 hi5 hz0 hz1 hz2 rfl (by decide) (.slice a o'.length c) o'.length (o'.map bv) rfl (World.ownsRow.alloc HR.out _) ⟨wr.heap.size, 0, none⟩ 1 1 [bv x] rfl rfl (Blk.news (Blk.new _ 5 [bv x])) (by simp [bv, Value.oneCell']) (by unfold maxLen; omega) (by omega) (by simp; omega) ?_; intro v' w11 ho hg hgb; have HR1 : Hid (Row w.heap.size w11 v' (o' ++ [x])) := Lib.hid (Row.mk (news := [x]) ho); have HK1 : Hid (Kp w.heap.size [] w w11) := Lib.hid ((HK.out.trans (Kp.of_nil ((Upd.refl _ _).alloc _))).trans (Row.grow (World.ownsRow.alloc HR.out _) hg)); clear ho hg hgb)
      go_roundg m
      case measure => have := HG.out; omega
      case rel => exact ⟨m, o' ++ [x], by go_num, rfl, by omega, by have := HE.out; rw [← this, HX.out, be]; simp, HR1.out, HK1.out⟩
    | zero =>
      rw [show 8 * ((0 : Nat) : Int) - 8 = -8 by rfl]
      have ho' : o' = [y3, y2, y1, y0, kind] ++ be 6 place := by have := HE.out; simpa [be] using this
      have HO := Lib.hid ho'
      clear ho'
      obtain ⟨v4, w4, hrun, hown, hg, hv⟩ := append_bytes (P := Tryz.prog) (ty := 22) (c := c0) Tryz.underlying22 hi5 hz0 hz1 hz2 rfl HR.out (HB.out.upd (Kp.upd HK.out) (by simp)) (by omega) hsz
      have R4 : Hid (Row w.heap.size w4 v4 (o' ++ body)) := Lib.hid (Row.mk hown)
      have K4 : Hid (Kp w.heap.size [] w w4) := Lib.hid (HK.out.trans (Row.grow HR.out hg))
      have HRUN := Lib.hid hrun
      obtain ⟨a4, c4, rfl⟩ := R4.out.shape
      clear hrun hown hg hv
      have HFRM : Hid (o' ++ body = frm kind place body) := Lib.hid (by
        rw [HO.out]
        unfold frm
        rw [← HBE.out]
        simp)
      rw [HFRM.out] at R4 HRUN
      obtain ⟨fr, hfr⟩ : ∃ fr, fr = frm kind place body := ⟨_, rfl⟩
      rw [← hfr] at R4 HRUN
      have HFR := Lib.hid hfr
      have HFL : Hid (fr.length = 11 + body.length) := Lib.hid (by rw [hfr]; exact frm_len _ _ _)
      clear hfr
      have HFB : Hid (∀ x ∈ fr, x < 256) := Lib.hid (by rw [HFR.out]; exact frm_byte ⟨by omega, by omega, by omega, HBY.out⟩)
      have s4 := K4.out.size
      go_wp2_with (at_builtin; refine wpList_run rfl (exec_append (by rfl) (by rfl) (by rfl) HRUN.out) ?_)
      refine (sum_any _ a4 c4 fr _ (R4.out.bytes HFB.out rfl) (by have := HFL.out; omega)).mono ?_
      rintro e w5 ⟨rfl, u5⟩
      obtain ⟨n, hn⟩ : ∃ n, n = crc fr := ⟨_, rfl⟩
      have hn2 : n < 4294967296 := by rw [hn]; exact crc_lt HFB.out
      rw [← hn]
      have HN := Lib.hid hn
      have U5 := Lib.hid u5
      have s5 := u5.size
      clear hn u5
      have R5 : Hid (Row w.heap.size w5 (.slice a4 fr.length c4) fr) := Lib.hid (U5.out.row R4.out (by simp))
      have K5 : Hid (Kp w.heap.size [] w w5) := Lib.hid (K4.out.trans (Kp.of_nil U5.out))
      go_wp2_with (first | (refine wpList_alloc_blk rfl 135 rfl [bv 0, bv 0, bv 0, bv 0] (zero4 _) ?_; intro w6 h6 u6) | (refine wpList_store_blk (o := ⟨none, .store 135 (.tmp 11) (.tmp 68), _, _, _, _⟩) rfl 135 (.tmp 11) (.tmp 68) rfl w5.heap.size ((le4 n).map bv) rfl rfl h6 sum4 rfl (le4_one n) ?_; intro w7 h7 u7; have R7 : Hid (Row w.heap.size w7 (.slice a4 fr.length c4) fr) := Lib.hid (u7.row (u6.row R5.out (by simp)) (fun k hk => by have := own_lo R5.out hk; rw [List.mem_singleton]; omega)); have K7 : Hid (Kp w.heap.size [] w w7) := Lib.hid ((K5.out.trans (Kp.of_nil u6)).trans (Kp.of_upd u7 (by simp; omega))); have s7 := K7.out.size; have h7' := Lib.hid h7; clear h6 u6 h7 u7) | (at_builtin; refine wpList_append_mine rfl (.tmp 69) (.tmp 70) 22 rfl w.heap.size 5 i5 (.int .u8 0) 1 1 Tryz.underlying22 hi5 hz0 hz1 hz2 rfl (by decide) (.slice a4 fr.length c4) fr.length (fr.map bv) rfl R7.out ⟨w5.heap.size, 0, none⟩ 4 4 ((le4 n).map bv) rfl rfl h7'.out.news (le4_one n) (by have := HFL.out; unfold maxLen; omega) (by have := HFL.out; omega) s7 ?_; intro v8 w8 ho hg hgb; have R8 : Hid (Row w.heap.size w8 v8 (fr ++ le4 n)) := Lib.hid (Row.mk (news := le4 n) ho); have K8 : Hid (Kp w.heap.size [] w w8) := Lib.hid (K7.out.trans (Row.grow R7.out hg)); clear ho hg hgb))
      have HF : Hid (FrameIs kind place body w (.returned (.tuple #[v8, .int .i64 0])) w8) := Lib.hid ⟨K8.out.upd, .inl ⟨HM.out, _, rfl, by
        have e1 : frame ((kind : Int)).toNat ((place : Int)).toNat body = fr ++ le4 n := by
          rw [HN.out, HFR.out]; rfl
        rw [e1]; exact R8.out⟩⟩
      go_ret2
      exact HF.out

theorem frame_any (ok : Nat → Prop) (kind place : Int) (a : Option Addr) (c : Nat) (body : List Nat) (w : World) (hb : Bytes w ok a body) :
    Calls Tryz.prog 27 #[.int .i64 kind, .int .i64 place, .slice a body.length c] w (FrameIs kind place body w) := by
  by_cases h : MayFrame kind place body
  · obtain ⟨k, rfl⟩ := Int.eq_ofNat_of_zero_le h.1
    obtain ⟨p, rfl⟩ := Int.eq_ofNat_of_zero_le h.2.2.1
    exact frame_yes ok k p a c body w hb h
  · exact frame_no kind place a c body w h
end Go.Proofs.YthclnpigplcckaaGreat
/- Parts of bytes; bytes compared as arrays; what Unframe tells. -/
namespace Go.Rc
open Go Go.RowKit Go.Lb
def suba (a : Option Addr) (lo c : Nat) : Option Addr := if c = lo then a else a.map (·.add (lo * 1))
section
variable {P : Program} {w : World} {t e : TypeId} {i : TypeInfo} (ht : P.underlying t = some (.slice (P.elem t))) (he : P.elem t = e) (hi : P.info? e = some i) (h1 : i.size = 1)
include ht he hi h1
theorem sub_lh {a : Option Addr} {n c lo k : Nat} {x y : Int} (hx : x = (lo : Int)) (hy : y = (lo : Int) + (k : Int)) (hh : lo + k ≤ c) :
    (Instr.sliceAt t (.slice a n c) (some (.int .i64 x)) (some (.int .i64 y)) none).run P w = .ok (.slice (suba a lo c) k (c - lo)) w := by
  subst hx
  obtain rfl : y = ((lo + k : Nat) : Int) := by omega
  rw [run_sliceAt_slice _ _ _ _ _ _ ht, run_slice_lh w t a n c ht .i64 .i64 (lo : Int) ((lo + k : Nat) : Int) (by omega) (by omega) (by omega), he, sizeOf_run hi, h1]
  simp only [Result.andThen, sliced, suba, Int.toNat_natCast]
  rw [Nat.add_sub_cancel_left]
theorem sub_l {a : Option Addr} {n c lo : Nat} {x : Int} (hx : x = (lo : Int)) (hl : lo ≤ n) :
    (Instr.sliceAt t (.slice a n c) (some (.int .i64 x)) none none).run P w = .ok (.slice (suba a lo c) (n - lo) (c - lo)) w := by
  subst hx
  rw [run_sliceAt_slice _ _ _ _ _ _ ht, run_slice_l w t a n c ht .i64 (lo : Int) (by omega) (by omega), he, sizeOf_run hi, h1]
  simp [Result.andThen, sliced, suba]
theorem sub_h {a : Option Addr} {n c up : Nat} {y : Int} (hy : y = (up : Int)) (hh : up ≤ c) :
    (Instr.sliceAt t (.slice a n c) none (some (.int .i64 y)) none).run P w = .ok (.slice (suba a 0 c) up c) w := by
  subst hy
  rw [run_sliceAt_slice _ _ _ _ _ _ ht, run_slice_h w t a n c ht .i64 (up : Int) (by omega) (by omega), he, sizeOf_run hi, h1]
  simp [Result.andThen, sliced, suba]
end
section
variable {P : Program} {w : World} {o : Oper} {a : Act}
theorem exec_bin {b : BinOp} {t s : TypeId} {x y : Operand} {u v r : Value} (ho : o.op = .binOp b t x y s) (hx : a.eval x = u) (hy : a.eval y = v) (hg : (eqGuard b t x y u v).run P w = .ok () w) (hr : (binOp b t u v).run P w = .ok r w) : (execOp a.eval o).run P w = .ok (.value r) w := by
  subst hx hy
  unfold execOp
  simp only [ho, Sem.run_bind, hg, hr, Result.andThen_ok, Sem.run_pure]
theorem exec_toArray {t : TypeId} {x : Operand} {u r : Value} (ho : o.op = .sliceToArrayPointer t x) (hx : a.eval x = u) (hr : (Instr.arrayAt t u).run P w = .ok r w) : (execOp a.eval o).run P w = .ok (.value r) w := by
  subst hx
  unfold execOp
  simp only [ho, Sem.run_bind, hr, Result.andThen_ok, Sem.run_pure]
theorem results_tmp5 {fn : Func} {t u v x y : Tmp} (h : fn.results = #[.tmp t, .tmp u, .tmp v, .tmp x, .tmp y]) (tmps : Array Value) (P : Program) (w : World) :
    (results fn tmps).run P w = .ok (.tuple #[tmps.getD t undef, tmps.getD u undef, tmps.getD v undef, tmps.getD x undef, tmps.getD y undef]) w := by
  simp [results, h]
end
theorem suba_bytes {w : World} {ok : Nat → Prop} {a : Option Addr} {c : Nat} {l : List Nat} (h : Bytes w ok a l) (lo k : Nat) (hc : l.length ≤ c) : Bytes w ok (suba a lo c) ((l.drop lo).take k) := by
  intro j x hx
  rw [List.getElem?_take] at hx
  split at hx
  · rw [List.getElem?_drop] at hx
    have hj := (List.getElem?_eq_some_iff.1 hx).1
    obtain ⟨h1, b, o, h2, h3, h4, h5⟩ := h _ x hx
    refine ⟨h1, b, o + lo, ?_, h3, h4, ?_⟩
    · rw [suba, if_neg (by omega), h2]; simp [Addr.add]
    · rw [← h5]; congr 2; omega
  · cases hx
theorem suba_from {w : World} {ok : Nat → Prop} {a : Option Addr} {c : Nat} {l : List Nat} (h : Bytes w ok a l) (lo : Nat) (hc : l.length ≤ c) : Bytes w ok (suba a lo c) (l.drop lo) := by
  have := suba_bytes h lo l.length hc
  rwa [List.take_of_length_le (by simp)] at this
theorem suba_to {w : World} {ok : Nat → Prop} {a : Option Addr} {c : Nat} {l : List Nat} (h : Bytes w ok a l) (k : Nat) (hc : l.length ≤ c) : Bytes w ok (suba a 0 c) (l.take k) := by
  have := suba_bytes h 0 k hc
  simpa using this
theorem bytes_range {w : World} {ok : Nat → Prop} {a : Option Addr} {l : List Nat} (h : Bytes w ok a l) (hn : l ≠ []) : ∃ b o, a = some ⟨b, o, none⟩ ∧ ok b ∧ b < w.heap.size ∧ w.rangeAt b o (l.map bv) := by
  obtain ⟨x, r, rfl⟩ := List.exists_cons_of_ne_nil hn
  obtain ⟨h1, b, o, rfl, h3, h4, h5⟩ := h 0 x rfl
  refine ⟨b, o, rfl, h3, h4, fun j v hj => ?_⟩
  rw [List.getElem?_map] at hj
  obtain ⟨y, hy, rfl⟩ := Option.map_eq_some_iff.1 hj
  obtain ⟨_, b', o', e, _, _, k5⟩ := h j y hy
  cases e
  exact k5
theorem bv_cell : ∀ {l : List Nat}, (∀ x ∈ l, x < 256) → l.map bv = (l.map UInt8.ofNat).map Extern.Stop.cell
  | [], _ => rfl
  | x :: l, h => by
    have hx := h x (by simp)
    have ih := bv_cell (l := l) (fun y hy => h y (by simp [hy]))
    rw [List.map_cons, List.map_cons, List.map_cons, ih]
    congr 1
    simp [bv, Extern.Stop.cell, Nat.mod_eq_of_lt hx]
theorem u8_beq : ∀ {l m : List Nat}, (∀ x ∈ l, x < 256) → (∀ x ∈ m, x < 256) → ((l.map UInt8.ofNat) == (m.map UInt8.ofNat)) = (l == m)
  | [], [], _, _ => rfl
  | [], _ :: _, _, _ => rfl
  | _ :: _, [], _, _ => rfl
  | x :: l, y :: m, h, k => by
    have hx := h x (by simp)
    have hy := k y (by simp)
    have ih := u8_beq (l := l) (m := m) (fun z hz => h z (by simp [hz])) (fun z hz => k z (by simp [hz]))
    rw [List.map_cons, List.map_cons, List.cons_beq_cons, List.cons_beq_cons, ih]
    congr 1
    rw [Bool.eq_iff_iff]
    simp only [beq_iff_eq]
    rw [← UInt8.toNat_inj]
    simp [Nat.mod_eq_of_lt hx, Nat.mod_eq_of_lt hy]
theorem neq_bytes {P : Program} (w : World) {t e : TypeId} {n : Nat} (ht : P.underlying t = some (.array n e)) (he : P.underlying e = some (.int .u8)) (hsz : ∀ w, (sizeOf e).run P w = .ok 1 w) {l m : List Nat} (hl : ∀ x ∈ l, x < 256) (hm : ∀ x ∈ m, x < 256) (h1 : l.length = n) (h2 : m.length = n) :
    (binOp .neq t (.agg (l.map bv).toArray) (.agg (m.map bv).toArray)).run P w = .ok (.bool (!(l == m))) w := by
  have := run_equalIn_bytes w 9998 t e n ht he hsz (l.map UInt8.ofNat) (m.map UInt8.ofNat) (by simpa using h1) (by simpa using h2)
  rw [← bv_cell hl, ← bv_cell hm, u8_beq hl hm] at this
  simp only [binOp]
  simp [Op.equal, Op.maxDepth, this]
end Go.Rc
namespace Go.Proofs.YthclnpigplcckaaGreat
open Go.RowKit Go.Lb Go.Rc Go.Crc
def UnIs (l : List Nat) (w : World) (e : Ending) (w' : World) : Prop := Upd [] w w' ∧ match find l with
  | .torn => e = .returned (.tuple #[.int .i64 0, .int .i64 0, .slice none 0 0, .int .i64 0, .int .i64 0])
  | .wrong => e = .returned (.tuple #[.int .i64 0, .int .i64 0, .slice none 0 0, .int .i64 0, .int .i64 10])
  | .whole k p body => ∃ v, e = .returned (.tuple #[.int .i64 (k : Int), .int .i64 (p : Int), v, .int .i64 (15 + (body.length : Int)), .int .i64 0]) ∧ Row w.heap.size w' v body
theorem UnIs.torn {l : List Nat} {w w' : World} (h : find l = .torn) (u : Upd [] w w') : UnIs l w (.returned (.tuple #[.int .i64 0, .int .i64 0, .slice none 0 0, .int .i64 0, .int .i64 0])) w' := ⟨u, by rw [h]⟩
theorem UnIs.wrong {l : List Nat} {w w' : World} (h : find l = .wrong) (u : Upd [] w w') : UnIs l w (.returned (.tuple #[.int .i64 0, .int .i64 0, .slice none 0 0, .int .i64 0, .int .i64 10])) w' := ⟨u, by rw [h]⟩
theorem UnIs.whole {l : List Nat} {w w' : World} {k p : Nat} {body : List Nat} {v : Value} (h : find l = .whole k p body) (u : Upd [] w w') (hr : Row w.heap.size w' v body) : UnIs l w (.returned (.tuple #[.int .i64 (k : Int), .int .i64 (p : Int), v, .int .i64 (15 + (body.length : Int)), .int .i64 0])) w' := ⟨u, by rw [h]; exact ⟨v, rfl, hr⟩⟩
theorem size_u8 {i : TypeInfo} (hi : Tryz.prog.info? 5 = some i) (h : i.size = 1) (w : World) : (Go.sizeOf 5).run Tryz.prog w = .ok 1 w := by rw [sizeOf_run hi, h]
end Go.Proofs.YthclnpigplcckaaGreat
/- codec's Unframe. -/
namespace Go.Proofs.YthclnpigplcckaaGreat
open Go.RowKit Go.Lb Go.Rc Go.Crc

set_option maxRecDepth 20000 in
set_option maxHeartbeats 4000000 in
theorem unframe_any (ok : Nat → Prop) (a : Option Addr) (c : Nat) (l : List Nat) (w : World) (hb : Bytes w ok a l) (hc : l.length ≤ c) (hl : l.length ≤ 1099511627776) :
    Calls Tryz.prog 28 #[.slice a l.length c] w (UnIs l w) := by
  obtain ⟨i5, hi5, hz0, hz1, hz2⟩ := infoU8
  have HB := Lib.hid hb
  have HL : Hid (∀ x ∈ l, x < 256) := Lib.hid (fun x hx => by
    obtain ⟨i, hi⟩ := List.mem_iff_getElem?.1 hx
    exact (hb i x hi).1)
  have HTT : Hid (Tryz.prog.underlying 22 = some (.slice (Tryz.prog.elem 22))) := Lib.hid <| by rw [Tryz.elem22]; exact Tryz.underlying22
  clear hb
  go_enter Tryz.func28, Tryz.ntmps28
  by_cases h11 : l.length < 11
  · have t1 : decide ((l.length : Int) < 11) = true := by simp; omega
    have HF := Lib.hid (UnIs.torn (by unfold find; rw [if_pos h11]) (Upd.refl [] w))
    go_wp2_with fail
    (try simp only [Exit.inBlock, Exit.then])
    refine bodyPost_ret (results_tmp5 rfl _ _ _) rfl ?_
    exact HF.out
  have t1 : decide ((l.length : Int) < 11) = false := by simp; omega
  have h4 : (l.take 4).length = 4 := by simp; omega
  have h6 : ((l.drop 5).take 6).length = 6 := by simp; omega
  obtain ⟨n, hn⟩ : ∃ n, n = nOf l := ⟨_, rfl⟩
  obtain ⟨p, hp⟩ : ∃ p, p = pOf l := ⟨_, rfl⟩
  have hn2 : n < 4294967296 := by
    have := unb_lt (l.take 4) (fun b hb => HL.out b (List.mem_of_mem_take hb))
    rw [h4] at this
    rw [hn]; exact this
  have hp2 : p < 281474976710656 := by
    have := unb_lt ((l.drop 5).take 6) (fun b hb => HL.out b (List.mem_of_mem_drop (List.mem_of_mem_take hb)))
    rw [h6] at this
    rw [hp]; exact this
  have C1 := fun w' (hw : Upd [] w w') => number_any ok (suba a 0 c) c (l.take 4) w' ((suba_to HB.out 4 hc).upd hw (by simp)) (by omega)
  have C2 := fun w' (hw : Upd [] w w') => number_any ok (suba a 5 c) (c - 5) ((l.drop 5).take 6) w' ((suba_bytes HB.out 5 6 hc).upd hw (by simp)) (by omega)
  rw [h4] at C1
  rw [h6] at C2
  rw [show unb (l.take 4) = n from hn.symm] at C1
  rw [show unb ((l.drop 5).take 6) = p from hp.symm] at C2
  have HC1 := Lib.hid C1
  have HC2 := Lib.hid C2
  have HN := Lib.hid hn
  have HP := Lib.hid hp
  clear C1 C2 h4 h6 hn hp
  go_wp2_with fail
  refine wp_region_lex (fun w' => Upd [] w w') 99 [(0, true), (1, true), (3, true), (4, true), (2, false), (5, false), (6, false), (7, false)] (by kernel_rfl) (by kernel_rfl) (by kernel_rfl) (by kernel_rfl) (fun _ _ d _ _ h => by cases d <;> exact h) ?_
  simp only [lexOps, List.map_cons, List.map_nil, List.getD_cons_zero, List.getD_cons_succ]
  have hS0 : Upd [] w w.drew := (Upd.refl _ _).drew
  iterate 1 (refine lex_read rfl (by exact hS0) (v := ?_) (fun w' hw => ?_) ?_; rotate_left; (focus (go_simp; try with_reducible rfl)); simp only [Act.put, List.setIfInBounds_toArray, List.set_cons_zero, List.set_cons_succ])
  refine lex_read rfl (by exact hS0) (fun w' hw => exec_sliceAt (by rfl) (by rfl) (by rfl) (by rfl) (sub_h HTT.out Tryz.elem22 hi5 hz1 (up := 4) rfl (by omega))) ?_
  simp only [Act.put, List.setIfInBounds_toArray, List.set_cons_zero, List.set_cons_succ]
  iterate 1 (refine lex_read rfl (by exact hS0) (v := ?_) (fun w' hw => ?_) ?_; rotate_left; (focus (go_simp; try with_reducible rfl)); simp only [Act.put, List.setIfInBounds_toArray, List.set_cons_zero, List.set_cons_succ])
  refine lex_read rfl (by exact hS0) (fun w' hw => exec_sliceAt (by rfl) (by rfl) (by rfl) (by rfl) (sub_lh HTT.out Tryz.elem22 hi5 hz1 (lo := 5) (k := 6) rfl rfl (by omega))) ?_
  simp only [Act.put, List.setIfInBounds_toArray, List.set_cons_zero, List.set_cons_succ]
  refine lex_do rfl (fun K hK => ?_)
  go_simp
  refine (HC1.out _ hS0).mono ?_
  rintro e w1 ⟨rfl, rfl⟩
  refine hK _ _ (fun _ => hS0) ?_
  clear hK K
  try simp only [Act.put, List.setIfInBounds_toArray, List.set_cons_zero, List.set_cons_succ]
  refine lex_do rfl (fun K hK => ?_)
  go_simp
  refine (HC2.out _ hS0).mono ?_
  rintro e w1 ⟨rfl, rfl⟩
  refine hK _ _ (fun _ => hS0) ?_
  clear hK K
  try simp only [Act.put, List.setIfInBounds_toArray, List.set_cons_zero, List.set_cons_succ]
  iterate 2 (refine lex_do rfl (fun K hK => ?_); go_simp; refine hK _ _ (fun _ => hS0) ?_; clear hK K; try simp only [Act.put, List.setIfInBounds_toArray, List.set_cons_zero, List.set_cons_succ])
  refine lex_nil ?_
  clear hS0
  have HNP : Hid (nOf l = n ∧ pOf l = p) := Lib.hid ⟨HN.out.symm, HP.out.symm⟩
  by_cases hnb : 1048576 < n
  · have t2 : decide ((1048576 : Int) < (n : Int)) = true := by simp; omega
    have HF := Lib.hid (UnIs.wrong (l := l) (by unfold find; rw [if_neg h11, HNP.out.1, HNP.out.2, if_pos (.inl hnb)]) (Upd.refl [] w).drew)
    go_wp2_with fail
    (try simp only [Exit.inBlock, Exit.then])
    refine bodyPost_ret (results_tmp5 rfl _ _ _) rfl ?_
    exact HF.out
  have t2 : decide ((1048576 : Int) < (n : Int)) = false := by simp; omega
  by_cases hpb : 1099511627776 < p
  · have t3 : decide ((1099511627776 : Int) < (p : Int)) = true := by simp; omega
    have HF := Lib.hid (UnIs.wrong (l := l) (by unfold find; rw [if_neg h11, HNP.out.1, HNP.out.2, if_pos (.inr hpb)]) (Upd.refl [] w).drew)
    go_wp2_with fail
    (try simp only [Exit.inBlock, Exit.then])
    refine bodyPost_ret (results_tmp5 rfl _ _ _) rfl ?_
    exact HF.out
  have t3 : decide ((1099511627776 : Int) < (p : Int)) = false := by simp; omega
  by_cases h15 : l.length < 15 + n
  · have t4 : decide ((l.length : Int) < 11 + (n : Int) + 4) = true := by simp; omega
    have HF := Lib.hid (UnIs.torn (l := l) (by unfold find; rw [if_neg h11, HNP.out.1, HNP.out.2, if_neg (by omega), if_pos h15]) (Upd.refl [] w).drew)
    go_wp2_with fail
    (try simp only [Exit.inBlock, Exit.then])
    refine bodyPost_ret (results_tmp5 rfl _ _ _) rfl ?_
    exact HF.out
  have t4 : decide ((l.length : Int) < 11 + (n : Int) + 4) = false := by simp; omega
  have hfind : ∀ b, ((l.drop (11 + n)).take 4 == le4 (crc (l.take (11 + n)))) = b → find l = if b = true then .whole (kOf l) p ((l.drop 11).take n) else .wrong := by
    intro b hb
    unfold find
    rw [if_neg h11, HNP.out.1, HNP.out.2, if_neg (by omega), if_neg h15, ← hb]
    simp only [beq_iff_eq]
  have HFIND := Lib.hid hfind
  clear hfind
  have hA4 : ((l.drop (11 + n)).take 4).length = 4 := by simp; omega
  have hB11 : (l.take (11 + n)).length = 11 + n := by simp; omega
  obtain ⟨b0, o0, hsa, _, hb0, hrg⟩ := bytes_range (suba_bytes HB.out (11 + n) 4 hc) (fun e => by rw [e] at hA4; cases hA4)
  have HSA := Lib.hid hsa
  have HRG : Hid (∀ w', Upd [] w w' → w'.rangeAt b0 o0 (((l.drop (11 + n)).take 4).map bv)) := Lib.hid fun w' u => rangeAt_keep hrg (u.block b0 hb0 (by simp))
  have C3 := fun w' (hw : Upd [] w w') => sum_any ok (suba a 0 c) c (l.take (11 + n)) w' ((suba_to HB.out (11 + n) hc).upd hw (by simp)) (by omega)
  rw [hB11] at C3
  have HC3 := Lib.hid C3
  have HA4 := Lib.hid hA4
  clear hsa hrg C3 hA4 hB11
  obtain ⟨xa, hxa⟩ : ∃ xa, xa = (l.drop (11 + n)).take 4 := ⟨_, rfl⟩
  obtain ⟨xb, hxb⟩ : ∃ xb, xb = le4 (crc (l.take (11 + n))) := ⟨_, rfl⟩
  have HXA : Hid (∀ x ∈ xa, x < 256) := Lib.hid fun x hx => HL.out x (by rw [hxa] at hx; exact List.mem_of_mem_drop (List.mem_of_mem_take hx))
  have HXB : Hid ((∀ x ∈ xb, x < 256) ∧ xb.length = 4) := Lib.hid (by rw [hxb]; exact ⟨le4_byte _, rfl⟩)
  rw [← hxa] at HRG HA4 HFIND
  rw [← hxb] at HC3 HFIND
  obtain ⟨bq, hbq⟩ : ∃ b, (xa == xb) = b := ⟨_, rfl⟩
  have HBQ := Lib.hid hbq
  clear hbq hxa hxb
  go_wp2_with fail
  refine wp_region_lex (fun w' => Upd [] w w') 99 [(0, true), (1, true), (2, true), (3, true), (4, true), (5, true), (6, true), (7, true), (8, true), (9, true), (10, false), (11, false)] (by kernel_rfl) (by kernel_rfl) (by kernel_rfl) (by kernel_rfl) (fun _ _ d _ _ h => by cases d <;> exact h) ?_
  simp only [lexOps, List.map_cons, List.map_nil, List.getD_cons_zero, List.getD_cons_succ]
  have hS1 : Upd [] w w.drew.drew := (Upd.refl _ _).drew.drew
  iterate 4 (refine lex_read rfl (by exact hS1) (v := ?_) (fun w' hw => ?_) ?_; rotate_left; (focus (go_simp; try with_reducible rfl)); simp only [Act.put, List.setIfInBounds_toArray, List.set_cons_zero, List.set_cons_succ])
  refine lex_read rfl (by exact hS1) (v := .slice (some ⟨b0, o0, none⟩) 4 (c - (11 + n))) (fun w' hw => exec_sliceAt (by rfl) (by rfl) (by rfl) (by rfl) (by rw [← HSA.out]; exact sub_lh HTT.out Tryz.elem22 hi5 hz1 (lo := 11 + n) (k := 4) (by omega) (by rw [wrapIn (by omega) (by omega)]; omega) (by omega))) ?_
  simp only [Act.put, List.setIfInBounds_toArray, List.set_cons_zero, List.set_cons_succ]
  refine lex_read rfl (by exact hS1) (v := .pointer (some ⟨b0, o0, none⟩)) (fun w' hw => exec_toArray (by rfl) (by rfl) (run_arrayAt w' _ _ 4 _ 4 _ Tryz.underlying135 (by omega))) ?_
  simp only [Act.put, List.setIfInBounds_toArray, List.set_cons_zero, List.set_cons_succ]
  refine lex_read rfl (by exact hS1) (fun w' hw => exec_load (by rfl) (by rfl) (run_loadAt_mid w' b0 o0 135 (xa.map bv) _ (HRG.out w' hw) Tryz.underlying135 rfl (by rw [List.length_map, HA4.out]; exact sum4))) ?_
  simp only [Act.put, List.setIfInBounds_toArray, List.set_cons_zero, List.set_cons_succ]
  iterate 2 (refine lex_read rfl (by exact hS1) (v := ?_) (fun w' hw => ?_) ?_; rotate_left; (focus (go_simp; try with_reducible rfl)); simp only [Act.put, List.setIfInBounds_toArray, List.set_cons_zero, List.set_cons_succ])
  refine lex_read rfl (by exact hS1) (fun w' hw => exec_sliceAt (by rfl) (by rfl) (by rfl) (by rfl) (sub_h HTT.out Tryz.elem22 hi5 hz1 (up := 11 + n) (by omega) (by omega))) ?_
  simp only [Act.put, List.setIfInBounds_toArray, List.set_cons_zero, List.set_cons_succ]
  refine lex_do rfl (fun K hK => ?_)
  go_simp
  refine (HC3.out _ hS1).mono ?_
  rintro e w3 ⟨rfl, u3⟩
  have hS3 : Upd [] w w3 := hS1.trans u3 (by simp)
  refine hK _ _ (fun _ => hS3) ?_
  clear hK K
  try simp only [Act.put, List.setIfInBounds_toArray, List.set_cons_zero, List.set_cons_succ]
  refine lex_run rfl (exec_bin (by rfl) (by rfl) (by rfl) (run_eqGuard_agg _ _ _ _ _ _ _ (by kernel_rfl)) (neq_bytes w3 Tryz.underlying135 Tryz.underlying5 (size_u8 hi5 hz1) HXA.out HXB.out.1 HA4.out HXB.out.2)) (fun _ => hS3) ?_
  rw [HBQ.out]
  try simp only [Act.put, List.setIfInBounds_toArray, List.set_cons_zero, List.set_cons_succ]
  refine lex_nil ?_
  have HU3 := Lib.hid hS3
  have hs3 := hS3.size
  clear hS1 u3 hS3
  cases bq with
  | false =>
    have HF := Lib.hid (UnIs.wrong (by rw [HFIND.out _ HBQ.out]; rfl) HU3.out)
    go_wp2_with fail
    (try simp only [Exit.inBlock, Exit.then])
    refine bodyPost_ret (results_tmp5 rfl _ _ _) rfl ?_
    exact HF.out
  | true =>
    obtain ⟨x4, hx4⟩ : ∃ x, l[4]? = some x := ⟨_, List.getElem?_eq_getElem (by omega)⟩
    obtain ⟨hx2, d, o, rfl, hdB, hdl, hcell⟩ := HB.out 4 x4 hx4
    have hk : kOf l = x4 := by unfold kOf; rw [List.getD_eq_getElem?_getD, hx4]; rfl
    have hC11 : ((l.drop 11).take n).length = n := by simp; omega
    have HR : Hid (∀ w', Upd [] w w' → w'.cell? ⟨d, o + 4, none⟩ = some (.int .u8 x4)) := Lib.hid fun w' u => (u.cell (a := ⟨d, o + 4, none⟩) hdl (by simp)).trans hcell
    have C4 := fun w' (hw : Upd [] w w') => clone_any ok (suba (some ⟨d, o, none⟩) 11 c) (c - 11) ((l.drop 11).take n) w' ((suba_bytes HB.out 11 n hc).upd hw (by simp)) (by omega)
    rw [hC11] at C4
    have HC4 := Lib.hid C4
    have HF : Hid (∀ w' v, Upd [] w w' → Row w.heap.size w' v ((l.drop 11).take n) → UnIs l w (.returned (.tuple #[.int .i64 (x4 : Int), .int .i64 (p : Int), v, .int .i64 (11 + (n : Int) + 4), .int .i64 0])) w') := Lib.hid fun w' v u r => by
      have := UnIs.whole (k := x4) (p := p) (body := (l.drop 11).take n) (by rw [HFIND.out _ HBQ.out, ← hk]; rfl) u r
      rw [hC11] at this
      rwa [show (15 : Int) + (n : Int) = 11 + (n : Int) + 4 by omega] at this
    clear hx4 hcell C4 hk hC11
    have g4 : (4 : Int) < (l.length : Int) := by omega
    go_wp2_with fail
    refine wp_region_lex (fun w' => Upd [] w w') 99 [(0, true), (1, true), (2, true), (3, true), (4, true), (5, true), (6, true), (7, true), (9, true), (10, true), (8, false), (11, false), (12, false), (13, false), (14, false), (15, false)] (by kernel_rfl) (by kernel_rfl) (by kernel_rfl) (by kernel_rfl) (fun _ _ d _ _ h => by cases d <;> exact h) ?_
    simp only [lexOps, List.map_cons, List.map_nil, List.getD_cons_zero, List.getD_cons_succ]
    have hS4 : Upd [] w w3.drew := HU3.out.drew
    iterate 7 (refine lex_read rfl (by exact hS4) (v := ?_) (fun w' hw => ?_) ?_; rotate_left; (focus (have q1 := HR.out w' hw; go_simp; try with_reducible rfl)); simp only [Act.put, List.setIfInBounds_toArray, List.set_cons_zero, List.set_cons_succ])
    refine lex_read rfl (by exact hS4) (fun w' hw => exec_sliceAt (by rfl) (by rfl) (by rfl) (by rfl) (sub_lh HTT.out Tryz.elem22 hi5 hz1 (lo := 11) (k := n) rfl (by omega) (by omega))) ?_
    simp only [Act.put, List.setIfInBounds_toArray, List.set_cons_zero, List.set_cons_succ]
    iterate 2 (refine lex_read rfl (by exact hS4) (v := ?_) (fun w' hw => ?_) ?_; rotate_left; (focus (go_simp; try with_reducible rfl)); simp only [Act.put, List.setIfInBounds_toArray, List.set_cons_zero, List.set_cons_succ])
    refine lex_do rfl (fun K hK => ?_)
    go_simp
    refine (HC4.out _ hS4).mono ?_
    rintro e w5 ⟨v5, rfl, r5, u5⟩
    have hS5 : Upd [] w w5 := hS4.trans u5 (by simp)
    have HF5 := Lib.hid (HF.out w5 v5 hS5 (own_rebase r5 (fun k hk => by have := own_lo r5 hk; have := hS4.size; omega)))
    refine hK _ _ (fun _ => hS5) ?_
    clear hK K
    try simp only [Act.put, List.setIfInBounds_toArray, List.set_cons_zero, List.set_cons_succ]
    iterate 5 (refine lex_do rfl (fun K hK => ?_); go_simp; refine hK _ _ (fun _ => hS5) ?_; clear hK K; try simp only [Act.put, List.setIfInBounds_toArray, List.set_cons_zero, List.set_cons_succ])
    refine lex_nil ?_
    clear hS5 r5 u5
    rw [wrapIn (x := (x4 : Int)) (by omega) (by omega), wrapIn (x := 11 + (n : Int) + 4) (by omega) (by omega)]
    go_wp2_with fail
    (try simp only [Exit.inBlock, Exit.then])
    refine bodyPost_ret (results_tmp5 rfl _ _ _) rfl ?_
    exact HF5.out
end Go.Proofs.YthclnpigplcckaaGreat
/- The reference's Unframe. -/
namespace Go.Proofs.YthclnpigplcckaaGreat
open Go.RowKit Go.Lb Go.Rc Go.Crc

end Go.Proofs.YthclnpigplcckaaGreat
/- What writing and reading whole records say, said in one way for those that may be written and those that may not; law01's both. -/
namespace Go.Rc
theorem sum_len : ∀ (l : List Val) (f : Val → List Nat) (g : Val → Nat), (∀ x ∈ l, (f x).length ≤ g x) → (l.flatMap f).length ≤ (l.map g).sum
  | [], f, g, _ => by simp
  | x :: l, f, g, h => by
    have h1 := sum_len l f g (fun y hy => h y (by simp [hy]))
    have h2 := h x (by simp)
    rw [List.flatMap_cons, List.length_append, List.map_cons, List.sum_cons]; omega
theorem Sch.put_len : ∀ (s : Sch) (v : Val), s.good v → (s.put v).length ≤ s.wmax v
  | .nil, v, _ => by cases v <;> simp [Sch.put]
  | .num, v, h => by
    cases v with
    | num n => exact nput_len h
    | _ => exact absurd h (by simp [Sch.good])
  | .flag, v, h => by
    cases v with
    | flag b => exact nput_len (by unfold maxN; split <;> omega)
    | _ => exact absurd h (by simp [Sch.good])
  | .raw, v, h => by
    cases v with
    | raw l =>
      have h1 : l.length ≤ 65536 := h.1
      have := nput_len (n := (l.length : Int)) (by unfold maxN; omega)
      simp only [Sch.put, Sch.wmax, List.length_append]; omega
    | _ => exact absurd h (by simp [Sch.good])
  | .list s, v, h => by
    cases v with
    | list l =>
      have h1 : l.length ≤ 64 := h.1
      have := nput_len (n := (l.length : Int)) (by unfold maxN; omega)
      have h3 := sum_len l s.put s.wmax (fun x hx => Sch.put_len s x (h.2 x hx))
      simp only [Sch.put, Sch.wmax, List.length_append]; omega
    | _ => exact absurd h (by simp [Sch.good])
  | .pair a b, v, h => by
    cases v with
    | pair x y =>
      have h1 := Sch.put_len a x h.1
      have h2 := Sch.put_len b y h.2
      simp only [Sch.put, Sch.wmax, List.length_append]; omega
    | _ => exact absurd h (by simp [Sch.good])
end Go.Rc
namespace Go.Proofs.YthclnpigplcckaaGreat
open Go.RowKit Go.Lb Go.Rc
/-- The bytes of a record: none, if it may not be written. -/
def bytesOf (g : Bool) (s : Sch) (v : Val) : List Nat := bif g then s.put v else []
/-- The error: OK, or ErrArg. -/
def errOf (g : Bool) : Int := bif g then 0 else 1
theorem good_dec (s : Sch) (v : Val) : ∃ g : Bool, g = true ↔ s.good v := by
  by_cases h : s.good v
  · exact ⟨true, by simp [h]⟩
  · exact ⟨false, by simp [h]⟩
theorem bytesOf_len {g : Bool} {s : Sch} {v : Val} {n : Nat} (hg : g = true ↔ s.good v) (hl : s.wmax v ≤ n) : (bytesOf g s v).length ≤ n := by
  cases g with
  | true => exact Nat.le_trans (Sch.put_len s v (hg.1 rfl)) hl
  | false => exact Nat.zero_le _
theorem own_bytes {w : World} {B n : Nat} {a : Option Addr} {c : Nat} {o : List Nat} (h : w.ownsRow B 5 1 (.slice a n c) o.length (o.map bv)) (ho : ∀ x ∈ o, x < 256) (hn : n = o.length) : Bytes w (B ≤ ·) a o ∧ n ≤ c ∧ c ≤ maxLen :=
  ⟨Row.bytes (show Row B w (.slice a n c) o from h) ho hn, Row.cap (show Row B w (.slice a n c) o from h)⟩
section
variable {K : Nat} {s : Sch} {cs : List Value} {v : Val} {w : World} {g : Bool} {p l : List Nat} {a : Option Addr} {c : Nat}
theorem puts_u (C : Puts K s) (hr : s.Rep w (· < w.heap.size) cs v) (hl : s.wmax v ≤ 1099511627776) (hg : g = true ↔ s.good v) (hp : p = bytesOf g s v) :
    Calls Tryz.prog K #[.agg cs.toArray] w fun e w' => ∃ a c, e = .returned (.tuple #[.slice a p.length c, .int .i64 (errOf g)]) ∧ Upd [] w w' ∧ Bytes w' (w.heap.size ≤ ·) a p ∧ p.length ≤ c ∧ c ≤ maxLen := by
  refine (C cs v w hr hl).mono ?_
  rintro e w' ⟨u, ⟨h1, a, c, rfl, h2⟩ | ⟨h1, rfl⟩⟩
  · obtain rfl : g = true := hg.2 h1
    obtain rfl : p = s.put v := hp
    obtain ⟨h3, h4, h5⟩ := own_bytes h2 (Sch.put_byte s v h1) rfl
    exact ⟨a, c, rfl, u, h3, h4, h5⟩
  · obtain rfl : g = false := by cases g with | false => rfl | true => exact absurd (hg.1 rfl) h1
    obtain rfl : p = [] := hp
    exact ⟨none, 0, rfl, u, Bytes.nil _ _ _, by simp, by simp [maxLen]⟩
theorem gets_u (C : Gets K s) (hb : Bytes w (· < w.heap.size) a l) (hc : l.length ≤ c ∧ c ≤ maxLen) (hg : g = true → s.get l = some (v, [])) (hn : g = false → ∀ v', s.get l ≠ some (v', [])) :
    Calls Tryz.prog K #[.slice a l.length c] w fun e w' => ∃ cs v', e = .returned (.tuple #[.agg cs.toArray, .bool g]) ∧ Upd [] w w' ∧ s.Rep w' (Nw w.heap.size w') cs v' ∧ (g = true → v' = v) ∧ s.good v' := by
  refine (C a c l w hb hc).mono ?_
  rintro e w' ⟨u, cs, v', r, rfl, h1, h2, h3⟩
  have hlt : ∀ b ∈ l, b < 256 := fun x hx => by
    obtain ⟨i, hi⟩ := List.mem_iff_getElem?.1 hx
    exact (hb i x hi).1
  obtain rfl : r = g := by
    cases r with
    | true => cases g with
      | true => rfl
      | false => exact absurd (h2 rfl) (hn rfl v')
    | false => cases g with
      | true => exact absurd (hg rfl) ((h3 rfl).1 v)
      | false => rfl
  refine ⟨cs, v', rfl, u, h1, fun e => ?_, ?_⟩
  · have := (hg e).symm.trans (h2 e)
    simp only [Option.some.injEq, Prod.mk.injEq] at this
    exact this.1.symm
  · cases r with
    | true => exact (Sch.get_one s l v' [] (h2 rfl) hlt).2
    | false => rw [(h3 rfl).2]; exact Sch.good_zero s
theorem get_bytesOf (hg : g = true ↔ s.good v) : g = true → s.get (bytesOf g s v) = some (v, []) := fun e => by
  subst e
  have := Sch.get_put s v [] (hg.1 rfl)
  rwa [List.append_nil] at this
theorem get_none (h0 : s.get [] = none) : g = false → ∀ v', s.get (bytesOf g s v) ≠ some (v', []) := fun e v' => by
  subst e
  show s.get [] ≠ _
  rw [h0]; simp
end
theorem bytes_all {w w' : World} {ok : Nat → Prop} {a : Option Addr} {l : List Nat} (h : Bytes w ok a l) (u : Upd [] w w') : Bytes w' (· < w'.heap.size) a l :=
  h.keep (fun k hk hl => ⟨Nat.lt_of_lt_of_le hl u.size, u.block k hl (by simp)⟩) u.size
theorem rep_all {w w' : World} {ok : Nat → Prop} {s : Sch} {cs : List Value} {v : Val} (h : s.Rep w ok cs v) (u : Upd [] w w') : s.Rep w' (· < w'.heap.size) cs v :=
  h.keep (fun k hk hl => ⟨Nat.lt_of_lt_of_le hl u.size, u.block k hl (by simp)⟩) u.size

end Go.Proofs.YthclnpigplcckaaGreat
/- codec's form.res, writing. -/
namespace Go.Proofs.YthclnpigplcckaaGreat
open Go.RowKit Go.Lb Go.Rc

set_option maxRecDepth 20000 in
set_option maxHeartbeats 2000000 in
theorem res_writes : Writes 93 sRes := by
  intro B X f p q tp pre cs post v o b w h hX hq hp hr hl
  have k0 : (tup [.num, .num]).Rep w (· < B) cs v := hr
  obtain ⟨_, _, v0, y0, _, rfl, ⟨n0, _, rfl⟩, k1⟩ := Sch.Rep.tup_cons k0
  obtain ⟨_, _, v1, y1, _, rfl, ⟨n1, _, rfl⟩, k2⟩ := Sch.Rep.tup_cons k1
  obtain ⟨_, rfl⟩ := Sch.Rep.tup_nil k2
  subst hq
  have H0 := Lib.hid (WrSt.start (rest := ([(.num, .num n0), (.num, .num n1)] : List (Sch × Val))) h hX hp hr (by have := tup_wmax ([(.num, .num n0), (.num, .num n1)] : List (Sch × Val)); rw [← this]; exact hl))
  clear h hX hp hr hl k0 k1 k2
  go_enter Tryz.func93, Tryz.ntmps93
  refine wp_region_lex (fun _ => True) 99 [(0, true), (1, true), (2, true), (3, true), (4, true), (5, true), (6, true), (7, false), (8, false)] (by kernel_rfl) (by kernel_rfl) (by kernel_rfl) (by kernel_rfl) (fun _ _ d _ _ h => by cases d <;> exact h) ?_
  simp only [lexOps, List.map_cons, List.map_nil, List.getD_cons_zero, List.getD_cons_succ]
  iterate 7 (refine lex_read rfl trivial (v := ?_) (fun w' _ => ?_) ?_; rotate_left; (focus (go_simp; try with_reducible rfl)); simp only [Act.put, List.setIfInBounds_toArray, List.set_cons_zero, List.set_cons_succ])
  refine lex_do rfl (fun K hK => ?_)
  go_simp
  refine hK _ _ (fun _ => trivial) ?_
  clear hK K
  refine lex_do rfl (fun K hK => ?_)
  go_simp
  refine (CWr.goNums (ns := [n0, n1]) (rest := []) (k := 2) H0.out rfl ((Upd.refl _ _).alloc _).drew (Nat.le_refl _) (Blk.drew (Blk.new _ _ [_, _])) rfl).mono ?_
  rintro e w1 ⟨rfl, o1, b1, h⟩
  have H1 := Lib.hid h
  refine hK _ _ (fun _ => trivial) ?_
  clear hK K h
  refine lex_nil ?_
  go_wp2_with fail
  go_end0
  exact CWr.fin H1.out rfl rfl
end Go.Proofs.YthclnpigplcckaaGreat
/- codec's form.group, writing. -/
namespace Go.Proofs.YthclnpigplcckaaGreat
open Go.RowKit Go.Lb Go.Rc

set_option maxRecDepth 20000 in
set_option maxHeartbeats 2000000 in
theorem group_writes : Writes 92 sGroup := by
  intro B X f p q tp pre cs post v o b w h hX hq hp hr hl
  have k0 : (tup [.num, sRes]).Rep w (· < B) cs v := hr
  obtain ⟨_, _, v0, y0, _, rfl, ⟨n0, _, rfl⟩, k1⟩ := Sch.Rep.tup_cons k0
  obtain ⟨_, _, v1, y1, _, rfl, _, k2⟩ := Sch.Rep.tup_cons k1
  obtain ⟨_, rfl⟩ := Sch.Rep.tup_nil k2
  subst hq
  have H0 := Lib.hid (WrSt.start (rest := ([(.num, .num n0), (sRes, v1)] : List (Sch × Val))) h hX hp hr (by have := tup_wmax ([(.num, .num n0), (sRes, v1)] : List (Sch × Val)); rw [← this]; exact hl))
  clear h hX hp hr hl k0 k1 k2
  go_enter Tryz.func92, Tryz.ntmps92
  go_wp2_with fail
  refine (CWr.go num_writes H0.out rfl).mono ?_
  rintro e w1 ⟨rfl, o1, b1, h⟩
  have H1 := Lib.hid h
  clear h
  go_wp2_with fail
  refine (CWr.go res_writes H1.out rfl).mono ?_
  rintro e w2 ⟨rfl, o2, b2, h⟩
  have H2 := Lib.hid h
  clear h
  go_wp2_with fail
  go_end0
  exact CWr.fin H2.out rfl rfl
end Go.Proofs.YthclnpigplcckaaGreat
/- codec's list[Group], writing. -/
namespace Go.Proofs.YthclnpigplcckaaGreat
open Go.RowKit Go.Lb Go.Rc

set_option maxRecDepth 20000 in
set_option maxHeartbeats 2000000 in
theorem listGroup_writes : LWrites 91 92 sGroup := by
  intro B X f p q tp pre cs post v o b w h hX hq hp hr hl
  obtain ⟨a, c, l, rfl, rfl, hall⟩ := hr
  have HA : Hid (Elems w (· < B) sGroup 3 a l) := Lib.hid hall
  subst hq
  have H := Lib.hid h
  have HL := Lib.hid hl
  have HX := Lib.hid hX
  have HP := Lib.hid hp
  have hl1 : o.length + 6 ≤ 1099511627776 := by simp only [Sch.wmax] at hl; omega
  have c0 := hp.cell (o := pre.length) mid_at
  have hB := h.base
  clear h hX hall hl hp
  go_enter Tryz.func91, Tryz.ntmps91
  go_wp2_with fail
  refine (many_w B X f l.length 64 o b _ H.out hl1 (by decide)).mono ?_
  rintro e w1 ⟨r, o1, b1, rfl, h1, h2, h3⟩
  obtain ⟨m2, m3, m4, m5⟩ := fw_mark h1
  have p0 := (h2.blk HP.out (.inr HX.out)).cell (o := pre.length) mid_at
  have H1 := Lib.hid h1
  have H2 := Lib.hid h2
  have H3 : Hid (LWk sGroup l.length [] o b o1 b1) := Lib.hid (LWk.start h3)
  clear h1 h2 h3
  go_wp2_with fail
  go_loopg [7, 8, 25] l.length (fun g u v t wr => ∃ (i : Nat) (o' : List Nat) (b' : Bool), t = .int .i64 i ∧ l.length - i = g ∧ i ≤ l.length ∧ Fw B X wr f o' b' ∧ Kp B X w wr ∧ LWk sGroup l.length (l.take i) o b o' b')
  case atStart => exact ⟨0, o1, b1, rfl, rfl, by omega, H1.out, H2.out, H3.out⟩
  case round =>
    obtain ⟨i, o', b', rfl, hg, hi, hF, hK, hW⟩ := hrel
    have HG := Lib.hid hg
    have HF := Lib.hid hF
    have HK := Lib.hid hK
    have HW := Lib.hid hW
    obtain ⟨n2, n3, n4, n5⟩ := fw_mark hF
    have r0 := (hK.blk HP.out (.inr HX.out)).cell (o := pre.length) mid_at
    clear hg hF hK hW m2 m3 m4 m5 p0
    by_cases hlt : i < l.length
    · have t1 : decide (i < l.length) = true := by simpa using hlt
      cases b' with
      | true =>
        have HE := Lib.hid HW.out.early
        go_wp2_with fail
        go_end0
        exact ⟨rfl, o', true, HF.out, HK.out, HE.out⟩
      | false =>
      obtain ⟨x, hx⟩ : ∃ x, l[i]? = some x := ⟨_, List.getElem?_eq_getElem hlt⟩
      obtain ⟨b0, o0, us, rfl, hb0, hbl, hrg, hrep⟩ := HA.out i x hx
      have hrep := hrep.keep (ok' := (· < B)) (fun k hk hl => ⟨hk, HK.out.block k hl (.inl hk)⟩) HK.out.size
      have hrg : wr.rangeAt b0 (o0 + i * 3) us := rangeAt_keep hrg (HK.out.block b0 hbl (.inl hb0))
      have hwl := HW.out.room hx HL.out
      have HWL := Lib.hid hwl
      have h64 : l.length ≤ 64 := (HW.out.bad.1 rfl).2.1
      have Hx := Lib.hid hx
      have hus : us.length = 3 := hrep.len
      have HONE : Hid (∀ u ∈ us, u.oneCell' = true) := Lib.hid hrep.one
      clear hx hwl
      have HREP := Lib.hid hrep
      have HRG := Lib.hid hrg
      clear hrep hrg
      go_wp2_with (first | (refine wpList_load_mid rfl 187 (.tmp 36) rfl b0 (o0 + i * 3) rfl us _ HRG.out Tryz.underlying187 rfl (by rw [hus]; exact Tryz.size187) ?_) | (refine wpList_alloc_blk rfl 187 rfl sGroup.zc (zero187 _) ?_; intro wA hbA huA) | (refine wpList_store_blk (o := ⟨none, .store 187 (.tmp 8) (.tmp 37), _, _, _, _⟩) rfl 187 (.tmp 8) (.tmp 37) rfl wr.heap.size us rfl rfl hbA (by rw [hus]; exact Tryz.size187) (by rw [hus]; rfl) HONE.out ?_; intro wB hb huB))
      have hu : Upd [] wr wB := huA.trans huB (by simp)
      clear huA hbA huB
      refine (group_writes B (wr.heap.size :: X) f wr.heap.size 0 187 [] us [] x o' false wB (HF.out.new hu (Nat.le_refl _) hb.lt) (by simp) rfl (by simpa using hb) (HREP.out.upd hu (by simp)) HWL.out).mono ?_
      rintro e w2 ⟨rfl, o2, b2, h1, h2, h3⟩
      have H1 := Lib.hid h1.less
      have H2 := Lib.hid ((Kp.of_nil hu).trans h2.drop)
      have H3 := Lib.hid (HW.out.snoc h3)
      clear h1 h2 h3
      go_wp2_with fail
      go_roundg (l.length - (i + 1))
      case measure => have := HG.out; omega
      case rel => exact ⟨i + 1, o2, b2, by go_num, rfl, by omega, H1.out, HK.out.trans H2.out, by rw [take_snoc Hx.out]; exact H3.out⟩
    · obtain rfl : i = l.length := by omega
      go_wp2_with fail
      go_end0
      refine ⟨rfl, o', b', HF.out, HK.out, LWk.fin ?_⟩
      have := HW.out
      rwa [List.take_length] at this
end Go.Proofs.YthclnpigplcckaaGreat
/- codec's form.flag and form.code, writing and reading. -/
namespace Go.Proofs.YthclnpigplcckaaGreat
open Go.RowKit Go.Lb Go.Rc

set_option maxRecDepth 20000 in
set_option maxHeartbeats 1000000 in
theorem flag_writes : Writes 68 .flag := by
  intro B X f p q tp pre cs post v o b w h hX hq hp hr hl
  obtain ⟨t, rfl, rfl⟩ := hr
  subst hq
  simp only [Sch.wmax] at hl
  obtain ⟨n, hn⟩ : ∃ n : Int, n = if t then 1 else 0 := ⟨_, rfl⟩
  have hN := h.new ((Upd.refl [] w).alloc (.cells #[.int .i64 n] 3)) (x := w.heap.size) (Nat.le_refl _) (by simp)
  have HN := Lib.hid hN
  have HPb := Lib.hid (hp.alloc (.cells #[.int .i64 n] 3))
  have Hfresh := Lib.hid h.fresh
  have k0 := hp.cell (o := pre.length) mid_at
  have hB := h.base
  have hplt := hp.lt
  have HX := Lib.hid hX
  clear h hN hp hX
  cases t
  all_goals
    simp only [if_true, Bool.false_eq_true, if_false] at hn
    subst hn
    go_enter Tryz.func68, Tryz.ntmps68
    go_wp2_with fail
    refine (num_w B (w.heap.size :: X) f _ _ _ o b _ HN.out ((Blk.new w 3 [.int .i64 _]).cell rfl) hl).mono ?_
    rintro e w1 ⟨rfl, o', b', h1, h2, h3⟩
    have hbn := h2.blk (Blk.new w 3 [.int .i64 _]) (.inr (by simp))
    have c0 := hbn.cell (o := 0) rfl
    have hbp := h2.blk HPb.out (.inr (by simp [HX.out]))
    have p0 := hbp.cell (o := pre.length) mid_at
    have pz := hbp.frozen pre.length
    have plt := hbp.lt
    obtain ⟨m2, m3, _, m5⟩ := fw_mark h1
    have HM := Lib.hid (out_mark (i := 2) (fun _ _ _ => rfl) h1.less b')
    have hK : Kp B X w w1 := (Kp.of_nil ((Upd.refl [] w).alloc _)).trans h2.drop
    have HK := Lib.hid hK
    have H3 := Lib.hid h3
    have hpf : p ≠ f := by
      rintro rfl
      obtain ⟨hX1, v1, hh, hs⟩ := h1
      exact (hs p (by simp)).2.1 (by simp [HX.out])
    have hpf' : f ≠ p := Ne.symm hpf
    have HS := Lib.hid (setCell_same (hbp.other (a := ⟨f, 2, none⟩) hpf (.bool b')) (o := pre.length) mid_at)
    first
      | have HF := Lib.hid (show WrPost .flag B X f (.flag true) o b w (.returned (.tuple #[])) (w1.setCell ⟨f, 2, none⟩ (.bool b')) from ⟨rfl, o', b', HM.out.1, HK.out.trans HM.out.2, ⟨by rw [H3.out.bad]; simp [Sch.good, maxN], H3.out.out, H3.out.len⟩⟩)
      | have HF := Lib.hid (show WrPost .flag B X f (.flag false) o b w (.returned (.tuple #[])) (w1.setCell ⟨f, 2, none⟩ (.bool b')) from ⟨rfl, o', b', HM.out.1, HK.out.trans HM.out.2, ⟨by rw [H3.out.bad]; simp [Sch.good, maxN], H3.out.out, H3.out.len⟩⟩)
    clear h1 h2 h3 hbn hK hbp
    cases b'
    all_goals
      go_wp2_with fail
      go_end0
      first | (rw [HS.out]; exact HF.out) | exact HF.out

/-- The get of a flag, by the number's. -/
theorem flag_get {l : List Nat} : Sch.flag.get l = match nget l with
    | none => none
    | some (n, r) => if n = 0 then some (.flag false, r) else if n = 1 then some (.flag true, r) else none := rfl
theorem flag_rd {l l' : List Nat} {b b' : Bool} {n : Int} (h : ROk nget l b n l' b') : Sch.flag.Rd l b (.flag (n == 1)) l' (b' || decide (n < 0) || decide (1 < n)) := by
  constructor
  · intro e
    simp only [Bool.or_eq_false_iff, decide_eq_false_iff_not] at e
    obtain ⟨⟨e1, e2⟩, e3⟩ := e
    obtain ⟨g1, g2⟩ := h.good e1
    refine ⟨g1, ?_⟩
    rw [flag_get, g2]
    have : n = 0 ∨ n = 1 := by omega
    rcases this with rfl | rfl <;> simp
  · intro e
    cases b' with
    | true => exact (h.bad rfl).imp id fun k => by rw [flag_get, k]
    | false =>
      right
      obtain ⟨g1, g2⟩ := h.good rfl
      simp only [Bool.or_eq_true, decide_eq_true_eq, Bool.false_eq_true, false_or] at e
      rw [flag_get, g2]
      dsimp only
      rw [if_neg (by omega), if_neg (by omega)]

set_option maxRecDepth 20000 in
set_option maxHeartbeats 1000000 in
theorem flag_reads : Reads 68 .flag := by
  intro B f p q tp pre post l b w h hB hpf hq hp
  subst hq
  obtain ⟨_, _, _, hf, hBf⟩ := fr_mark h
  have HN := Lib.hid (h.upd ((Upd.refl [] w).alloc (.cells #[.int .i64 0] 3)) (by simp))
  have HPb := Lib.hid (hp.alloc (.cells #[.int .i64 0] 3))
  have k0 := hp.cell (o := pre.length) mid_at
  have hplt := hp.lt
  clear h hp
  go_enter Tryz.func68, Tryz.ntmps68
  go_wp2_with fail
  refine (num_r' B f w.heap.size 0 3 (.int .i64 0) [] [] l b _ HN.out (by omega) (by omega) rfl (Blk.new w _ _)).mono ?_
  rintro e w1 ⟨rfl, n, l', b', h1, h2, h3, h4⟩
  have c0 := h3.cell (o := 0) rfl
  have hbp := h2.blk HPb.out (by simp; omega)
  have p0 := hbp.cell (o := pre.length) mid_at
  have pz := hbp.frozen pre.length
  have plt := hbp.lt
  obtain ⟨m2, m3, _, m5, _⟩ := fr_mark h1
  have hpf' : f ≠ p := Ne.symm hpf
  have HF : Hid (∀ r : Bool, r = (b' || decide (n < 0) || decide (1 < n)) → RdPost .flag B f p tp pre post l b w (.returned (.tuple #[])) ((w1.setCell ⟨f, 2, none⟩ (.bool r)).setCell ⟨p, pre.length, none⟩ (.bool (n == 1)))) := by
    refine Lib.hid fun r hr => ?_
    obtain ⟨g1, g2⟩ := fr_set h1 r
    have uS : Upd [p] (w1.setCell ⟨f, 2, none⟩ (.bool r)) ((w1.setCell ⟨f, 2, none⟩ (.bool r)).setCell ⟨p, pre.length, none⟩ (.bool (n == 1))) := (Upd.refl _ _).setCell (by simp) _
    refine ⟨rfl, .flag (n == 1), [.bool (n == 1)], l', r, g1.upd uS (fun k hk => ?_), ?_, ?_, Sch.Rep.flag_mk _, by rw [hr]; exact flag_rd h4⟩
    · simp at hk; subst hk; exact ⟨hpf, hB⟩
    · have hu : Upd [f, p] w w1 := ((Upd.refl [f, p] w).alloc _).trans h2 (by intro x hx; simp at hx; rcases hx with rfl | rfl; simp; right; exact Nat.le_refl _)
      exact (hu.trans g2 (by simp)).trans uS (by simp)
    · have := (g2.blk hbp (by simpa using hpf)).set pre.length (.bool (n == 1))
      simpa [Sch.zc] using this
  clear h1 h2 h3 h4 hbp
  cases b' with
  | true =>
    have HG := Lib.hid (HF.out true (by simp))
    clear HF
    go_wp2_with fail
    go_end0
    exact HG.out
  | false =>
    by_cases hn : n < 0
    · have t1 : decide (n < 0) = true := by simpa using hn
      have HG := Lib.hid (HF.out true (by simp [t1]))
      clear HF hn
      go_wp2_with fail
      go_end0
      exact HG.out
    · have t1 : decide (n < 0) = false := by simpa using hn
      by_cases hn2 : 1 < n
      · have t2 : decide (1 < n) = true := by simpa using hn2
        have HG := Lib.hid (HF.out true (by simp [t2]))
        clear HF hn hn2
        go_wp2_with fail
        go_end0
        exact HG.out
      · have t2 : decide (1 < n) = false := by simpa using hn2
        have HG := Lib.hid (HF.out false (by simp [t1, t2]))
        clear HF hn hn2
        go_wp2_with fail
        go_end0
        exact HG.out
end Go.Proofs.YthclnpigplcckaaGreat
/- codec's form.job, writing. -/
namespace Go.Proofs.YthclnpigplcckaaGreat
open Go.RowKit Go.Lb Go.Rc

set_option maxRecDepth 20000 in
set_option maxHeartbeats 2000000 in
theorem job_writes : Writes 50 sJob := by
  intro B X f p q tp pre cs post v o b w h hX hq hp hr hl
  have k0 : (tup [.num, .num, .num, .num, .list sGroup, .num, .flag]).Rep w (· < B) cs v := hr
  obtain ⟨_, _, v0, y0, _, rfl, ⟨n0, _, rfl⟩, k1⟩ := Sch.Rep.tup_cons k0
  obtain ⟨_, _, v1, y1, _, rfl, ⟨n1, _, rfl⟩, k2⟩ := Sch.Rep.tup_cons k1
  obtain ⟨_, _, v2, y2, _, rfl, ⟨n2, _, rfl⟩, k3⟩ := Sch.Rep.tup_cons k2
  obtain ⟨_, _, v3, y3, _, rfl, ⟨n3, _, rfl⟩, k4⟩ := Sch.Rep.tup_cons k3
  obtain ⟨_, _, v4, y4, _, rfl, _, k5⟩ := Sch.Rep.tup_cons k4
  obtain ⟨_, _, v5, y5, _, rfl, ⟨n5, _, rfl⟩, k6⟩ := Sch.Rep.tup_cons k5
  obtain ⟨_, _, v6, y6, _, rfl, _, k7⟩ := Sch.Rep.tup_cons k6
  obtain ⟨_, rfl⟩ := Sch.Rep.tup_nil k7
  subst hq
  have H0 := Lib.hid (WrSt.start (rest := ([(.num, .num n0), (.num, .num n1), (.num, .num n2), (.num, .num n3), (.list sGroup, v4), (.num, .num n5), (.flag, v6)] : List (Sch × Val))) h hX hp hr (by have := tup_wmax ([(.num, .num n0), (.num, .num n1), (.num, .num n2), (.num, .num n3), (.list sGroup, v4), (.num, .num n5), (.flag, v6)] : List (Sch × Val)); rw [← this]; exact hl))
  clear h hX hp hr hl k0 k1 k2 k3 k4 k5 k6 k7
  go_enter Tryz.func50, Tryz.ntmps50
  go_wp2_with fail
  refine wp_region_lex (fun _ => True) 99 [(0, true), (1, true), (2, true), (3, true), (4, true), (5, true), (6, true), (7, true), (8, true), (9, true), (10, true), (11, true), (12, true), (13, false), (14, false)] (by kernel_rfl) (by kernel_rfl) (by kernel_rfl) (by kernel_rfl) (fun _ _ d _ _ h => by cases d <;> exact h) ?_
  simp only [lexOps, List.map_cons, List.map_nil, List.getD_cons_zero, List.getD_cons_succ]
  iterate 13 (refine lex_read rfl trivial (v := ?_) (fun w' _ => ?_) ?_; rotate_left; (focus (go_simp; try with_reducible rfl)); simp only [Act.put, List.setIfInBounds_toArray, List.set_cons_zero, List.set_cons_succ])
  refine lex_do rfl (fun K hK => ?_)
  go_simp
  refine hK _ _ (fun _ => trivial) ?_
  clear hK K
  refine lex_do rfl (fun K hK => ?_)
  go_simp
  refine (CWr.goNums (ns := [n0, n1, n2, n3]) (rest := [(.list sGroup, v4), (.num, .num n5), (.flag, v6)]) (k := 4) H0.out rfl ((Upd.refl _ _).alloc _).drew (Nat.le_refl _) (Blk.drew (Blk.new _ _ [_, _, _, _])) rfl).mono ?_
  rintro e w1 ⟨rfl, o1, b1, h⟩
  have H1 := Lib.hid h
  refine hK _ _ (fun _ => trivial) ?_
  clear hK K h
  refine lex_nil ?_
  go_wp2_with fail
  refine (CWr.goList listGroup_writes H1.out rfl).mono ?_
  rintro e w2 ⟨rfl, o2, b2, h⟩
  have H2 := Lib.hid h
  clear h
  go_wp2_with fail
  refine (CWr.go num_writes H2.out rfl).mono ?_
  rintro e w3 ⟨rfl, o3, b3, h⟩
  have H3 := Lib.hid h
  clear h
  go_wp2_with fail
  refine (CWr.go flag_writes H3.out rfl).mono ?_
  rintro e w4 ⟨rfl, o4, b4, h⟩
  have H4 := Lib.hid h
  clear h
  go_wp2_with fail
  go_end0
  exact CWr.fin H4.out rfl rfl
end Go.Proofs.YthclnpigplcckaaGreat
/- codec's form.node, writing. -/
namespace Go.Proofs.YthclnpigplcckaaGreat
open Go.RowKit Go.Lb Go.Rc

set_option maxRecDepth 20000 in
set_option maxHeartbeats 2000000 in
theorem node_writes : Writes 51 sNode := by
  intro B X f p q tp pre cs post v o b w h hX hq hp hr hl
  have k0 : (tup [.num, sRes, .flag, .flag, .num, .num, .num]).Rep w (· < B) cs v := hr
  obtain ⟨_, _, v0, y0, _, rfl, ⟨n0, _, rfl⟩, k1⟩ := Sch.Rep.tup_cons k0
  obtain ⟨_, _, v1, y1, _, rfl, _, k2⟩ := Sch.Rep.tup_cons k1
  obtain ⟨_, _, v2, y2, _, rfl, _, k3⟩ := Sch.Rep.tup_cons k2
  obtain ⟨_, _, v3, y3, _, rfl, _, k4⟩ := Sch.Rep.tup_cons k3
  obtain ⟨_, _, v4, y4, _, rfl, ⟨n4, _, rfl⟩, k5⟩ := Sch.Rep.tup_cons k4
  obtain ⟨_, _, v5, y5, _, rfl, ⟨n5, _, rfl⟩, k6⟩ := Sch.Rep.tup_cons k5
  obtain ⟨_, _, v6, y6, _, rfl, ⟨n6, _, rfl⟩, k7⟩ := Sch.Rep.tup_cons k6
  obtain ⟨_, rfl⟩ := Sch.Rep.tup_nil k7
  subst hq
  have H0 := Lib.hid (WrSt.start (rest := ([(.num, .num n0), (sRes, v1), (.flag, v2), (.flag, v3), (.num, .num n4), (.num, .num n5), (.num, .num n6)] : List (Sch × Val))) h hX hp hr (by have := tup_wmax ([(.num, .num n0), (sRes, v1), (.flag, v2), (.flag, v3), (.num, .num n4), (.num, .num n5), (.num, .num n6)] : List (Sch × Val)); rw [← this]; exact hl))
  clear h hX hp hr hl k0 k1 k2 k3 k4 k5 k6 k7
  go_enter Tryz.func51, Tryz.ntmps51
  go_wp2_with fail
  refine (CWr.go num_writes H0.out rfl).mono ?_
  rintro e w1 ⟨rfl, o1, b1, h⟩
  have H1 := Lib.hid h
  clear h
  go_wp2_with fail
  refine (CWr.go res_writes H1.out rfl).mono ?_
  rintro e w2 ⟨rfl, o2, b2, h⟩
  have H2 := Lib.hid h
  clear h
  go_wp2_with fail
  refine (CWr.go flag_writes H2.out rfl).mono ?_
  rintro e w3 ⟨rfl, o3, b3, h⟩
  have H3 := Lib.hid h
  clear h
  go_wp2_with fail
  refine (CWr.go flag_writes H3.out rfl).mono ?_
  rintro e w4 ⟨rfl, o4, b4, h⟩
  have H4 := Lib.hid h
  clear h
  go_wp2_with fail
  refine wp_region_lex (fun _ => True) 99 [(0, true), (1, true), (2, true), (3, true), (4, true), (5, true), (6, true), (7, true), (8, true), (9, true), (10, false), (11, false)] (by kernel_rfl) (by kernel_rfl) (by kernel_rfl) (by kernel_rfl) (fun _ _ d _ _ h => by cases d <;> exact h) ?_
  simp only [lexOps, List.map_cons, List.map_nil, List.getD_cons_zero, List.getD_cons_succ]
  iterate 10 (refine lex_read rfl trivial (v := ?_) (fun w' _ => ?_) ?_; rotate_left; (focus (go_simp; try with_reducible rfl)); simp only [Act.put, List.setIfInBounds_toArray, List.set_cons_zero, List.set_cons_succ])
  refine lex_do rfl (fun K hK => ?_)
  go_simp
  refine hK _ _ (fun _ => trivial) ?_
  clear hK K
  refine lex_do rfl (fun K hK => ?_)
  go_simp
  refine (CWr.goNums (ns := [n4, n5, n6]) (rest := []) (k := 3) H4.out rfl ((Upd.refl _ _).alloc _).drew (Nat.le_refl _) (Blk.drew (Blk.new _ _ [_, _, _])) rfl).mono ?_
  rintro e w5 ⟨rfl, o5, b5, h⟩
  have H5 := Lib.hid h
  refine hK _ _ (fun _ => trivial) ?_
  clear hK K h
  refine lex_nil ?_
  go_wp2_with fail
  go_end0
  exact CWr.fin H5.out rfl rfl
end Go.Proofs.YthclnpigplcckaaGreat
/- codec's form.report, writing. -/
namespace Go.Proofs.YthclnpigplcckaaGreat
open Go.RowKit Go.Lb Go.Rc

set_option maxRecDepth 20000 in
set_option maxHeartbeats 2000000 in
theorem report_writes : Writes 53 sReport := by
  intro B X f p q tp pre cs post v o b w h hX hq hp hr hl
  have k0 : (tup [.num, .num]).Rep w (· < B) cs v := hr
  obtain ⟨_, _, v0, y0, _, rfl, ⟨n0, _, rfl⟩, k1⟩ := Sch.Rep.tup_cons k0
  obtain ⟨_, _, v1, y1, _, rfl, ⟨n1, _, rfl⟩, k2⟩ := Sch.Rep.tup_cons k1
  obtain ⟨_, rfl⟩ := Sch.Rep.tup_nil k2
  subst hq
  have H0 := Lib.hid (WrSt.start (rest := ([(.num, .num n0), (.num, .num n1)] : List (Sch × Val))) h hX hp hr (by have := tup_wmax ([(.num, .num n0), (.num, .num n1)] : List (Sch × Val)); rw [← this]; exact hl))
  clear h hX hp hr hl k0 k1 k2
  go_enter Tryz.func53, Tryz.ntmps53
  refine wp_region_lex (fun _ => True) 99 [(0, true), (1, true), (2, true), (3, true), (4, true), (5, true), (6, true), (7, false), (8, false)] (by kernel_rfl) (by kernel_rfl) (by kernel_rfl) (by kernel_rfl) (fun _ _ d _ _ h => by cases d <;> exact h) ?_
  simp only [lexOps, List.map_cons, List.map_nil, List.getD_cons_zero, List.getD_cons_succ]
  iterate 7 (refine lex_read rfl trivial (v := ?_) (fun w' _ => ?_) ?_; rotate_left; (focus (go_simp; try with_reducible rfl)); simp only [Act.put, List.setIfInBounds_toArray, List.set_cons_zero, List.set_cons_succ])
  refine lex_do rfl (fun K hK => ?_)
  go_simp
  refine hK _ _ (fun _ => trivial) ?_
  clear hK K
  refine lex_do rfl (fun K hK => ?_)
  go_simp
  refine (CWr.goNums (ns := [n0, n1]) (rest := []) (k := 2) H0.out rfl ((Upd.refl _ _).alloc _).drew (Nat.le_refl _) (Blk.drew (Blk.new _ _ [_, _])) rfl).mono ?_
  rintro e w1 ⟨rfl, o1, b1, h⟩
  have H1 := Lib.hid h
  refine hK _ _ (fun _ => trivial) ?_
  clear hK K h
  refine lex_nil ?_
  go_wp2_with fail
  go_end0
  exact CWr.fin H1.out rfl rfl
end Go.Proofs.YthclnpigplcckaaGreat
/- codec's list[Report], writing. -/
namespace Go.Proofs.YthclnpigplcckaaGreat
open Go.RowKit Go.Lb Go.Rc

set_option maxRecDepth 20000 in
set_option maxHeartbeats 2000000 in
theorem listReport_writes : LWrites 52 53 sReport := by
  intro B X f p q tp pre cs post v o b w h hX hq hp hr hl
  obtain ⟨a, c, l, rfl, rfl, hall⟩ := hr
  have HA : Hid (Elems w (· < B) sReport 2 a l) := Lib.hid hall
  subst hq
  have H := Lib.hid h
  have HL := Lib.hid hl
  have HX := Lib.hid hX
  have HP := Lib.hid hp
  have hl1 : o.length + 6 ≤ 1099511627776 := by simp only [Sch.wmax] at hl; omega
  have c0 := hp.cell (o := pre.length) mid_at
  have hB := h.base
  clear h hX hall hl hp
  go_enter Tryz.func52, Tryz.ntmps52
  go_wp2_with fail
  refine (many_w B X f l.length 64 o b _ H.out hl1 (by decide)).mono ?_
  rintro e w1 ⟨r, o1, b1, rfl, h1, h2, h3⟩
  obtain ⟨m2, m3, m4, m5⟩ := fw_mark h1
  have p0 := (h2.blk HP.out (.inr HX.out)).cell (o := pre.length) mid_at
  have H1 := Lib.hid h1
  have H2 := Lib.hid h2
  have H3 : Hid (LWk sReport l.length [] o b o1 b1) := Lib.hid (LWk.start h3)
  clear h1 h2 h3
  go_wp2_with fail
  go_loopg [7, 8, 25] l.length (fun g u v t wr => ∃ (i : Nat) (o' : List Nat) (b' : Bool), t = .int .i64 i ∧ l.length - i = g ∧ i ≤ l.length ∧ Fw B X wr f o' b' ∧ Kp B X w wr ∧ LWk sReport l.length (l.take i) o b o' b')
  case atStart => exact ⟨0, o1, b1, rfl, rfl, by omega, H1.out, H2.out, H3.out⟩
  case round =>
    obtain ⟨i, o', b', rfl, hg, hi, hF, hK, hW⟩ := hrel
    have HG := Lib.hid hg
    have HF := Lib.hid hF
    have HK := Lib.hid hK
    have HW := Lib.hid hW
    obtain ⟨n2, n3, n4, n5⟩ := fw_mark hF
    have r0 := (hK.blk HP.out (.inr HX.out)).cell (o := pre.length) mid_at
    clear hg hF hK hW m2 m3 m4 m5 p0
    by_cases hlt : i < l.length
    · have t1 : decide (i < l.length) = true := by simpa using hlt
      cases b' with
      | true =>
        have HE := Lib.hid HW.out.early
        go_wp2_with fail
        go_end0
        exact ⟨rfl, o', true, HF.out, HK.out, HE.out⟩
      | false =>
      obtain ⟨x, hx⟩ : ∃ x, l[i]? = some x := ⟨_, List.getElem?_eq_getElem hlt⟩
      obtain ⟨b0, o0, us, rfl, hb0, hbl, hrg, hrep⟩ := HA.out i x hx
      have hrep := hrep.keep (ok' := (· < B)) (fun k hk hl => ⟨hk, HK.out.block k hl (.inl hk)⟩) HK.out.size
      have hrg : wr.rangeAt b0 (o0 + i * 2) us := rangeAt_keep hrg (HK.out.block b0 hbl (.inl hb0))
      have hwl := HW.out.room hx HL.out
      have HWL := Lib.hid hwl
      have h64 : l.length ≤ 64 := (HW.out.bad.1 rfl).2.1
      have Hx := Lib.hid hx
      have hus : us.length = 2 := hrep.len
      have HONE : Hid (∀ u ∈ us, u.oneCell' = true) := Lib.hid hrep.one
      clear hx hwl
      have HREP := Lib.hid hrep
      have HRG := Lib.hid hrg
      clear hrep hrg
      go_wp2_with (first | (refine wpList_load_mid rfl 118 (.tmp 36) rfl b0 (o0 + i * 2) rfl us _ HRG.out Tryz.underlying118 rfl (by rw [hus]; exact Tryz.size118) ?_) | (refine wpList_alloc_blk rfl 118 rfl sReport.zc (zero118 _) ?_; intro wA hbA huA) | (refine wpList_store_blk (o := ⟨none, .store 118 (.tmp 8) (.tmp 37), _, _, _, _⟩) rfl 118 (.tmp 8) (.tmp 37) rfl wr.heap.size us rfl rfl hbA (by rw [hus]; exact Tryz.size118) (by rw [hus]; rfl) HONE.out ?_; intro wB hb huB))
      have hu : Upd [] wr wB := huA.trans huB (by simp)
      clear huA hbA huB
      refine (report_writes B (wr.heap.size :: X) f wr.heap.size 0 118 [] us [] x o' false wB (HF.out.new hu (Nat.le_refl _) hb.lt) (by simp) rfl (by simpa using hb) (HREP.out.upd hu (by simp)) HWL.out).mono ?_
      rintro e w2 ⟨rfl, o2, b2, h1, h2, h3⟩
      have H1 := Lib.hid h1.less
      have H2 := Lib.hid ((Kp.of_nil hu).trans h2.drop)
      have H3 := Lib.hid (HW.out.snoc h3)
      clear h1 h2 h3
      go_wp2_with fail
      go_roundg (l.length - (i + 1))
      case measure => have := HG.out; omega
      case rel => exact ⟨i + 1, o2, b2, by go_num, rfl, by omega, H1.out, HK.out.trans H2.out, by rw [take_snoc Hx.out]; exact H3.out⟩
    · obtain rfl : i = l.length := by omega
      go_wp2_with fail
      go_end0
      refine ⟨rfl, o', b', HF.out, HK.out, LWk.fin ?_⟩
      have := HW.out
      rwa [List.take_length] at this
end Go.Proofs.YthclnpigplcckaaGreat
/- codec's list[int], writing. -/
namespace Go.Proofs.YthclnpigplcckaaGreat
open Go.RowKit Go.Lb Go.Rc

set_option maxRecDepth 20000 in
set_option maxHeartbeats 2000000 in
theorem listint_writes : LWrites 95 90 .num := by
  intro B X f p q tp pre cs post v o b w h hX hq hp hr hl
  obtain ⟨a, c, l, rfl, rfl, hall⟩ := hr
  have HA : Hid (Elems w (· < B) .num 1 a l) := Lib.hid hall
  subst hq
  have H := Lib.hid h
  have HL := Lib.hid hl
  have HX := Lib.hid hX
  have HP := Lib.hid hp
  have hl1 : o.length + 6 ≤ 1099511627776 := by simp only [Sch.wmax] at hl; omega
  have c0 := hp.cell (o := pre.length) mid_at
  have hB := h.base
  clear h hX hall hl hp
  go_enter Tryz.func95, Tryz.ntmps95
  go_wp2_with fail
  refine (many_w B X f l.length 64 o b _ H.out hl1 (by decide)).mono ?_
  rintro e w1 ⟨r, o1, b1, rfl, h1, h2, h3⟩
  obtain ⟨m2, m3, m4, m5⟩ := fw_mark h1
  have p0 := (h2.blk HP.out (.inr HX.out)).cell (o := pre.length) mid_at
  have H1 := Lib.hid h1
  have H2 := Lib.hid h2
  have H3 : Hid (LWk .num l.length [] o b o1 b1) := Lib.hid (LWk.start h3)
  clear h1 h2 h3
  go_wp2_with fail
  go_loopg [7, 8, 25] l.length (fun g u v t wr => ∃ (i : Nat) (o' : List Nat) (b' : Bool), t = .int .i64 i ∧ l.length - i = g ∧ i ≤ l.length ∧ Fw B X wr f o' b' ∧ Kp B X w wr ∧ LWk .num l.length (l.take i) o b o' b')
  case atStart => exact ⟨0, o1, b1, rfl, rfl, by omega, H1.out, H2.out, H3.out⟩
  case round =>
    obtain ⟨i, o', b', rfl, hg, hi, hF, hK, hW⟩ := hrel
    have HG := Lib.hid hg
    have HF := Lib.hid hF
    have HK := Lib.hid hK
    have HW := Lib.hid hW
    obtain ⟨n2, n3, n4, n5⟩ := fw_mark hF
    have r0 := (hK.blk HP.out (.inr HX.out)).cell (o := pre.length) mid_at
    clear hg hF hK hW m2 m3 m4 m5 p0
    by_cases hlt : i < l.length
    · have t1 : decide (i < l.length) = true := by simpa using hlt
      cases b' with
      | true =>
        have HE := Lib.hid HW.out.early
        go_wp2_with fail
        go_end0
        exact ⟨rfl, o', true, HF.out, HK.out, HE.out⟩
      | false =>
      obtain ⟨x, hx⟩ : ∃ x, l[i]? = some x := ⟨_, List.getElem?_eq_getElem hlt⟩
      obtain ⟨b0, o0, us, rfl, hb0, hbl, hrg, hrep⟩ := HA.out i x hx
      have hrep := hrep.keep (ok' := (· < B)) (fun k hk hl => ⟨hk, HK.out.block k hl (.inl hk)⟩) HK.out.size
      have hrg : wr.rangeAt b0 (o0 + i * 1) us := rangeAt_keep hrg (HK.out.block b0 hbl (.inl hb0))
      have hwl := HW.out.room hx HL.out
      have HWL := Lib.hid hwl
      have h64 : l.length ≤ 64 := (HW.out.bad.1 rfl).2.1
      have Hx := Lib.hid hx
      have hus : us.length = 1 := hrep.len
      have HONE : Hid (∀ u ∈ us, u.oneCell' = true) := Lib.hid hrep.one
      clear hx hwl
      obtain ⟨nn, rfl, rfl⟩ := hrep
      have e0 := hrg 0 _ rfl
      rw [Nat.mul_one, Nat.add_zero] at e0
      have hrep : Sch.num.Rep wr (· < B) [.int .i64 nn] (.num nn) := Sch.Rep.num_mk nn
      have HREP := Lib.hid hrep
      have HRG := Lib.hid hrg
      clear hrep hrg
      go_wp2_with fail
      generalize hwB : World.alloc _ _ = wB
      have hb : Blk wB wr.heap.size 3 [.int .i64 nn] := by subst hwB; exact Blk.new _ _ _
      have hu : Upd [] wr wB := by subst hwB; exact (Upd.refl _ _).alloc _
      refine (num_writes B (wr.heap.size :: X) f wr.heap.size 0 3 [] [.int .i64 nn] [] (.num nn) o' false wB (HF.out.new hu (Nat.le_refl _) hb.lt) (by simp) rfl (by simpa using hb) (HREP.out.upd hu (by simp)) HWL.out).mono ?_
      rintro e w2 ⟨rfl, o2, b2, h1, h2, h3⟩
      have H1 := Lib.hid h1.less
      have H2 := Lib.hid ((Kp.of_nil hu).trans h2.drop)
      have H3 := Lib.hid (HW.out.snoc h3)
      clear h1 h2 h3
      go_wp2_with fail
      go_roundg (l.length - (i + 1))
      case measure => have := HG.out; omega
      case rel => exact ⟨i + 1, o2, b2, by go_num, rfl, by omega, H1.out, HK.out.trans H2.out, by rw [take_snoc Hx.out]; exact H3.out⟩
    · obtain rfl : i = l.length := by omega
      go_wp2_with fail
      go_end0
      refine ⟨rfl, o', b', HF.out, HK.out, LWk.fin ?_⟩
      have := HW.out
      rwa [List.take_length] at this
end Go.Proofs.YthclnpigplcckaaGreat
/- codec's form.alloc, writing. -/
namespace Go.Proofs.YthclnpigplcckaaGreat
open Go.RowKit Go.Lb Go.Rc

set_option maxRecDepth 20000 in
set_option maxHeartbeats 2000000 in
theorem alloc_writes : Writes 80 sAlloc := by
  intro B X f p q tp pre cs post v o b w h hX hq hp hr hl
  have k0 : (tup [.num, .num, .num, .num, .num, .num, .num, sRes, .flag, .num]).Rep w (· < B) cs v := hr
  obtain ⟨_, _, v0, y0, _, rfl, ⟨n0, _, rfl⟩, k1⟩ := Sch.Rep.tup_cons k0
  obtain ⟨_, _, v1, y1, _, rfl, ⟨n1, _, rfl⟩, k2⟩ := Sch.Rep.tup_cons k1
  obtain ⟨_, _, v2, y2, _, rfl, ⟨n2, _, rfl⟩, k3⟩ := Sch.Rep.tup_cons k2
  obtain ⟨_, _, v3, y3, _, rfl, ⟨n3, _, rfl⟩, k4⟩ := Sch.Rep.tup_cons k3
  obtain ⟨_, _, v4, y4, _, rfl, ⟨n4, _, rfl⟩, k5⟩ := Sch.Rep.tup_cons k4
  obtain ⟨_, _, v5, y5, _, rfl, ⟨n5, _, rfl⟩, k6⟩ := Sch.Rep.tup_cons k5
  obtain ⟨_, _, v6, y6, _, rfl, ⟨n6, _, rfl⟩, k7⟩ := Sch.Rep.tup_cons k6
  obtain ⟨_, _, v7, y7, _, rfl, _, k8⟩ := Sch.Rep.tup_cons k7
  obtain ⟨_, _, v8, y8, _, rfl, _, k9⟩ := Sch.Rep.tup_cons k8
  obtain ⟨_, _, v9, y9, _, rfl, ⟨n9, _, rfl⟩, k10⟩ := Sch.Rep.tup_cons k9
  obtain ⟨_, rfl⟩ := Sch.Rep.tup_nil k10
  subst hq
  have H0 := Lib.hid (WrSt.start (rest := ([(.num, .num n0), (.num, .num n1), (.num, .num n2), (.num, .num n3), (.num, .num n4), (.num, .num n5), (.num, .num n6), (sRes, v7), (.flag, v8), (.num, .num n9)] : List (Sch × Val))) h hX hp hr (by have := tup_wmax ([(.num, .num n0), (.num, .num n1), (.num, .num n2), (.num, .num n3), (.num, .num n4), (.num, .num n5), (.num, .num n6), (sRes, v7), (.flag, v8), (.num, .num n9)] : List (Sch × Val)); rw [← this]; exact hl))
  clear h hX hp hr hl k0 k1 k2 k3 k4 k5 k6 k7 k8 k9 k10
  go_enter Tryz.func80, Tryz.ntmps80
  go_wp2_with fail
  refine wp_region_lex (fun _ => True) 99 [(0, true), (1, true), (2, true), (3, true), (4, true), (5, true), (6, true), (7, true), (8, true), (9, true), (10, true), (11, true), (12, true), (13, true), (14, true), (15, true), (16, true), (17, true), (18, true), (19, true), (20, true), (21, true), (22, false), (23, false)] (by kernel_rfl) (by kernel_rfl) (by kernel_rfl) (by kernel_rfl) (fun _ _ d _ _ h => by cases d <;> exact h) ?_
  simp only [lexOps, List.map_cons, List.map_nil, List.getD_cons_zero, List.getD_cons_succ]
  iterate 22 (refine lex_read rfl trivial (v := ?_) (fun w' _ => ?_) ?_; rotate_left; (focus (go_simp; try with_reducible rfl)); simp only [Act.put, List.setIfInBounds_toArray, List.set_cons_zero, List.set_cons_succ])
  refine lex_do rfl (fun K hK => ?_)
  go_simp
  refine hK _ _ (fun _ => trivial) ?_
  clear hK K
  refine lex_do rfl (fun K hK => ?_)
  go_simp
  refine (CWr.goNums (ns := [n0, n1, n2, n3, n4, n5, n6]) (rest := [(sRes, v7), (.flag, v8), (.num, .num n9)]) (k := 7) H0.out rfl ((Upd.refl _ _).alloc _).drew (Nat.le_refl _) (Blk.drew (Blk.new _ _ [_, _, _, _, _, _, _])) rfl).mono ?_
  rintro e w1 ⟨rfl, o1, b1, h⟩
  have H1 := Lib.hid h
  refine hK _ _ (fun _ => trivial) ?_
  clear hK K h
  refine lex_nil ?_
  go_wp2_with fail
  refine (CWr.go res_writes H1.out rfl).mono ?_
  rintro e w2 ⟨rfl, o2, b2, h⟩
  have H2 := Lib.hid h
  clear h
  go_wp2_with fail
  refine (CWr.go flag_writes H2.out rfl).mono ?_
  rintro e w3 ⟨rfl, o3, b3, h⟩
  have H3 := Lib.hid h
  clear h
  go_wp2_with fail
  refine (CWr.go num_writes H3.out rfl).mono ?_
  rintro e w4 ⟨rfl, o4, b4, h⟩
  have H4 := Lib.hid h
  clear h
  go_wp2_with fail
  go_end0
  exact CWr.fin H4.out rfl rfl
end Go.Proofs.YthclnpigplcckaaGreat
