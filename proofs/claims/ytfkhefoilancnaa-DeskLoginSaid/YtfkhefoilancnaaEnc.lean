/-
  What a message's bytes say: they are the message. Plain: no program in sight.
-/
import Derived.Test.YtfkhefoilancnaaPdu5
namespace Go.Proofs.Ytfkhefoilancnaa
open Go.RowKit
theorem be4_sum (x : Nat) (h : x < 4294967296) : x / 16777216 % 256 * 16777216 + x / 65536 % 256 * 65536 + x / 256 % 256 * 256 + x % 256 = x := by omega
theorem bt_app (l r : List UInt8) (i : Nat) : bt (l ++ r) (l.length + i) = bt r i := by
  simp [bt, List.getD, List.getElem?_append_right]
theorem bt_left (l r : List UInt8) (i : Nat) (h : i < l.length) : bt (l ++ r) i = bt l i := by
  simp [bt, List.getD, List.getElem?_append_left h]
theorem W32_app (l r : List UInt8) (i : Nat) : W32 (l ++ r) (l.length + i) = W32 r i := by
  simp only [W32, Nat.add_assoc, bt_app]
theorem W32_be4 (x : Nat) (r : List UInt8) (h : x < 4294967296) : W32 (be4 x ++ r) 0 = x := by
  have h1 := be4_sum x h
  simp only [W32, bt, be4, List.cons_append, List.nil_append, List.getD_cons_zero, List.getD_cons_succ, Nat.zero_add, UInt8.toNat_ofNat']
  omega
theorem be4_len (x : Nat) : (be4 x).length = 4 := rfl
theorem W32_skip (x : Nat) (r : List UInt8) (i : Nat) : W32 (be4 x ++ r) (4 + i) = W32 r i := W32_app (be4 x) r i
/-- A message's bytes, with whatever behind. -/
theorem Ms.Fit.enc {m : Ms} (h : m.Fit) (data : List UInt8) (hd : data.length = m.dn) (rest : List UInt8) : Enc (m.enc data ++ rest) m.op m.fl m.tag (fun i => m.ws.getD i 0) m.dn := by
  obtain ⟨op, fl, lun, tag, w0, w1, w2, w3, w4, w5, w6, da, dn, dc⟩ := m
  obtain ⟨hop, hfl, hl, htag, hdn, hws⟩ := h
  simp only at hop hfl hl htag hdn hd
  have hop64 : op < 64 := by
    simp only [opsL, List.mem_cons, List.not_mem_nil, or_false] at hop
    omega
  have q0 := hws w0 (by simp [Ms.ws])
  have q1 := hws w1 (by simp [Ms.ws])
  have q2 := hws w2 (by simp [Ms.ws])
  have q3 := hws w3 (by simp [Ms.ws])
  have q4 := hws w4 (by simp [Ms.ws])
  have q5 := hws w5 (by simp [Ms.ws])
  have q6 := hws w6 (by simp [Ms.ws])
  have e : Ms.enc ⟨op, fl, lun, tag, w0, w1, w2, w3, w4, w5, w6, da, dn, dc⟩ data ++ rest = [UInt8.ofNat op, UInt8.ofNat fl, 0, 0] ++ (be4 dn ++ (be4 0 ++ (be4 0 ++ (be4 tag ++ (be4 w0 ++ (be4 w1 ++ (be4 w2 ++ (be4 w3 ++ (be4 w4 ++ (be4 w5 ++ (be4 w6 ++ (data ++ (List.replicate (padN dn) 0 ++ rest))))))))))))) := by
    simp [Ms.enc, Ms.ws]
  rw [e]
  have s4 : ∀ r i, W32 ([UInt8.ofNat op, UInt8.ofNat fl, 0, 0] ++ r) (4 + i) = W32 r i := fun r i => W32_app [UInt8.ofNat op, UInt8.ofNat fl, 0, 0] r i
  refine ⟨?_, ?_, hop, ?_, ?_, ?_, ?_, ?_, hdn, ?_, ?_, ?_, ?_, ?_⟩
  · simp [be4_len, hd]
    omega
  · simp [bt, UInt8.toNat_ofNat']
    omega
  · simp [bt, UInt8.toNat_ofNat']
    omega
  · simp [bt]
  · simp [bt]
  · simp [bt, be4, UInt8.toNat_ofNat']
    omega
  · rw [show (4 : Nat) = 4 + 0 from rfl, s4, W32_be4 _ _ (by omega)]
  · rw [show (8 : Nat) = 4 + (4 + 0) from rfl, s4, W32_skip, W32_be4 _ _ (by omega)]
  · rw [show (12 : Nat) = 4 + (4 + (4 + 0)) from rfl, s4, W32_skip, W32_skip, W32_be4 _ _ (by omega)]
  · rw [show (16 : Nat) = 4 + (4 + (4 + (4 + 0))) from rfl, s4, W32_skip, W32_skip, W32_skip, W32_be4 _ _ htag]
  · intro i hi
    match i, hi with
    | 0, _ => rw [show 20 + 4 * 0 = 4 + (4 + (4 + (4 + (4 + 0)))) from rfl, s4, W32_skip, W32_skip, W32_skip, W32_skip, W32_be4 _ _ q0]; rfl
    | 1, _ => rw [show 20 + 4 * 1 = 4 + (4 + (4 + (4 + (4 + (4 + 0))))) from rfl, s4, W32_skip, W32_skip, W32_skip, W32_skip, W32_skip, W32_be4 _ _ q1]; rfl
    | 2, _ => rw [show 20 + 4 * 2 = 4 + (4 + (4 + (4 + (4 + (4 + (4 + 0)))))) from rfl, s4, W32_skip, W32_skip, W32_skip, W32_skip, W32_skip, W32_skip, W32_be4 _ _ q2]; rfl
    | 3, _ => rw [show 20 + 4 * 3 = 4 + (4 + (4 + (4 + (4 + (4 + (4 + (4 + 0))))))) from rfl, s4, W32_skip, W32_skip, W32_skip, W32_skip, W32_skip, W32_skip, W32_skip, W32_be4 _ _ q3]; rfl
    | 4, _ => rw [show 20 + 4 * 4 = 4 + (4 + (4 + (4 + (4 + (4 + (4 + (4 + (4 + 0)))))))) from rfl, s4, W32_skip, W32_skip, W32_skip, W32_skip, W32_skip, W32_skip, W32_skip, W32_skip, W32_be4 _ _ q4]; rfl
    | 5, _ => rw [show 20 + 4 * 5 = 4 + (4 + (4 + (4 + (4 + (4 + (4 + (4 + (4 + (4 + 0))))))))) from rfl, s4, W32_skip, W32_skip, W32_skip, W32_skip, W32_skip, W32_skip, W32_skip, W32_skip, W32_skip, W32_be4 _ _ q5]; rfl
    | 6, _ => rw [show 20 + 4 * 6 = 4 + (4 + (4 + (4 + (4 + (4 + (4 + (4 + (4 + (4 + (4 + 0)))))))))) from rfl, s4, W32_skip, W32_skip, W32_skip, W32_skip, W32_skip, W32_skip, W32_skip, W32_skip, W32_skip, W32_skip, W32_be4 _ _ q6]; rfl
  · intro j h1 h2
    replace h1 : 48 + dn ≤ j := h1
    replace h2 : j < 48 + dn + padN dn := h2
    have e2 : ([UInt8.ofNat op, UInt8.ofNat fl, 0, 0] ++ (be4 dn ++ (be4 0 ++ (be4 0 ++ (be4 tag ++ (be4 w0 ++ (be4 w1 ++ (be4 w2 ++ (be4 w3 ++ (be4 w4 ++ (be4 w5 ++ (be4 w6 ++ (data ++ (List.replicate (padN dn) 0 ++ rest))))))))))))) : List UInt8) =
        ([UInt8.ofNat op, UInt8.ofNat fl, 0, 0] ++ be4 dn ++ be4 0 ++ be4 0 ++ be4 tag ++ be4 w0 ++ be4 w1 ++ be4 w2 ++ be4 w3 ++ be4 w4 ++ be4 w5 ++ be4 w6 ++ data) ++ (List.replicate (padN dn) 0 ++ rest) := by simp
    rw [e2]
    have hl2 : ([UInt8.ofNat op, UInt8.ofNat fl, 0, 0] ++ be4 dn ++ be4 0 ++ be4 0 ++ be4 tag ++ be4 w0 ++ be4 w1 ++ be4 w2 ++ be4 w3 ++ be4 w4 ++ be4 w5 ++ be4 w6 ++ data).length = 48 + dn := by
      simp [be4_len, hd]
      omega
    have hj : j = ([UInt8.ofNat op, UInt8.ofNat fl, 0, 0] ++ be4 dn ++ be4 0 ++ be4 0 ++ be4 tag ++ be4 w0 ++ be4 w1 ++ be4 w2 ++ be4 w3 ++ be4 w4 ++ be4 w5 ++ be4 w6 ++ data).length + (j - (48 + dn)) := by rw [hl2]; omega
    rw [hj, bt_app, bt_left _ _ _ (by simp; omega)]
    simp [bt, List.getD, List.getElem?_replicate]
    split <;> rfl
end Go.Proofs.Ytfkhefoilancnaa
