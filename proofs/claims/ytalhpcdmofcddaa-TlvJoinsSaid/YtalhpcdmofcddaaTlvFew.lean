/- The walk of the law's few. No condition. -/
import Derived.Test.YtalhpcdmofcddaaProg
import Derived.Test.YtalhpcdmofcddaaItems
namespace Go.Proofs.Ytalhpcdmofcddaa
open Go.RowKit
set_option linter.unusedVariables false

/-- What few tells. -/
def fewF (n : Nat) : List It → Bool
  | [] => true
  | x :: r => if 70000 < x.2.length ∨ 200000 < n then false else fewF (n + x.2.length) r

def fewL (l : List It) : Bool := if 100 < l.length then false else fewF 0 l

theorem drop_at_it {l : List It} {k : Nat} (h : k < l.length) : l.drop k = l.getD k (0, []) :: l.drop (k + 1) := by
  rw [List.drop_eq_getElem_cons h]; simp [List.getD, List.getElem?_eq_getElem h]

set_option maxRecDepth 100000 in
set_option maxHeartbeats 1600000 in
theorem few_any (v : Value) (l : List It) (w : World) (hl : Items w v l) :
    Calls Try.prog 12 #[v] w fun e w' => e = .returned (.bool (fewL l)) ∧ w' = w := by
  obtain ⟨a, cp, rfl⟩ := hl.len
  have HL := Lib.hid hl
  clear hl
  go_enter Try.func12, Try.ntmps12
  by_cases h100 : (100 : Int) < l.length
  · go_wp2
    go_ret
    exact ⟨ret_bool (by rw [fewL, if_pos (by omega)]), rfl⟩
  · go_wp2
    go_loop [3, 4] (fun nv iv => ∃ (k n : Nat), k ≤ l.length ∧ n ≤ 100 * 70000 + 270000 ∧ n ≤ k * 70000 ∧ nv = .int .i64 n ∧ iv = .int .i64 k ∧ fewL l = fewF n (l.drop k))
      (fun _ iv => l.length - (intOf iv).toNat)
    case atStart => exact ⟨0, 0, by omega, by omega, by omega, rfl, rfl, by rw [fewL, if_neg (by omega)]; rfl⟩
    case round =>
      obtain ⟨k, n, hk, hn, hnk, rfl, rfl, heq⟩ := hrel
      by_cases hlt : k < l.length
      · obtain ⟨b, off, c', hv, hbl, hc⟩ := HL.out.cell (by omega)
        obtain ⟨rfl, rfl⟩ : a = some ⟨b, off, none⟩ ∧ cp = c' := by cases hv; exact ⟨rfl, rfl⟩
        obtain ⟨hc1, u, hc2, hu⟩ := hc k hlt
        rw [drop_at_it hlt] at heq
        generalize l.getD k (0, []) = x at *
        obtain ⟨ua, uc, rfl⟩ := hu.len
        have Hc := Lib.hid hc
        have Hu := Lib.hid hu
        have Heq := Lib.hid heq
        clear hc hv hu heq
        by_cases hx1 : (70000 : Int) < x.2.length
        · go_wp2
          go_ret
          exact ⟨ret_bool (by rw [Heq.out, fewF, if_pos (.inl (by omega))]), rfl⟩
        · by_cases hx2 : (200000 : Int) < n
          · go_wp2
            go_ret
            exact ⟨ret_bool (by rw [Heq.out, fewF, if_pos (.inr (by omega))]), rfl⟩
          · go_wp2
            go_round
            case rel => exact ⟨k + 1, n + x.2.length, by omega, by omega, by omega, by go_num, by go_num, by rw [Heq.out, fewF, if_neg (by omega)]⟩
            case measure => simp [intOf]; omega
      · have Heq := Lib.hid heq
        clear heq
        go_wp2
        go_ret
        exact ⟨ret_bool (by rw [Heq.out, List.drop_of_length_le (by omega)]; rfl), rfl⟩

end Go.Proofs.Ytalhpcdmofcddaa
