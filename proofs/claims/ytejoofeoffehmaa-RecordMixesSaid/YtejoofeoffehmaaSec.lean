/- Facts of this program on the types of bytes and sectors. -/
import Derived.Test.YtejoofeoffehmaaRows
import Derived.Test.YtejoofeoffehmaaMem
import Derived.Test.YtejoofeoffehmaaApp
namespace Go.Proofs.Ytejoofeoffehmaa
open Go.RowKit

theorem elemB : ElemT Try.prog 25 5 1 1 := ElemT.mk_ (z := .int .u8 0) Try.underlying25 (by kernel_rfl) rfl (by decide)
theorem u8v_one (xs : List UInt8) : ∀ u ∈ xs.map u8v, u.oneCell' = true := by
  intro u hu
  obtain ⟨x, _, rfl⟩ := List.mem_map.1 hu
  rfl
theorem under_sec : Try.prog.underlying 47 = some (.array 8 5) := by kernel_rfl
theorem info_sec8 : (Try.prog.info? 47).map (·.size) = some 8 := by kernel_rfl
theorem info_sec (s : Sec) : (Try.prog.info? 47).map (·.size) = some (secCells s).length := by rw [secCells_length]; exact info_sec8
theorem info_secA (s : Sec) : (Try.prog.info? 47).map (·.size) = some (secCells s).toArray.size := by simp only [List.size_toArray]; exact info_sec s
def sec0 : Array Value := #[.int .u8 0, .int .u8 0, .int .u8 0, .int .u8 0, .int .u8 0, .int .u8 0, .int .u8 0, .int .u8 0]
theorem sec0_size (s : Sec) : sec0.size = (secCells s).toArray.size := by
  have h : (secCells s).toArray.size = 8 := by rw [List.size_toArray]; exact secCells_length s
  rw [h]; rfl
theorem zeroSec (w : World) : (zeroValue 47).run Try.prog w = .ok (.agg sec0) w := by kernel_rfl
theorem secCells_get (s : Sec) (q : Nat) (hq : q < 8) : (secCells s)[q]? = some (.int .u8 (s[q].toNat : Int)) := by
  rw [secCells, List.getElem?_map, List.getElem?_eq_getElem (by simpa using hq)]
  simp [u8v]
theorem u8_agg (w : World) : (isAgg 5).run Try.prog w = .ok false w := by kernel_rfl
theorem index_sec (s : Sec) (q : Nat) (hq : q < 8) (w : World) : (Instr.index 47 (.agg (secCells s).toArray) (.int .i64 (q : Int))).run Try.prog w = .ok (.int .u8 (s[q].toNat : Int)) w := by
  have h := secCells_get s q hq
  simp [Instr.index, asIntOf, run_underlying under_sec]
  rw [if_pos hq]
  simp [part, h]

def bytesOf (ss : List Sec) : List UInt8 := ss.flatMap (·.toList)
theorem bytesOf_length (ss : List Sec) : (bytesOf ss).length = ss.length * 8 := by
  induction ss with
  | nil => rfl
  | cons s ss ih =>
    show (s.toList ++ bytesOf ss).length = (ss.length + 1) * 8
    rw [List.length_append, ih, Vector.length_toList]
    omega
theorem bytesOf_append (a b : List Sec) : bytesOf (a ++ b) = bytesOf a ++ bytesOf b := by simp [bytesOf]
theorem bytesOf_take_succ (ss : List Sec) (k : Nat) (hk : k < ss.length) : bytesOf (ss.take (k + 1)) = bytesOf (ss.take k) ++ ss[k].toList := by
  rw [List.take_succ_eq_append_getElem hk, bytesOf_append]
  simp [bytesOf]
theorem secCells_bytes (ss : List Sec) : secsCells ss = (bytesOf ss).map u8v := by
  induction ss with
  | nil => rfl
  | cons s ss ih => simp only [secsCells, bytesOf, List.flatMap_cons, List.map_append] at ih ⊢; rw [← ih]; rfl
end Go.Proofs.Ytejoofeoffehmaa
