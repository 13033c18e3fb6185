/- The bytes of a string, as a fresh slice that is only read from then on; condition: the string is no longer than an int tells. -/
import Derived.Test.YtaicpljgijjenaaGreatDoorVMore
import Derived.Test.YtaicpljgijjenaaGreatDoorVWords
import Derived.Test.YtaicpljgijjenaaGreatDoorProg
import Derived.Below
import Derived.Lib.ConvBytes
import Derived.WalkKit
import Derived.Laws.Rows
namespace Go.Proofs.YtaicpljgijjenaaGreatDoor.Hand
open Go.RowKit Go.Proofs.YtaicpljgijjenaaGreatDoorW.PrintWords Go.Proofs.YtaicpljgijjenaaGreatDoorW.PrintMore

theorem bytes_V (w : World) (s : ByteArray) (hs : s.size ≤ 9223372036854775807) :
    Kd.V (Kd.int .u8) 5 (Lib.bytesWorld w 5 s) w.heap.size (fun k_ => (w.heap.size ≤ k_)) (.slice (some ⟨w.heap.size, 0, none⟩) s.size (grownCap w s.size 0 5)) (bytesOf s) := by
  refine ⟨some ⟨w.heap.size, 0, none⟩, grownCap w s.size 0 5, by rw [bytesOf_length], by rw [bytesOf_length]; exact grownCap_ge _ _ _ _, fun W' hW => ?_⟩
  refine Kd.C_of_reads (enc := Value.int .u8) (d := (0 : Int)) (h1 := fun _ => rfl) ⟨rfl, by rw [bytesOf_length]; exact hs, fun _ => ⟨_, rfl, fun j hj => ?_⟩⟩
  rw [bytesOf_length] at hj
  rw [add_plain, World.cell?_of_block (w := Lib.bytesWorld w 5 s) (hW w.heap.size (Nat.le_refl _) (by rw [Lib.bytesWorld_size]; omega)), Lib.bytesWorld_cell w 5 s j hj]
  have h' : j < s.data.toList.length := by rw [data_length]; exact hj
  simp [bytesOf, List.getD_eq_getElem?_getD, List.getElem?_eq_getElem h']

theorem bytes_V' (w W : World) (s : ByteArray) (hs : s.size ≤ 9223372036854775807) (hw : w.heap.size ≤ W.heap.size) :
    Kd.V (Kd.int .u8) 5 (Lib.bytesWorld W 5 s) w.heap.size (fun k_ => (w.heap.size ≤ k_)) (.slice (some ⟨W.heap.size, 0, none⟩) s.size (grownCap W s.size 0 5)) (bytesOf s) := by
  obtain ⟨A, c, e1, e2, F⟩ := bytes_V W s hs
  exact ⟨A, c, e1, e2, fun W' hW => F W' (fun k hk hl => hW k (Nat.le_trans hw hk) hl)⟩

theorem V_string {P : Program} {w : World} {src dst e e' : TypeId} {base : Nat} {ok : Nat → Prop} {v : Value} {xs : List Int} (hs : P.underlying src = some (.slice e)) (he : P.underlying e = some (.int .u8)) (hd : P.underlying dst = some .string)
    (h : Kd.V (Kd.int .u8) e' w base ok v xs) : (convert src dst v).run P w = .ok (.string (strOfNums xs)) w := by
  obtain ⟨A, c, rfl, _, hF⟩ := h
  exact Kd.C_string hs he hd (Kd.F_now hF)

end Go.Proofs.YtaicpljgijjenaaGreatDoor.Hand
