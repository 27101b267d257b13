/- Plain facts of the laws' awake of trees, and of deep trees. Conditions: none. -/
import Derived.Test.YtcicibeggkmlcaaGreatDoorPlV
import Derived.KernelRfl
namespace Go.Sof
open Go.Lib

def awS : Bytes := [32, 60, 97, 32, 98, 61, 34, 49, 34, 62, 32, 60, 99, 62, 120, 60, 47, 99, 62, 32, 60, 47, 97, 62, 32]
def awN : PNode := .mk [97] 1 [⟨[98], [49]⟩] [.mk [99] 11 [] [] [120]] []
def awO : Bytes := [60, 97, 32, 98, 61, 34, 49, 34, 62, 60, 99, 62, 120, 60, 47, 99, 62, 60, 47, 97, 62]
theorem aw_parse : parseT awS = .ok awN := by kernel_rfl
theorem aw_text : textT awN = .ok awO := by kernel_rfl

def deepS (k : Nat) : Bytes := (List.replicate k [60, 97, 62]).flatten
def deepT (k : Nat) : Bytes := (List.replicate k [60, 47, 97, 62]).flatten
/-- what the law TreeDeep asks of depth k. -/
def deepOK (k : Nat) : Bool :=
  match parseT (deepS k ++ deepT k) with
  | .error (a, e) => Nat.blt 64 k && (a == 192 && e == 9)
  | .ok n => Nat.ble k 64 && (match textT n with
    | .ok t => t == (deepS k).take (3 * k - 3) ++ ([60, 97, 47, 62] ++ (deepT k).take (4 * k - 4))
    | .error _ => false)
theorem deep_all : (List.range 20).all (fun j => deepOK (55 + j)) = true := by kernel_rfl
end Go.Sof
