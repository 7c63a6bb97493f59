/- What the law's first texts are. -/
import Derived.Test.YtjdcegogkafmoaaDoorReB
namespace Go.Proofs.YtjdcegogkafmoaaDoor
open Go.RowKit
def s0A : List UInt8 := [40, 97, 32, 62, 61, 32, 49, 45, 49, 32, 111, 114, 32, 40, 32, 98, 32, 97, 110, 100, 32, 99, 32, 41, 41]
def d0A : Rdp := .mk [111, 114] [] 0 [] [.mk [] [97] 4 [49, 45, 49] [], .mk [97, 110, 100] [] 0 [] [.mk [] [98] 0 [] [], .mk [] [99] 0 [] []]]
def s1A : List UInt8 := [40, 97, 32, 97, 110, 100, 32, 98, 32, 111, 114, 32, 99, 41]
def t0A : List UInt8 := [40, 97, 32, 62, 61, 32, 49, 45, 49, 32, 111, 114, 32, 40, 98, 32, 97, 110, 100, 32, 99, 41, 41]
theorem parse0 : ∃ ts n, parseP s0A = .ok d0A ts n := ⟨[([], 25)], 3, by kernel_rfl⟩
theorem parse1 : parseP s1A = .err 9 3 := by kernel_rfl
theorem chk0 : chkA d0A = 0 := by kernel_rfl
theorem txt0 : txtR d0A = t0A := by kernel_rfl
theorem dep0 : dR d0A = 2 := by kernel_rfl
theorem nm0 : nmR [112, 101, 114, 108, 40, 88, 41] = true := by kernel_rfl
end Go.Proofs.YtjdcegogkafmoaaDoor
