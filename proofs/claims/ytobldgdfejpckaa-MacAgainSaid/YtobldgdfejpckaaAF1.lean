/-
  What functions of the program come to, read off their code. No condition.
-/
import Derived.Test.YtobldgdfejpckaaASh
set_option linter.all false
set_option linter.unusedVariables false
set_option maxRecDepth 100000
namespace Go.Vc.SA
open Go.Proofs
/-- flume/mac.rounds -/
def sf74 (w0 : World) (R : (List Int) → World → Prop) : Prop :=
 newP w0 (.cells ((arrV .u32) (List.replicate 64 0)).cells 98) fun b_1 w_1 =>
 storeP w_1 (⟨b_1, 0, none⟩ : Addr) 64 ((arrV .u32) ([(1116352408 : Int), (1899447441 : Int), (3049323471 : Int), (3921009573 : Int), (961987163 : Int), (1508970993 : Int), (2453635748 : Int), (2870763221 : Int), (3624381080 : Int), (310598401 : Int), (607225278 : Int), (1426881987 : Int), (1925078388 : Int), (2162078206 : Int), (2614888103 : Int), (3248222580 : Int), (3835390401 : Int), (4022224774 : Int), (264347078 : Int), (604807628 : Int), (770255983 : Int), (1249150122 : Int), (1555081692 : Int), (1996064986 : Int), (2554220882 : Int), (2821834349 : Int), (2952996808 : Int), (3210313671 : Int), (3336571891 : Int), (3584528711 : Int), (113926993 : Int), (338241895 : Int), (666307205 : Int), (773529912 : Int), (1294757372 : Int), (1396182291 : Int), (1695183700 : Int), (1986661051 : Int), (2177026350 : Int), (2456956037 : Int), (2730485921 : Int), (2820302411 : Int), (3259730800 : Int), (3345764771 : Int), (3516065817 : Int), (3600352804 : Int), (4094571909 : Int), (275423344 : Int), (430227734 : Int), (506948616 : Int), (659060556 : Int), (883997877 : Int), (958139571 : Int), (1322822218 : Int), (1537002063 : Int), (1747873779 : Int), (1955562222 : Int), (2024104815 : Int), (2227730452 : Int), (2361852424 : Int), (2428436474 : Int), (2756734187 : Int), (3204031479 : Int), (3329325298 : Int)])) fun w_2 =>
 loadP w_2 (⟨b_1, 0, none⟩ : Addr) 64 (arrV .u32) fun v_2 =>
 unArrP .u32 ((arrV .u32) v_2) fun z_3 =>
 R z_3 w_2
def an74 : Ann := mkAnn [] []
theorem sf74_eq (w0 : World) (R : (List Int) → World → Prop) : sf74 w0 R = vcFn P sh an74 Try.f74 [] (shArr .u32) w0 R := by kernel_rfl
theorem nm74 : (Try.f74.name == "runtime.NumGoroutine") = false := by kernel_rfl
theorem sf74_call (w0 : World) (R : (List Int) → World → Prop) (hsf : sf74 w0 R) : callP P 74 #[] w0 (shArr .u32).val R :=
  vcFn_sound mixed Try.func74 nm74 (Eq.mp (sf74_eq w0 R) hsf)

end Go.Vc.SA
