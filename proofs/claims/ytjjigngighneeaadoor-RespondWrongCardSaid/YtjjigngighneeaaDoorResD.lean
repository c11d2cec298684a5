/- The head of the answer to what is none, in plain words. -/
import Derived.Test.YtjjigngighneeaaDoorRes4
namespace Go.Proofs.YtjjigngighneeaaDoor
open Go.RowKit
set_option linter.unusedVariables false
set_option linter.unusedSimpArgs false
set_option maxRecDepth 100000

def hdr (n v : List UInt8) : List UInt8 := n ++ 58 :: 32 :: (v ++ [13, 10])
def dateN : List UInt8 := [68, 97, 116, 101]
def servN : List UInt8 := [83, 101, 114, 118, 101, 114]
def pantV : List UInt8 := [112, 97, 110, 116, 108, 101, 114]
def ctN : List UInt8 := [67, 111, 110, 116, 101, 110, 116, 45, 84, 121, 112, 101]
def txtV : List UInt8 := [116, 101, 120, 116, 47, 112, 108, 97, 105, 110]
def clN : List UInt8 := [67, 111, 110, 116, 101, 110, 116, 45, 76, 101, 110, 103, 116, 104]
def connN : List UInt8 := [67, 111, 110, 110, 101, 99, 116, 105, 111, 110]
def closV : List UInt8 := [99, 108, 111, 115, 101]
def line1 (ds rs : List UInt8) : List UInt8 := [72, 84, 84, 80, 47, 49, 46, 49, 32] ++ (ds ++ 32 :: (rs ++ [13, 10]))
def headL (st now : Int) (D : List UInt8) : List UInt8 := line1 (decL st.toNat) (rsnL st) ++ ((if mayB now then hdr dateN D else []) ++ (hdr servN pantV ++ (hdr ctN txtV ++ (hdr clN (decL (bodyT st).length) ++ (hdr connN closV ++ [13, 10])))))
end Go.Proofs.YtjjigngighneeaaDoor
