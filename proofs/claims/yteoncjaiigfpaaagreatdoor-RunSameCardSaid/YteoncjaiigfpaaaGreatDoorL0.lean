import Derived.Test.YteoncjaiigfpaaaGreatDoorProg
import Derived.KernelRfl
import Derived.Test.YteoncjaiigfpaaaGreatDoorAb7
set_option linter.all false
namespace Go.Ab.L
def i (n : Int) : Value := .int .i64 n
def y : Value := .bool true
def n : Value := .bool false
def np : Value := .pointer none
def p (b o : Nat) : Value := .pointer (some ⟨b, o, none⟩)
def ns : Value := .slice none 0 0
def s (b o l c : Nat) : Value := .slice (some ⟨b, o, none⟩) l c
def t (b o l c : Nat) : Value := .slice (some ⟨b, o, none⟩) l (topCap + c)
def nm : Value := .map none
def m (r : Nat) : Value := .map (some r)
def nf : Value := .nilFunc
def ni : Value := .nilIface
def g (l : List Value) : Value := .agg l.toArray
end Go.Ab.L
namespace Go.Proofs
open Ab.L
set_option maxRecDepth 100000
def k9x8 : Ab.Known where
  f := 9
  args := [(g [(s 4 0 1 1), ns, (i 0), (i 0), (i 0), (i 0)]), (g [(i 1), (i 1), (i 1), (i 1), (i 4), (i 0), (i 0), (i 0), (i 0)]), ns, (i 100)]
  pre := [(0, (.row [nf, (.func (.func 356) #[] #[]), (.func (.func 356) #[] #[]), (.func (.func 356) #[] #[]), (.func (.func 357) #[] #[]), (.func (.func 357) #[] #[]), (.func (.func 358) #[] #[]), (.func (.func 358) #[] #[])] 0)),
  (1, (.row [nf, nf, nf, nf, nf, nf, nf, nf, (.func (.func 414) #[] #[]), (.func (.func 415) #[] #[]), (.func (.func 416) #[] #[])] 0)),
  (2, (.row [nf, (.func (.func 432) #[] #[]), (.func (.func 434) #[] #[]), (.func (.func 437) #[] #[]), (.func (.func 439) #[] #[]), (.func (.func 441) #[] #[]), (.func (.func 442) #[] #[]), (.func (.func 445) #[] #[]), (.func (.func 447) #[] #[]), (.func (.func 449) #[] #[]), (.func (.func 451) #[] #[]), (.func (.func 453) #[] #[]), (.func (.func 454) #[] #[]), (.func (.func 455) #[] #[]), (.func (.func 456) #[] #[]), (.func (.func 457) #[] #[]), (.func (.func 459) #[] #[]), (.func (.func 460) #[] #[]), (.func (.func 461) #[] #[]), (.func (.func 462) #[] #[])] 0)),
  (3, (.row [(i 1), (i 7), (i 0), (i 0), (i 17), (i 0), (i 0), (i 0)] 4)),
  (4, (.row [(i 0), (i 0), (s 3 0 2 2)] 3))]
  nx := 8
  ro := 3
  e := (.ret (.tuple #[(g [(i 1), (i 1), (i 1), (i 1), (i 4), (i 0), (i 0), (i 0), (i 0), (i 0), (i 1), (i 2), (i 3), (i 4), (i 5), (i 6), (i 9), (i 12), (i 16), (i 32), (i 32), (i 32), (i 32), (i 32), (i 40), (s 4 0 1 1), ns, (i 0), (i 0), (i 0), (i 0), (s 1512 0 40 40), (t 547 0 1 19), (t 549 0 1 1), (t 551 0 1 10), (t 553 0 1 1), (t 1584 0 4 8), ns, y, (i 7), (i 0)]), (i 0)]))
  post := [(0, (.row [nf, (.func (.func 356) #[] #[]), (.func (.func 356) #[] #[]), (.func (.func 356) #[] #[]), (.func (.func 357) #[] #[]), (.func (.func 357) #[] #[]), (.func (.func 358) #[] #[]), (.func (.func 358) #[] #[])] 0)),
  (1, (.row [nf, nf, nf, nf, nf, nf, nf, nf, (.func (.func 414) #[] #[]), (.func (.func 415) #[] #[]), (.func (.func 416) #[] #[])] 0)),
  (2, (.row [nf, (.func (.func 432) #[] #[]), (.func (.func 434) #[] #[]), (.func (.func 437) #[] #[]), (.func (.func 439) #[] #[]), (.func (.func 441) #[] #[]), (.func (.func 442) #[] #[]), (.func (.func 445) #[] #[]), (.func (.func 447) #[] #[]), (.func (.func 449) #[] #[]), (.func (.func 451) #[] #[]), (.func (.func 453) #[] #[]), (.func (.func 454) #[] #[]), (.func (.func 455) #[] #[]), (.func (.func 456) #[] #[]), (.func (.func 457) #[] #[]), (.func (.func 459) #[] #[]), (.func (.func 460) #[] #[]), (.func (.func 461) #[] #[]), (.func (.func 462) #[] #[])] 0)),
  (3, (.row [(i 1), (i 7), (i 0), (i 0), (i 17), (i 0), (i 0), (i 0)] 4)),
  (4, (.row [(i 0), (i 0), (s 3 0 2 2)] 3)),
  (396, (.row [] 1)),
  (434, (.row [(i 7)] 1)),
  (547, (.row [(i 5), (i 0), (i 1), (i 6), (i 7), (i 0), (i 0), (i 0), (i 0), (i 0), ns, (i 14), (i 0), (i 1), (i 7), (t 1541 0 4 2), (t 1568 0 4 1), ns, (i 0)] 19)),
  (549, (.row [(i 0)] 1)),
  (551, (.row [(i 1), ns, (i 0), (i 2), (s 396 0 0 0), (t 434 0 0 1), ns, (i 0), (i 2), n] 10)),
  (553, (.row [y] 1)),
  (1512, (.row [(i 1), (i 1), (i 1), (i 1), (i 1), (i 0), (i 0), (i 0), (i 0), (i 0), (i 0), (i 0), (i 0), (i 0), (i 0), (i 0), (i 3), (i 1), (i 7), (i 0), (i 0), (i 0), (i 0), (i 0), (i 0), (i 0), (i 0), (i 0), (i 0), (i 0), (i 0), (i 0), (i 0), (i 0), (i 0), (i 0), (i 0), (i 0), (i 0), (i 0)] 1)),
  (1541, (.row [(i 0), y, (i 2), y, (i 0), y, (i 0), y] 2)),
  (1568, (.row [(i 0), (i 1), (i 2), (i 3)] 1)),
  (1584, (.row [(i 0), (i 0), (i 2), (i 18), (i 0), (i 7), (i 0), y, (i 0), (i 0), (i 2), (i 16), (i 0), (i 3), (i 2), y, (i 0), (i 0), (i 1), (i 19), (i 0), (i 0), (i 0), y, (i 0), (i 0), (i 2), (i 0), (i 0), (i 1), (i 0), y] 8))]
  nx' := 1773
def k9x1775 : Ab.Known where
  f := 9
  args := [(g [(s 4 0 1 1), ns, (i 0), (i 0), (i 0), (i 0)]), (g [(i 2), (i 1), (i 1), (i 1), (i 4), (i 0), (i 0), (i 0), (i 0)]), (s 1774 0 3 3), (i 1000)]
  pre := [(0, (.row [nf, (.func (.func 356) #[] #[]), (.func (.func 356) #[] #[]), (.func (.func 356) #[] #[]), (.func (.func 357) #[] #[]), (.func (.func 357) #[] #[]), (.func (.func 358) #[] #[]), (.func (.func 358) #[] #[])] 0)),
  (1, (.row [nf, nf, nf, nf, nf, nf, nf, nf, (.func (.func 414) #[] #[]), (.func (.func 415) #[] #[]), (.func (.func 416) #[] #[])] 0)),
  (2, (.row [nf, (.func (.func 432) #[] #[]), (.func (.func 434) #[] #[]), (.func (.func 437) #[] #[]), (.func (.func 439) #[] #[]), (.func (.func 441) #[] #[]), (.func (.func 442) #[] #[]), (.func (.func 445) #[] #[]), (.func (.func 447) #[] #[]), (.func (.func 449) #[] #[]), (.func (.func 451) #[] #[]), (.func (.func 453) #[] #[]), (.func (.func 454) #[] #[]), (.func (.func 455) #[] #[]), (.func (.func 456) #[] #[]), (.func (.func 457) #[] #[]), (.func (.func 459) #[] #[]), (.func (.func 460) #[] #[]), (.func (.func 461) #[] #[]), (.func (.func 462) #[] #[])] 0)),
  (3, (.row [(i 1), (i 7), (i 0), (i 0), (i 17), (i 0), (i 0), (i 0)] 4)),
  (4, (.row [(i 0), (i 0), (s 3 0 2 2)] 3)),
  (1774, (.row [(i 1), (i 0), (i 0), (i 3), (i 0), (i 0), (i 3), (i 1), (i 0)] 3))]
  nx := 1775
  ro := 3
  e := (.ret (.tuple #[(g [(i 2), (i 1), (i 1), (i 1), (i 4), (i 0), (i 0), (i 0), (i 0), (i 0), (i 1), (i 2), (i 3), (i 4), (i 6), (i 8), (i 14), (i 20), (i 28), (i 44), (i 44), (i 44), (i 44), (i 44), (i 52), (s 4 0 1 1), ns, (i 0), (i 0), (i 0), (i 0), (s 6369 0 52 52), (t 2345 0 2 19), (t 2347 0 2 1), (t 5529 0 1 10), (t 2351 0 2 1), (t 6441 0 14 8), ns, y, (i 7), (i 0)]), (i 0)]))
  post := [(0, (.row [nf, (.func (.func 356) #[] #[]), (.func (.func 356) #[] #[]), (.func (.func 356) #[] #[]), (.func (.func 357) #[] #[]), (.func (.func 357) #[] #[]), (.func (.func 358) #[] #[]), (.func (.func 358) #[] #[])] 0)),
  (1, (.row [nf, nf, nf, nf, nf, nf, nf, nf, (.func (.func 414) #[] #[]), (.func (.func 415) #[] #[]), (.func (.func 416) #[] #[])] 0)),
  (2, (.row [nf, (.func (.func 432) #[] #[]), (.func (.func 434) #[] #[]), (.func (.func 437) #[] #[]), (.func (.func 439) #[] #[]), (.func (.func 441) #[] #[]), (.func (.func 442) #[] #[]), (.func (.func 445) #[] #[]), (.func (.func 447) #[] #[]), (.func (.func 449) #[] #[]), (.func (.func 451) #[] #[]), (.func (.func 453) #[] #[]), (.func (.func 454) #[] #[]), (.func (.func 455) #[] #[]), (.func (.func 456) #[] #[]), (.func (.func 457) #[] #[]), (.func (.func 459) #[] #[]), (.func (.func 460) #[] #[]), (.func (.func 461) #[] #[]), (.func (.func 462) #[] #[])] 0)),
  (3, (.row [(i 1), (i 7), (i 0), (i 0), (i 17), (i 0), (i 0), (i 0)] 4)),
  (4, (.row [(i 0), (i 0), (s 3 0 2 2)] 3)),
  (1774, (.row [(i 1), (i 0), (i 0), (i 3), (i 0), (i 0), (i 3), (i 1), (i 0)] 3)),
  (2194, (.row [] 1)),
  (2232, (.row [(i 7)] 1)),
  (2345, (.row [(i 5), (i 0), (i 1), (i 6), (i 7), (i 0), (i 0), (i 0), (i 0), (i 0), ns, (i 14), (i 0), (i 1), (i 7), (t 6398 0 4 2), (t 6425 0 4 1), ns, (i 0), (i 0), (i 0), (i 0), (i 0), (i 0), (i 0), (i 0), (i 0), (i 0), (i 0), ns, (i 9), (i 1), (i 0), (i 0), ns, ns, ns, (i 0)] 19)),
  (2347, (.row [(i 0), (i 0)] 1)),
  (2351, (.row [n, y] 1)),
  (5529, (.row [(i 1), ns, (i 0), (i 2), (s 2194 0 0 0), (t 2232 0 0 1), ns, (i 0), (i 2), n] 10)),
  (6369, (.row [(i 1), (i 1), (i 1), (i 1), (i 0), (i 1), (i 1), (i 1), (i 0), (i 0), (i 0), (i 0), (i 0), (i 0), (i 0), (i 0), (i 0), (i 0), (i 0), (i 0), (i 0), (i 0), (i 0), (i 0), (i 0), (i 0), (i 0), (i 0), (i 3), (i 1), (i 7), (i 0), (i 0), (i 0), (i 0), (i 0), (i 0), (i 0), (i 0), (i 0), (i 0), (i 0), (i 0), (i 0), (i 0), (i 0), (i 0), (i 0), (i 0), (i 0), (i 0), (i 0)] 1)),
  (6398, (.row [(i 0), y, (i 2), y, (i 0), y, (i 0), y] 2)),
  (6425, (.row [(i 0), (i 11), (i 12), (i 13)] 1)),
  (6441, (.row [(i 0), (i 0), (i 2), (i 30), (i 0), (i 7), (i 0), y, (i 0), (i 0), (i 0), (i 0), (i 0), (i 0), (i 0), n, (i 1), (i 1), (i 1), (i 18), (i 0), (i 0), (i 0), y, (i 1), (i 1), (i 2), (i 18), (i 0), (i (-1)), (i 0), y, (i 1), (i 1), (i 1), (i 17), (i 0), (i 0), (i 0), y, (i 1), (i 1), (i 2), (i 18), (i 0), (i 0), (i (-1)), y, (i 1), (i 1), (i 1), (i 14), (i 0), (i 0), (i 0), y, (i 1), (i 1), (i 1), (i 15), (i 0), (i 0), (i 0), y, (i 1), (i 1), (i 1), (i 6), (i 0), (i 0), (i 0), y, (i 1), (i 1), (i 1), (i 4), (i 0), (i 0), (i 0), y, (i 1), (i 1), (i 3), (i 6), (i 0), (i 1), (i 0), y, (i 1), (i 0), (i 2), (i 28), (i 0), (i 3), (i 2), y, (i 1), (i 0), (i 1), (i 31), (i 0), (i 0), (i 0), y, (i 1), (i 0), (i 2), (i 0), (i 0), (i 1), (i 0), y] 8))]
  nx' := 6630
def k9x6631 : Ab.Known where
  f := 9
  args := [(g [(s 4 0 1 1), ns, (i 0), (i 0), (i 0), (i 0)]), (g [(i 2), (i 1), (i 1), (i 1), (i 4), (i 0), (i 0), (i 0), (i 0)]), ns, (i (-1))]
  pre := [(0, (.row [nf, (.func (.func 356) #[] #[]), (.func (.func 356) #[] #[]), (.func (.func 356) #[] #[]), (.func (.func 357) #[] #[]), (.func (.func 357) #[] #[]), (.func (.func 358) #[] #[]), (.func (.func 358) #[] #[])] 0)),
  (1, (.row [nf, nf, nf, nf, nf, nf, nf, nf, (.func (.func 414) #[] #[]), (.func (.func 415) #[] #[]), (.func (.func 416) #[] #[])] 0)),
  (2, (.row [nf, (.func (.func 432) #[] #[]), (.func (.func 434) #[] #[]), (.func (.func 437) #[] #[]), (.func (.func 439) #[] #[]), (.func (.func 441) #[] #[]), (.func (.func 442) #[] #[]), (.func (.func 445) #[] #[]), (.func (.func 447) #[] #[]), (.func (.func 449) #[] #[]), (.func (.func 451) #[] #[]), (.func (.func 453) #[] #[]), (.func (.func 454) #[] #[]), (.func (.func 455) #[] #[]), (.func (.func 456) #[] #[]), (.func (.func 457) #[] #[]), (.func (.func 459) #[] #[]), (.func (.func 460) #[] #[]), (.func (.func 461) #[] #[]), (.func (.func 462) #[] #[])] 0)),
  (3, (.row [(i 1), (i 7), (i 0), (i 0), (i 17), (i 0), (i 0), (i 0)] 4)),
  (4, (.row [(i 0), (i 0), (s 3 0 2 2)] 3))]
  nx := 6631
  ro := 3
  e := (.ret (.tuple #[(g [(i 0), (i 0), (i 0), (i 0), (i 0), (i 0), (i 0), (i 0), (i 0), (i 0), (i 0), (i 0), (i 0), (i 0), (i 0), (i 0), (i 0), (i 0), (i 0), (i 0), (i 0), (i 0), (i 0), (i 0), (i 0), ns, ns, (i 0), (i 0), (i 0), (i 0), ns, ns, ns, ns, ns, ns, ns, n, (i 0), (i 0)]), (i 1)]))
  post := [(0, (.row [nf, (.func (.func 356) #[] #[]), (.func (.func 356) #[] #[]), (.func (.func 356) #[] #[]), (.func (.func 357) #[] #[]), (.func (.func 357) #[] #[]), (.func (.func 358) #[] #[]), (.func (.func 358) #[] #[])] 0)),
  (1, (.row [nf, nf, nf, nf, nf, nf, nf, nf, (.func (.func 414) #[] #[]), (.func (.func 415) #[] #[]), (.func (.func 416) #[] #[])] 0)),
  (2, (.row [nf, (.func (.func 432) #[] #[]), (.func (.func 434) #[] #[]), (.func (.func 437) #[] #[]), (.func (.func 439) #[] #[]), (.func (.func 441) #[] #[]), (.func (.func 442) #[] #[]), (.func (.func 445) #[] #[]), (.func (.func 447) #[] #[]), (.func (.func 449) #[] #[]), (.func (.func 451) #[] #[]), (.func (.func 453) #[] #[]), (.func (.func 454) #[] #[]), (.func (.func 455) #[] #[]), (.func (.func 456) #[] #[]), (.func (.func 457) #[] #[]), (.func (.func 459) #[] #[]), (.func (.func 460) #[] #[]), (.func (.func 461) #[] #[]), (.func (.func 462) #[] #[])] 0)),
  (3, (.row [(i 1), (i 7), (i 0), (i 0), (i 17), (i 0), (i 0), (i 0)] 4)),
  (4, (.row [(i 0), (i 0), (s 3 0 2 2)] 3))]
  nx' := 6635
def k9x6636 : Ab.Known where
  f := 9
  args := [(g [(s 4 0 1 1), ns, (i 0), (i 0), (i 0), (i 0)]), (g [(i 2), (i 1), (i 1), (i 1), (i 4), (i 0), (i 0), (i 0), (i 0)]), ns, (i 3)]
  pre := [(0, (.row [nf, (.func (.func 356) #[] #[]), (.func (.func 356) #[] #[]), (.func (.func 356) #[] #[]), (.func (.func 357) #[] #[]), (.func (.func 357) #[] #[]), (.func (.func 358) #[] #[]), (.func (.func 358) #[] #[])] 0)),
  (1, (.row [nf, nf, nf, nf, nf, nf, nf, nf, (.func (.func 414) #[] #[]), (.func (.func 415) #[] #[]), (.func (.func 416) #[] #[])] 0)),
  (2, (.row [nf, (.func (.func 432) #[] #[]), (.func (.func 434) #[] #[]), (.func (.func 437) #[] #[]), (.func (.func 439) #[] #[]), (.func (.func 441) #[] #[]), (.func (.func 442) #[] #[]), (.func (.func 445) #[] #[]), (.func (.func 447) #[] #[]), (.func (.func 449) #[] #[]), (.func (.func 451) #[] #[]), (.func (.func 453) #[] #[]), (.func (.func 454) #[] #[]), (.func (.func 455) #[] #[]), (.func (.func 456) #[] #[]), (.func (.func 457) #[] #[]), (.func (.func 459) #[] #[]), (.func (.func 460) #[] #[]), (.func (.func 461) #[] #[]), (.func (.func 462) #[] #[])] 0)),
  (3, (.row [(i 1), (i 7), (i 0), (i 0), (i 17), (i 0), (i 0), (i 0)] 4)),
  (4, (.row [(i 0), (i 0), (s 3 0 2 2)] 3))]
  nx := 6636
  ro := 3
  e := (.ret (.tuple #[(g [(i 2), (i 1), (i 1), (i 1), (i 4), (i 0), (i 0), (i 0), (i 0), (i 0), (i 1), (i 2), (i 3), (i 4), (i 6), (i 8), (i 14), (i 20), (i 28), (i 44), (i 44), (i 44), (i 44), (i 44), (i 52), (s 4 0 1 1), ns, (i 0), (i 0), (i 0), (i 0), (s 7864 0 52 52), (t 7206 0 2 19), (t 7208 0 2 1), (t 7210 0 1 10), (t 7212 0 2 1), (t 7936 0 3 8), ns, y, (i 0), (i 11)]), (i 0)]))
  post := [(0, (.row [nf, (.func (.func 356) #[] #[]), (.func (.func 356) #[] #[]), (.func (.func 356) #[] #[]), (.func (.func 357) #[] #[]), (.func (.func 357) #[] #[]), (.func (.func 358) #[] #[]), (.func (.func 358) #[] #[])] 0)),
  (1, (.row [nf, nf, nf, nf, nf, nf, nf, nf, (.func (.func 414) #[] #[]), (.func (.func 415) #[] #[]), (.func (.func 416) #[] #[])] 0)),
  (2, (.row [nf, (.func (.func 432) #[] #[]), (.func (.func 434) #[] #[]), (.func (.func 437) #[] #[]), (.func (.func 439) #[] #[]), (.func (.func 441) #[] #[]), (.func (.func 442) #[] #[]), (.func (.func 445) #[] #[]), (.func (.func 447) #[] #[]), (.func (.func 449) #[] #[]), (.func (.func 451) #[] #[]), (.func (.func 453) #[] #[]), (.func (.func 454) #[] #[]), (.func (.func 455) #[] #[]), (.func (.func 456) #[] #[]), (.func (.func 457) #[] #[]), (.func (.func 459) #[] #[]), (.func (.func 460) #[] #[]), (.func (.func 461) #[] #[]), (.func (.func 462) #[] #[])] 0)),
  (3, (.row [(i 1), (i 7), (i 0), (i 0), (i 17), (i 0), (i 0), (i 0)] 4)),
  (4, (.row [(i 0), (i 0), (s 3 0 2 2)] 3)),
  (7055, (.row [] 1)),
  (7093, (.row [(i 7)] 1)),
  (7206, (.row [(i 5), (i 0), (i 1), (i 6), (i 7), (i 0), (i 0), (i 0), (i 0), (i 0), ns, (i 14), (i 0), (i 1), (i 7), (t 7893 0 2 2), (t 7920 0 2 1), ns, (i 0), (i 0), (i 0), (i 0), (i 0), (i 0), (i 0), (i 0), (i 0), (i 0), (i 0), ns, (i 9), (i 1), (i 0), (i 0), (t 7618 0 1 2), (t 7645 0 1 1), ns, (i 0)] 19)),
  (7208, (.row [(i 0), (i 1)] 1)),
  (7210, (.row [(i 1), ns, (i 0), (i 2), (s 7055 0 0 0), (t 7093 0 0 1), ns, (i 0), (i 2), n] 10)),
  (7212, (.row [y, y] 1)),
  (7618, (.row [(i 0), y] 2)),
  (7645, (.row [(i 1)] 1)),
  (7864, (.row [(i 0), (i 1), (i 1), (i 1), (i 1), (i 1), (i 0), (i 1), (i 0), (i 0), (i 0), (i 0), (i 0), (i 0), (i 0), (i 0), (i 0), (i 0), (i 0), (i 0), (i 0), (i 0), (i 0), (i 0), (i 0), (i 0), (i 0), (i 0), (i 3), (i 1), (i 7), (i 0), (i 0), (i 0), (i 0), (i 0), (i 0), (i 0), (i 0), (i 0), (i 0), (i 0), (i 0), (i 0), (i 0), (i 0), (i 0), (i 0), (i 0), (i 0), (i 0), (i 0)] 1)),
  (7893, (.row [(i 0), y, (i 2), y] 2)),
  (7920, (.row [(i 0), (i 2)] 1)),
  (7936, (.row [(i 0), (i 0), (i 2), (i 30), (i 0), (i 7), (i 0), y, (i 1), (i 1), (i 1), (i 18), (i 0), (i 0), (i 0), y, (i 0), (i 0), (i 2), (i 28), (i 0), (i 3), (i 2), y] 8))]
  nx' := 8050
def k13x8051 : Ab.Known where
  f := 13
  args := [(g [(s 4 0 1 1), ns, (i 0), (i 0), (i 0), (i 0)]), (g [(i 2), (i 1), (i 1), (i 1), (i 4), (i 0), (i 0), (i 0), (i 0)])]
  pre := [(0, (.row [nf, (.func (.func 356) #[] #[]), (.func (.func 356) #[] #[]), (.func (.func 356) #[] #[]), (.func (.func 357) #[] #[]), (.func (.func 357) #[] #[]), (.func (.func 358) #[] #[]), (.func (.func 358) #[] #[])] 0)),
  (1, (.row [nf, nf, nf, nf, nf, nf, nf, nf, (.func (.func 414) #[] #[]), (.func (.func 415) #[] #[]), (.func (.func 416) #[] #[])] 0)),
  (2, (.row [nf, (.func (.func 432) #[] #[]), (.func (.func 434) #[] #[]), (.func (.func 437) #[] #[]), (.func (.func 439) #[] #[]), (.func (.func 441) #[] #[]), (.func (.func 442) #[] #[]), (.func (.func 445) #[] #[]), (.func (.func 447) #[] #[]), (.func (.func 449) #[] #[]), (.func (.func 451) #[] #[]), (.func (.func 453) #[] #[]), (.func (.func 454) #[] #[]), (.func (.func 455) #[] #[]), (.func (.func 456) #[] #[]), (.func (.func 457) #[] #[]), (.func (.func 459) #[] #[]), (.func (.func 460) #[] #[]), (.func (.func 461) #[] #[]), (.func (.func 462) #[] #[])] 0)),
  (3, (.row [(i 1), (i 7), (i 0), (i 0), (i 17), (i 0), (i 0), (i 0)] 4)),
  (4, (.row [(i 0), (i 0), (s 3 0 2 2)] 3))]
  nx := 8051
  ro := 3
  e := (.ret (.tuple #[(g [(i 2), (i 1), (i 1), (i 1), (i 4), (i 0), (i 0), (i 0), (i 0), (i 0), (i 1), (i 2), (i 3), (i 4), (i 6), (i 8), (i 14), (i 20), (i 28), (i 44), (i 44), (i 44), (i 44), (i 44), (i 52), (s 4 0 1 1), ns, (i 0), (i 0), (i 0), (i 0), (s 8339 0 52 52), (t 8419 0 2 19), (t 8405 0 2 1), (s 8589 0 1 1), (t 8404 0 2 1), ns, ns, n, (i 0), (i 0)]), (i 0)]))
  post := [(0, (.row [nf, (.func (.func 356) #[] #[]), (.func (.func 356) #[] #[]), (.func (.func 356) #[] #[]), (.func (.func 357) #[] #[]), (.func (.func 357) #[] #[]), (.func (.func 358) #[] #[]), (.func (.func 358) #[] #[])] 0)),
  (1, (.row [nf, nf, nf, nf, nf, nf, nf, nf, (.func (.func 414) #[] #[]), (.func (.func 415) #[] #[]), (.func (.func 416) #[] #[])] 0)),
  (2, (.row [nf, (.func (.func 432) #[] #[]), (.func (.func 434) #[] #[]), (.func (.func 437) #[] #[]), (.func (.func 439) #[] #[]), (.func (.func 441) #[] #[]), (.func (.func 442) #[] #[]), (.func (.func 445) #[] #[]), (.func (.func 447) #[] #[]), (.func (.func 449) #[] #[]), (.func (.func 451) #[] #[]), (.func (.func 453) #[] #[]), (.func (.func 454) #[] #[]), (.func (.func 455) #[] #[]), (.func (.func 456) #[] #[]), (.func (.func 457) #[] #[]), (.func (.func 459) #[] #[]), (.func (.func 460) #[] #[]), (.func (.func 461) #[] #[]), (.func (.func 462) #[] #[])] 0)),
  (3, (.row [(i 1), (i 7), (i 0), (i 0), (i 17), (i 0), (i 0), (i 0)] 4)),
  (4, (.row [(i 0), (i 0), (s 3 0 2 2)] 3)),
  (8339, (.row [(i 0), (i 1), (i 1), (i 1), (i 1), (i 1), (i 0), (i 1), (i 0), (i 0), (i 0), (i 0), (i 0), (i 0), (i 0), (i 0), (i 0), (i 0), (i 0), (i 0), (i 0), (i 0), (i 0), (i 0), (i 0), (i 0), (i 0), (i 0), (i 2), (i 1), (i 0), (i 0), (i 0), (i 0), (i 0), (i 0), (i 0), (i 0), (i 0), (i 0), (i 0), (i 0), (i 0), (i 0), (i 0), (i 0), (i 0), (i 0), (i 0), (i 0), (i 0), (i 0)] 1)),
  (8404, (.row [y, y] 1)),
  (8405, (.row [(i 0), (i 1)] 1)),
  (8419, (.row [(i 5), (i 0), (i 1), (i 6), (i 7), (i 0), (i 0), (i 0), (i 0), (i 0), ns, (i 14), (i 0), (i 1), (i 7), ns, ns, ns, (i 0), (i 0), (i 0), (i 0), (i 0), (i 0), (i 0), (i 0), (i 0), (i 0), (i 0), ns, (i 9), (i 1), (i 0), (i 0), ns, ns, ns, (i 0)] 19)),
  (8466, (.row [] 1)),
  (8504, (.row [(i 7)] 1)),
  (8589, (.row [(i 1), ns, (i 0), (i 2), (s 8466 0 0 0), (t 8504 0 0 1), ns, (i 0), (i 2), n] 10))]
  nx' := 8594
end Go.Proofs
